/- Contracts and plain laws for Pings, part 10; no conditions but those that each theorem states. -/
import Derived.Test.YtlbaiighiaanoaaGreatDoorK9
import Derived.Test.YtlbaiighiaanoaaGreatDoorK3
import Derived.Test.YtlbaiighiaanoaaGreatDoorK4
import Derived.BigQuiet
import Derived.BigRegion
import Derived.Deep.DeepMust
import Derived.Test.YtlbaiighiaanoaaGreatDoorK6
import Derived.Defers
import Derived.Recover
/- Conn.right at pings and at frames of unknown types. -/
namespace Go.Proofs.YtlbaiighiaanoaaGreatDoor
open Go Go.Proofs Go.RowKit
set_option maxRecDepth 100000
set_option linter.unusedVariables false
set_option linter.unusedSimpArgs false
theorem right_pass (w : World) (lab : Nat → Nat) (hf : Fr w.heap lab) (B p : Nat) (g : CG) (s : CS) (f : Frm) (code : Int) (h : ConnAt fixedT w.heap lab B p g s) (ht : 10 ≤ f.type) :
    Calls Tryz.prog 75 #[ptr p, frmV f, .int .u32 code] w (PostC w lab B p s (.tuple #[])) := by
  obtain ⟨ty, fl, st, d⟩ := f
  have hbx := Blk.at_new w lab hf #[.int .u8 ty, .int .u8 fl, .int .u32 st, .string d] 32
  have st0 := (Stp.refl 0 0 hf).alloc (.cells #[.int .u8 ty, .int .u8 fl, .int .u32 st, .string d] 32)
  have h1 := h.kept st0 (by omega) (by omega)
  obtain ⟨c0, c1, c2, c3⟩ := hbx.cells4
  have PS := Lib.hid (pass_spec _ lab st0.fresh B p g s ⟨ty, fl, st, d⟩ h1)
  have t0 := ty_ne ht 0 (by omega)
  have t1 := ty_ne ht 1 (by omega)
  have t3 := ty_ne ht 3 (by omega)
  have t4 := ty_ne ht 4 (by omega)
  have t6 := ty_ne ht 6 (by omega)
  have t7 := ty_ne ht 7 (by omega)
  have t8 := ty_ne ht 8 (by omega)
  dsimp only [frmV] at *
  clear ht
  go_enter Tryz.func75, Tryz.ntmps75
  go_wp2_with fail
  refine PS.out.mono ?_
  rintro e w2 ⟨g2, lab2, rfl, h2, st2⟩
  go_wp2
  go_end0
  exact ⟨g2, lab2, rfl, h2, (st0.any _ _).trans st2⟩
theorem right_ping (w : World) (lab : Nat → Nat) (hf : Fr w.heap lab) (B p : Nat) (hB : 0 < B) (g : CG) (s : CS) (f : Frm) (code : Int) (h : ConnAt fixedT w.heap lab B p g s) (ht : f.type = 6) (hfl : f.flags < 256) (hd : f.data.size ≤ 16384) (hl : s.out.length ≤ 70368744177664) :
    Calls Tryz.prog 75 #[ptr p, frmV f, .int .u32 code] w (PostC w lab B p (pongF s f) (.tuple #[])) := by
  obtain ⟨ty, fl, st, d⟩ := f
  obtain rfl : ty = 6 := ht
  have hbx := Blk.at_new w lab hf #[.int .u8 (6 : Nat), .int .u8 fl, .int .u32 st, .string d] 32
  have st0 := (Stp.refl 0 0 hf).alloc (.cells #[.int .u8 (6 : Nat), .int .u8 fl, .int .u32 st, .string d] 32)
  have h1 := h.kept st0 (by omega) (by omega)
  obtain ⟨c0, c1, c2, c3⟩ := hbx.cells4
  have PS := Lib.hid (pong_spec _ lab st0.fresh B p hB g s ⟨6, fl, st, d⟩ h1 hfl hd hl)
  generalize pongF s ⟨6, fl, st, d⟩ = sF at *
  dsimp only [frmV] at *
  go_enter Tryz.func75, Tryz.ntmps75
  go_wp2_with fail
  refine PS.out.mono ?_
  rintro e w2 ⟨g2, lab2, rfl, h2, st2⟩
  go_wp2
  go_end0
  exact ⟨g2, lab2, rfl, h2, (st0.any _ _).trans st2⟩
end Go.Proofs.YtlbaiighiaanoaaGreatDoor

/- Conn.frame at a right frame, out of any block. -/
namespace Go.Proofs.YtlbaiighiaanoaaGreatDoor
open Go Go.Proofs Go.RowKit
set_option maxRecDepth 100000
set_option linter.unusedVariables false
set_option linter.unusedSimpArgs false
theorem cells_begun (g : CG) (s : CS) : (connCells g s).setIfInBounds 21 (.bool true) = connCells g { s with begun := true } := by kernel_rfl
set_option maxHeartbeats 1000000 in
theorem frame_good (w : World) (lab : Nat → Nat) (hf : Fr w.heap lab) (B p : Nat) (hB : 0 < B) (g : CG) (s sF : CS) (f : Frm) (h : ConnAt fixedT w.heap lab B p g s) (ok : f.Ok) (hw : wrongF f = (0, 0)) (h9 : f.type ≠ 9) (hon : s.block.on = false)
    (hbg : (!s.begun && ((f.type != 4) || flg f.flags 0)) = false)
    (RT : ∀ (w' : World) (lab' : Nat → Nat) (g' : CG), Fr w'.heap lab' → ConnAt fixedT w'.heap lab' B p g' { s with begun := true } → Calls Tryz.prog 75 #[ptr p, frmV f, .int .u32 0] w' (PostC w' lab' B p sF (.tuple #[]))) :
    Calls Tryz.prog 44 #[ptr p, frmV f] w (PostC w lab B p sF (.tuple #[])) := by
  have WR := fun (w' : World) (hf' : Fr w'.heap lab) => wrong_spec f w' lab hf' ok
  rw [hw] at WR
  obtain ⟨ty, fl, st, d⟩ := f
  obtain ⟨hty, hfl, _, _, _⟩ := ok
  dsimp only [frmV] at *
  have hbx := Blk.at_new w lab hf #[.int .u8 ty, .int .u8 fl, .int .u32 st, .string d] 32
  have st0 := (Stp.refl 0 0 hf).alloc (.cells #[.int .u8 ty, .int .u8 fl, .int .u32 st, .string d] 32)
  have h1 := h.kept st0 (by omega) (by omega)
  obtain ⟨c0, c1, c2, c3⟩ := hbx.cells4
  have b0 := and1 fl hfl
  have c21 := h1.blk.cell 21 (v := .bool s.begun) (by rfl)
  have f21 := h1.blk.free 21
  have c14 := h1.blk.cell 14 (v := .bool s.block.on) (by rfl)
  rw [hon] at c14
  have b1 := h1.blk.store 21 (.bool true)
  have t1 := h1.blk.storeStp st0.fresh 21 (.bool true)
  rw [cells_begun] at b1
  have h2 : ConnAt fixedT ((w.alloc (.cells #[.int .u8 ty, .int .u8 fl, .int .u32 st, .string d] 32)).setCell ⟨p, 21, none⟩ (.bool true)).heap lab B p g { s with begun := true } :=
    ⟨b1, (let q := h1.parts.kept t1 (by omega) (by omega); ⟨q.feed, q.dec, q.enc, q.book, q.opens, q.gone, q.out, q.events⟩)⟩
  have m9 : ((ty : Int) == 9) = false := by rw [beq_eq_false_iff_ne]; omega
  have WR := Lib.hid WR
  have RT := Lib.hid RT
  have hne : w.heap.size ≠ p := by have := Blk.lt h.blk; omega
  obtain ⟨e0, e1, e2, e3⟩ := (hbx.other (q := ⟨p, 21, none⟩) hne (.bool true)).cells4
  have e14 := h2.blk.cell 14 (v := .bool s.block.on) (by rfl)
  rw [hon] at e14
  have hbx2 := hbx.other (q := ⟨p, 21, none⟩) hne (.bool true)
  have st1 : Stp B (B + 16) w lab ((w.alloc (.cells #[.int .u8 ty, .int .u8 fl, .int .u32 st, .string d] 32)).setCell ⟨p, 21, none⟩ (.bool true)) lab := (st0.any _ _).trans (t1.mono (by omega) (by omega))
  generalize s.begun = bg at c21 hbg
  cases bg
  case true =>
    clear hbg
    go_enter Tryz.func44, Tryz.ntmps44
    go_wp2_with fail
    refine (WR.out _ st1.fresh).mono ?_
    rintro e w2 ⟨rfl, s2⟩
    have h3 := h2.kept s2 (by omega) (by omega)
    obtain ⟨q0, q1, q2, q3⟩ := (hbx2.kept s2 (by omega)).cells4
    go_wp2_with fail
    refine (RT.out w2 lab g s2.fresh h3).mono ?_
    rintro e w3 ⟨g3, lab3, rfl, h4, st4⟩
    go_wp2
    go_end0
    exact ⟨g3, lab3, rfl, h4, (st1.trans (s2.any _ _)).trans st4⟩
  case false =>
    simp only [Bool.not_false, Bool.true_and, Bool.or_eq_false_iff] at hbg
    obtain ⟨g4, g0⟩ := hbg
    have m4 : ((ty : Int) != 4) = false := bneI g4
    rw [g0] at b0
    simp only [if_false, Bool.false_eq_true] at b0
    clear g4 g0
    go_enter Tryz.func44, Tryz.ntmps44
    go_wp2_with fail
    refine (WR.out _ st1.fresh).mono ?_
    rintro e w2 ⟨rfl, s2⟩
    have h3 := h2.kept s2 (by omega) (by omega)
    obtain ⟨q0, q1, q2, q3⟩ := (hbx2.kept s2 (by omega)).cells4
    go_wp2_with fail
    refine (RT.out w2 lab g s2.fresh h3).mono ?_
    rintro e w3 ⟨g3, lab3, rfl, h4, st4⟩
    go_wp2
    go_end0
    exact ⟨g3, lab3, rfl, h4, (st1.trans (s2.any _ _)).trans st4⟩
end Go.Proofs.YtlbaiighiaanoaaGreatDoor

/- Conn.Take over a run of frames. IN WORK. -/
namespace Go.Proofs.YtlbaiighiaanoaaGreatDoor
open Go Go.Proofs Go.RowKit
set_option maxRecDepth 100000
set_option linter.unusedVariables false
set_option linter.unusedSimpArgs false
/-- Conn.frame takes a state to another one, in whatever world. -/
def StepOk (B p : Nat) (f : Frm) (s s' : CS) : Prop :=
  ∀ (w : World) (lab : Nat → Nat) (g : CG), Fr w.heap lab → ConnAt fixedT w.heap lab B p g s → Calls Tryz.prog 44 #[ptr p, frmV f] w (PostC w lab B p s' (.tuple #[]))
inductive Run (B p : Nat) : List Frm → CS → CS → Prop
  | nil (s : CS) : Run B p [] s s
  | skip {f : Frm} {fs : List Frm} {s s' : CS} : s.over = true → Run B p fs s s' → Run B p (f :: fs) s s'
  | step {f : Frm} {fs : List Frm} {s s1 s' : CS} : s.over = false → StepOk B p f s s1 → Run B p fs s1 s' → Run B p (f :: fs) s s'
/-- What Take leaves: the events in a slice of their own. -/
def PostTake (w : World) (lab : Nat → Nat) (B p : Nat) (s : CS) (e : Ending) (w' : World) : Prop :=
  ∃ g lab' v, e = .returned v ∧ EvsAt w'.heap lab' (B + 13) v s.events ∧ ConnAt fixedT w'.heap lab' B p g { s with events := [] } ∧ Stp B (B + 16) w lab w' lab'
theorem take_over (w : World) (lab : Nat → Nat) (hf : Fr w.heap lab) (B p : Nat) (g : CG) (s : CS) (b : ByteArray) (h : ConnAt fixedT w.heap lab B p g s) (ho : s.over = true) :
    Calls Tryz.prog 13 #[ptr p, .string b] w (PostC w lab B p s (.slice none 0 0)) := by
  have c24 := h.blk.cell 24 (v := .bool s.over) (by rfl)
  rw [ho] at c24
  clear ho
  go_enter Tryz.func13, Tryz.ntmps13
  go_wp2
  go_ret
  exact ⟨g, lab, rfl, h, Stp.refl _ _ hf⟩
end Go.Proofs.YtlbaiighiaanoaaGreatDoor

/- A frame's cells in a list of frames. -/
namespace Go.Proofs.YtlbaiighiaanoaaGreatDoor
open Go Go.Proofs Go.RowKit
set_option maxRecDepth 100000
set_option linter.unusedVariables false
set_option linter.unusedSimpArgs false
theorem frmCells_len (l : List Frm) : (l.flatMap frmCells).length = l.length * 4 := by
  induction l with
  | nil => rfl
  | cons q l ih => rw [List.flatMap_cons, List.length_append, ih]; simp [frmCells]; omega
theorem Owns.frame {w : World} {base : Nat} {v : Value} {done rest : List Frm} {f : Frm} (h : Owns w.heap base 32 4 v (done ++ f :: rest).length ((done ++ f :: rest).flatMap frmCells)) :
    ∃ g cap, v = .slice (some ⟨g, 0, none⟩) (done ++ f :: rest).length cap ∧ w.cell? ⟨g, done.length * 4, none⟩ = some (.int .u8 f.type) ∧ w.cell? ⟨g, done.length * 4 + 1, none⟩ = some (.int .u8 f.flags) ∧ w.cell? ⟨g, done.length * 4 + 2, none⟩ = some (.int .u32 f.stream) ∧ w.cell? ⟨g, done.length * 4 + 3, none⟩ = some (.string f.data) := by
  have hne : (done ++ f :: rest).length ≠ 0 := by simp
  rcases h.2 with ⟨rfl, h0⟩ | ⟨g, cap, cur, rfl, _, hg, _, _, _, ht⟩
  · exact absurd h0 hne
  · have hx : (done ++ f :: rest).flatMap frmCells = done.flatMap frmCells ++ (Value.int .u8 f.type :: Value.int .u8 f.flags :: Value.int .u32 f.stream :: Value.string f.data :: rest.flatMap frmCells) := by rw [List.flatMap_append, List.flatMap_cons]; rfl
    have hl := frmCells_len done
    have at_ : ∀ (k : Nat) (u : Value), (Value.int .u8 f.type :: Value.int .u8 f.flags :: Value.int .u32 f.stream :: Value.string f.data :: rest.flatMap frmCells)[k]? = some u → w.cell? ⟨g, done.length * 4 + k, none⟩ = some u := fun k u hu => by
      have c := World.ownsRow.cells (Owns.to h) (g := g) rfl (done.length * 4 + k) u (by rw [hx, ← hl, List.getElem?_append_right (by omega), Nat.add_sub_cancel_left]; exact hu)
      have ha : ∀ j, (⟨g, 0, none⟩ : Addr).add j = ⟨g, j, none⟩ := fun j => by unfold Addr.add; split <;> simp_all
      rw [ha] at c
      exact c
    exact ⟨g, cap, rfl, at_ 0 _ rfl, at_ 1 _ rfl, at_ 2 _ rfl, at_ 3 _ rfl⟩
end Go.Proofs.YtlbaiighiaanoaaGreatDoor

/- Conn.Take over a run of frames. -/
namespace Go.Proofs.YtlbaiighiaanoaaGreatDoor
open Go Go.Proofs Go.RowKit
set_option maxRecDepth 100000
set_option linter.unusedVariables false
set_option linter.unusedSimpArgs false
theorem cells_events (g : CG) (s : CS) (v : Value) : (connCells g s).setIfInBounds 20 v = connCells { g with events := v } s := by kernel_rfl
set_option maxHeartbeats 1000000 in
theorem take_run (w : World) (lab : Nat → Nat) (hf : Fr w.heap lab) (B p : Nat) (hB : 0 < B) (g : CG) (s s1 : CS) (b : ByteArray) (fs : List Frm) (fd : Feed) (h : ConnAt fixedT w.heap lab B p g s) (ho : s.over = false) (hl : s.feed.held.size + b.size ≤ 1099511627776) (hlen : fs.length ≤ 1099511627776)
    (hadd : addF s.feed b = (fs, 0, fd)) (run : Run B p fs { s with events := [], feed := fd } s1) :
    Calls Tryz.prog 13 #[ptr p, .string b] w (PostTake w lab B p s1) := by
  have c24 := h.blk.cell 24 (v := .bool s.over) (by rfl)
  rw [ho] at c24
  have c20 := h.blk.cell 20 (v := g.events) (by rfl)
  have f20 := h.blk.free 20
  have b1 := h.blk.store 20 (.slice none 0 0)
  have t1 := h.blk.storeStp hf 20 (.slice none 0 0)
  rw [cells_events] at b1
  have hp1 : CParts fixedT w.heap lab B { g with events := .slice none 0 0 } { s with events := [] } := h.parts.setEvents (R := wrest w) (R1 := wrest w) hB (Stp.refl _ _ hf) ⟨[], rfl, Row.nil _ _ _ _ _, by simp⟩
  have hp1' := hp1.kept t1 (by omega) (by omega)
  have FA := feedAdd_spec _ lab t1.fresh (B + 1) g.fp (by omega) s.feed b hp1'.feed hl
  rw [hadd] at FA
  have FA := Lib.hid FA
  have e1 := b1.cell 1 (v := ptr g.fp) (by rfl)
  clear hadd ho
  go_enter Tryz.func13, Tryz.ntmps13
  go_wp2_with fail
  refine FA.out.mono ?_
  rintro e w2 ⟨A, cap, rfl, hO, hF, st2⟩
  have hb2 := b1.kept st2 (by omega)
  have hp2 := hp1'.setFeed hB st2 hF
  have hc2 : ConnAt fixedT w2.heap lab B p { g with events := .slice none 0 0 } { s with events := [], feed := fd } := ⟨hb2, hp2⟩
  have hrow : Row w2.heap lab 0 32 4 (.slice A fs.length cap) fs.length (fs.flatMap frmCells) := ⟨hO.base0, fun k hk => t1.fresh k (hO.lt k hk).1⟩
  have sT : Stp B (B + 16) w lab w2 lab := (t1.mono (by omega) (by omega)).trans (st2.mono (by omega) (by omega))
  obtain ⟨L, hL⟩ : ∃ L, fs.length = L := ⟨_, rfl⟩
  dsimp only
  rw [hL]
  have HLL := Lib.hid hL
  clear hL c24 c20 f20 b1 e1 hO hF hb2 hp2 hp1 hp1' h t1 st2
  go_wp2
  go_loopw [28] (fun i wr => ∃ (done rest : List Frm) (cur : CS) (gk : CG) (labk : Nat → Nat), fs = done ++ rest ∧ i = .int .i64 done.length ∧ ConnAt fixedT wr.heap labk B p gk cur ∧ Run B p rest cur s1 ∧ Stp B (B + 16) w lab wr labk ∧ Row wr.heap labk 0 32 4 (.slice A fs.length cap) fs.length (fs.flatMap frmCells)) (fun i _ => fs.length - (intOf i).toNat)
  case atStart => exact ⟨[], fs, _, _, lab, rfl, rfl, hc2, run, sT, hrow⟩
  case round =>
    obtain ⟨done, rest, cur, gk, labk, hd, rfl, hc, hrun, st, hr⟩ := hrel
    cases rest with
    | nil =>
      have hdl : done.length = L := by rw [← HLL.out, hd]; simp
      have g1 : decide ((done.length : Int) < L) = false := by simp; omega
      cases hrun
      have c20 := hc.blk.cell 20 (v := gk.events) (by rfl)
      have f20 := hc.blk.free 20
      have b1 := hc.blk.store 20 (.slice none 0 0)
      have t1 := hc.blk.storeStp st.fresh 20 (.slice none 0 0)
      rw [cells_events] at b1
      have hp1 : CParts fixedT wr.heap labk B { gk with events := .slice none 0 0 } { s1 with events := [] } := hc.parts.setEvents (R := wrest wr) (R1 := wrest wr) hB (Stp.refl _ _ st.fresh) ⟨[], rfl, Row.nil _ _ _ _ _, by simp⟩
      have hev := hc.parts.events.kept t1 (by omega) (by omega)
      go_wp2
      go_ret
      exact ⟨_, labk, _, rfl, hev, ⟨b1, hp1.kept t1 (by omega) (by omega)⟩, st.trans (t1.mono (by omega) (by omega))⟩
    | cons f rest =>
      subst hd
      obtain ⟨gg, cap2, hv, q0, q1, q2, q3⟩ := Owns.frame hr.1
      obtain ⟨rfl, -⟩ : A = some ⟨gg, 0, none⟩ ∧ True := by injection hv with h1 h2 h3; exact ⟨h1, trivial⟩
      have hlt : done.length < L := by rw [← HLL.out]; simp
      have g1 : decide (done.length < L) = true := by simpa using hlt
      have gi : (done.length : Int) < (L : Int) := by omega
      have hdb : done.length ≤ 1099511627776 := by simp at hlen; omega
      have hbx := Blk.at_new wr labk st.fresh #[.int .u8 f.type, .int .u8 f.flags, .int .u32 f.stream, .string f.data] 32
      have sx := (Stp.refl 0 0 st.fresh).alloc (.cells #[.int .u8 f.type, .int .u8 f.flags, .int .u32 f.stream, .string f.data] 32)
      have hcx := hc.kept sx (by omega) (by omega)
      obtain ⟨x0, x1, x2, x3⟩ := hbx.cells4
      have c24 := hcx.blk.cell 24 (v := .bool cur.over) (by rfl)
      cases hrun with
      | skip hov hrun =>
        rw [hov] at c24
        clear hov
        go_wp2
        go_roundw
        case rel => exact ⟨done ++ [f], rest, cur, gk, labk, by simp, by rw [List.length_append]; go_num, hcx, hrun, st.trans (sx.any _ _), hr.kept sx (by omega)⟩
        case measure => simp [intOf]; omega
      | step hov hstep hrun =>
        rw [hov] at c24
        clear hov
        have STP := Lib.hid (hstep _ labk gk sx.fresh hcx)
        dsimp only [frmV] at STP
        clear hstep
        go_wp2_with fail
        refine STP.out.mono ?_
        rintro e w3 ⟨g3, lab3, rfl, h3, st3⟩
        go_wp2
        go_roundw
        case rel =>
          refine ⟨_, _, _, _, _, _, _, _, _, _, _, _, _, _, ?_, rfl⟩
          exact ⟨done ++ [f], rest, _, g3, lab3, by simp, by rw [List.length_append]; go_num, h3, hrun, (st.trans (sx.any _ _)).trans st3, (hr.kept sx (by omega)).kept st3 (by omega)⟩
        case measure => simp [intOf]; omega
end Go.Proofs.YtlbaiighiaanoaaGreatDoor

/- Conn.Open while at most one stream is open. -/
namespace Go.Proofs.YtlbaiighiaanoaaGreatDoor
open Go Go.Proofs Go.RowKit
set_option maxRecDepth 100000
set_option linter.unusedVariables false
set_option linter.unusedSimpArgs false
theorem open_one (w : World) (lab : Nat → Nat) (hf : Fr w.heap lab) (B p : Nat) (g : CG) (s : CS) (h : ConnAt fixedT w.heap lab B p g s) (h1 : s.opens.length ≤ 1) (hk : ∀ x ∈ s.opens, 0 ≤ x.1 ∧ x.1 < 4294967296) :
    Calls Tryz.prog 20 #[ptr p] w (PostIds w lab (idsF s.opens)) := by
  have IDS := Lib.hid (ids_one w lab hf B p g s h h1 hk)
  clear h1 hk
  go_enter Tryz.func20, Tryz.ntmps20
  go_wp2_with fail
  refine IDS.out.mono ?_
  rintro e w1 ⟨A, cap, rfl, ho, st1⟩
  go_wp2
  go_ret
  exact ⟨A, cap, rfl, ho, st1⟩
end Go.Proofs.YtlbaiighiaanoaaGreatDoor

/- The contracts of prefix.full and prefix.Get. -/
namespace Go.Proofs.YtlbaiighiaanoaaGreatDoor
open Go Go.Proofs Go.RowKit
set_option maxRecDepth 100000
set_option linter.unusedVariables false
set_option linter.unusedSimpArgs false
theorem full_spec (b : Nat) (w : World) (h1 : 1 ≤ b) (h8 : b ≤ 8) : Calls Tryz.prog 145 #[.int .i64 b] w (PostV w (.int .u64 ((2 ^ b - 1 : Nat) : Int))) := by
  rcases (show b = 1 ∨ b = 2 ∨ b = 3 ∨ b = 4 ∨ b = 5 ∨ b = 6 ∨ b = 7 ∨ b = 8 by omega) with rfl | rfl | rfl | rfl | rfl | rfl | rfl | rfl
  all_goals
    go_enter Tryz.func145, Tryz.ntmps145
    go_wp2
    go_ret
    exact ⟨rfl, rfl⟩
theorem and_u64_mask (n b : Nat) (hn : n < 18446744073709551616) (hb : b ≤ 8) : bits .and .u64 (n : Int) ((2 ^ b - 1 : Nat) : Int) = ((n % 2 ^ b : Nat) : Int) := by
  have := bits_mask .u64 64 (by decide) wraps_u64 b (by omega) n (by omega) (by omega)
  rw [show ((2 ^ b - 1 : Nat) : Int) = 2 ^ b - 1 by rw [Int.ofNat_sub (Nat.one_le_two_pow (n := b))]; simp, this]; simp
theorem and_u8_127 (n : Nat) (hn : n < 256) : bits .and .u8 (n : Int) 127 = ((n % 128 : Nat) : Int) := by
  have := bits_mask .u8 8 (by decide) (fun n h0 h1 => by rw [IntKind.wrap_u8]; omega) 7 (by decide) n (by omega) (by omega)
  rw [show (127 : Int) = 2 ^ 7 - 1 by decide, this]; omega
/-- The rounds of an integer's further bytes: j are left. -/
def getL (s : ByteArray) (at_ : Nat) : Nat → Nat → Nat × Nat × Nat
  | 0, _ => (0, 0, 90)
  | j + 1, n =>
    if decide (s.size ≤ at_ + 1 + (4 - j)) then (0, 0, 2)
    else if decide (4294967295 < n + byteAt s (at_ + 1 + (4 - j)) % 128 * 2 ^ (7 * (4 - j))) then (0, 0, 90)
    else if decide (byteAt s (at_ + 1 + (4 - j)) < 128) then (n + byteAt s (at_ + 1 + (4 - j)) % 128 * 2 ^ (7 * (4 - j)), at_ + 2 + (4 - j), 0)
    else getL s at_ j (n + byteAt s (at_ + 1 + (4 - j)) % 128 * 2 ^ (7 * (4 - j)))
/-- The integer that stands at a place: it, the place behind it, an error's number. -/
def getP (s : ByteArray) (at_ b : Nat) : Nat × Nat × Nat :=
  if decide (s.size ≤ at_) then (0, 0, 2)
  else if decide (byteAt s at_ % 2 ^ b < 2 ^ b - 1) then (byteAt s at_ % 2 ^ b, at_ + 1, 0)
  else getL s at_ 5 (byteAt s at_ % 2 ^ b)
theorem getP_small (s : ByteArray) (at_ b : Nat) (w : World) (hs : s.size ≤ 1099511627776) (hlt : at_ < s.size) (h1 : 1 ≤ b) (h8 : b ≤ 8) (g3 : decide (byteAt s at_ % 2 ^ b < 2 ^ b - 1) = true) :
    Calls Tryz.prog 205 #[.string s, .int .i64 at_, .int .i64 b] w (PostV w (.tuple #[.int .u64 (byteAt s at_ % 2 ^ b : Nat), .int .i64 (at_ + 1 : Nat), .int .i64 0])) := by
  have FULL := Lib.hid fun w' => full_spec b w' h1 h8
  have hb0 := byteAt_eq s at_ hlt
  have hbl := byteAt_lt s at_
  have hand := and_u64_mask (byteAt s at_) b (by omega) h8
  have hm : byteAt s at_ % 2 ^ b < 256 := Nat.lt_of_le_of_lt (Nat.mod_le _ _) hbl
  have g2 : decide ((s.size : Int) ≤ (at_ : Int)) = false := by simpa using hlt
  generalize byteAt s at_ % 2 ^ b = m0 at *
  generalize 2 ^ b - 1 = F at *
  have g1 : decide ((at_ : Int) < 0) = false := by simp
  have gi : (at_ : Int) < (s.size : Int) := by omega
  have g : decide (s.size ≤ at_) = false := by simpa using hlt
  go_enter Tryz.func205, Tryz.ntmps205
  go_wp2_with fail
  refine (FULL.out _).mono ?_
  rintro e w1 ⟨rfl, rfl⟩
  go_wp2
  go_ret3
  exact ⟨rfl, rfl⟩
end Go.Proofs.YtlbaiighiaanoaaGreatDoor

/- The contract of Table.At. -/
namespace Go.Proofs.YtlbaiighiaanoaaGreatDoor
open Go Go.Proofs Go.RowKit
set_option maxRecDepth 100000
set_option linter.unusedVariables false
set_option linter.unusedSimpArgs false
theorem Owns.shp {H : Array Obj} {base : Nat} {e : TypeId} {size : Nat} {v : Value} {n : Nat} {xs : List Value} (h : Owns H base e size v n xs) : ∃ A c, v = .slice A n c := by
  rcases h.2 with ⟨rfl, hn⟩ | ⟨g, cap, cur, rfl, _⟩
  · exact ⟨none, 0, by rw [hn]⟩
  · exact ⟨_, _, rfl⟩
theorem entCells_len (l : List (ByteArray × ByteArray)) : (entCells l).length = l.length * 2 := by
  induction l with
  | nil => rfl
  | cons q l ih => rw [entCells, List.flatMap_cons, List.length_append, ← entCells, ih]; simp; omega
theorem entCells_at (l : List (ByteArray × ByteArray)) : ∀ (i : Nat) (q : ByteArray × ByteArray), l[i]? = some q → (entCells l)[2 * i]? = some (.string q.1) ∧ (entCells l)[2 * i + 1]? = some (.string q.2) := by
  induction l with
  | nil => intro i q h; simp at h
  | cons p l ih =>
    intro i q h
    rw [entCells, List.flatMap_cons, ← entCells]
    cases i with
    | zero => simp at h; subst h; simp
    | succ i =>
      have := ih i q (by simpa using h)
      rw [show 2 * (i + 1) = 2 * i + 1 + 1 by omega]
      simpa using this
/-- The entry of a number. -/
def atF (fixed : List (ByteArray × ByteArray)) (s : Tab) (n : Nat) : Option (ByteArray × ByteArray) :=
  if n = 0 then none else if n ≤ fixed.length then fixed[n - 1]? else if n ≤ fixed.length + s.list.length then s.list[s.list.length - (n - fixed.length)]? else none
theorem Row.ent {w : World} {lab : Nat → Nat} {l : Nat} {v : Value} {es : List (ByteArray × ByteArray)} {i : Nat} {q : ByteArray × ByteArray} (h : Row w.heap lab l 203 2 v es.length (entCells es)) (hq : es[i]? = some q) :
    ∃ g cap, v = .slice (some ⟨g, 0, none⟩) es.length cap ∧ w.cell? ⟨g, i * 2, none⟩ = some (.string q.1) ∧ w.cell? ⟨g, i * 2 + 1, none⟩ = some (.string q.2) := by
  have hne : es.length ≠ 0 := fun h0 => by rw [List.eq_nil_of_length_eq_zero h0] at hq; simp at hq
  rcases h.1.2 with ⟨rfl, h0⟩ | ⟨g, cap, cur, rfl, _, hg, _⟩
  · exact absurd h0 hne
  · obtain ⟨h0, h1⟩ := entCells_at es i q hq
    have ha : ∀ j, (⟨g, 0, none⟩ : Addr).add j = ⟨g, j, none⟩ := fun j => by unfold Addr.add; split <;> simp_all
    have at_ : ∀ (k : Nat) (u : Value), (entCells es)[k]? = some u → w.cell? ⟨g, k, none⟩ = some u := fun k u hu => by
      have c := World.ownsRow.cells (Owns.to h.1) (g := g) rfl k u hu
      rw [ha] at c
      exact c
    exact ⟨g, cap, rfl, by rw [Nat.mul_comm]; exact at_ _ _ h0, by rw [Nat.mul_comm]; exact at_ _ _ h1⟩
theorem at_fixed (fixed : List (ByteArray × ByteArray)) (w : World) (lab : Nat → Nat) (hf : Fr w.heap lab) (m p : Nat) (s : Tab) (h : TabAt fixed w.heap lab m p s) (n : Nat) (h1 : 1 ≤ n) (hn : n ≤ fixed.length) (hb : fixed.length ≤ 100000) (q : ByteArray × ByteArray) (hq : fixed[n - 1]? = some q) (hsl : s.list.length ≤ 100000) :
    Calls Tryz.prog 171 #[ptr p, .int .i64 n] w (PostS w lab (.tuple #[.string q.1, .string q.2, .bool true])) := by
  obtain ⟨lv, fv, hB, hl, hfx⟩ := h
  obtain ⟨k, rfl⟩ : ∃ k, n = k + 1 := ⟨n - 1, by omega⟩
  rw [Nat.add_sub_cancel] at hq
  obtain ⟨g, cap, rfl, e0, e1⟩ := hfx.ent hq
  obtain ⟨A, cl, rfl⟩ := hl.1.shp
  generalize fixed.length = N at *
  generalize s.list.length = L at *
  obtain ⟨q1, q2⟩ := q
  dsimp only at *
  obtain ⟨c0, c1, c2, c3⟩ := hB.cells4
  have g1 : decide ((k : Int) + 1 < 1) = false := by simp; omega
  have g2 : decide ((N : Int) + L < (k : Int) + 1) = false := by simp; omega
  have g3 : decide ((k : Int) + 1 ≤ (N : Int)) = true := by simp; omega
  have hw1 : IntKind.i64.wrap ((N : Int) + L) = N + L := wrap_i64 _ (by omega) (by omega)
  have kp : ∀ (n : Nat) (o : Obj) (a : Addr) (v : Value), w.cell? a = some v → ((w.drewN n).alloc o).cell? a = some v := fun n o a v hc => ((Stp.refl 0 0 hf).alloc (w1 := w.drewN n) o).cell hc
  have k3 := fun n o => kp n o _ _ c3
  have ke0 := fun n o => kp n o _ _ e0
  have ke1 := fun n o => kp n o _ _ e1
  have kf : ∀ (n : Nat) (cs : Array Value) (t : TypeId) (j : Nat), ((w.drewN n).alloc (.cells cs t)).frozen? ⟨w.heap.size, j, none⟩ = false := fun n cs t j => (Blk.at_new (w.drewN n) lab hf cs t).free j
  have f0 := fun n cs t => kf n cs t 0
  have f1 := fun n cs t => kf n cs t 1
  have d0 : ∀ (n : Nat) (a b : Value) (t : TypeId), ((w.drewN n).alloc (.cells #[a, b] t)).cell? ⟨w.heap.size, 0, none⟩ = some a := fun n a b t => (Blk.at_new (w.drewN n) lab hf #[a, b] t).cell 0 rfl
  have d1 : ∀ (n : Nat) (a b : Value) (t : TypeId), ((w.drewN n).alloc (.cells #[a, b] t)).cell? ⟨w.heap.size, 1, none⟩ = some b := fun n a b t => (Blk.at_new (w.drewN n) lab hf #[a, b] t).cell 1 rfl
  clear kp hl hfx hB hq kf
  go_enter Tryz.func171, Tryz.ntmps171
  go_wp2
  go_quiet (fail)
  go_wp2
  go_region
  all_goals
    go_wp2
    go_ret3
    exact ⟨rfl, (((Stp.refl 0 0 hf).alloc (w1 := w.drewN nq) _).setCell _ (.inl (Nat.le_refl _))).setCell _ (.inl (Nat.le_refl _))⟩
end Go.Proofs.YtlbaiighiaanoaaGreatDoor

/- The reading of a header block that is one index of a fixed entry. -/
namespace Go.Proofs.YtlbaiighiaanoaaGreatDoor
open Go Go.Proofs Go.RowKit
set_option maxRecDepth 100000
set_option linter.unusedVariables false
set_option linter.unusedSimpArgs false
theorem number_small (w : World) (lab : Nat → Nat) (hf : Fr w.heap lab) (b l tb : Nat) (s : ByteArray) (at_ : Nat) (k : Nat) (h : Blk w.heap lab b l #[ptr tb, .string s, .int .i64 at_] 230) (hs : s.size ≤ 1099511627776) (hlt : at_ < s.size) (h1 : 1 ≤ k) (h8 : k ≤ 8) (g3 : decide (byteAt s at_ % 2 ^ k < 2 ^ k - 1) = true) :
    Calls Tryz.prog 184 #[ptr b, .int .i64 k] w fun e w' => e = .returned (.int .u64 (byteAt s at_ % 2 ^ k : Nat)) ∧ Blk w'.heap lab b l #[ptr tb, .string s, .int .i64 (at_ + 1 : Nat)] 230 ∧ Stp l (l + 1) w lab w' lab := by
  have GET := Lib.hid fun w' => (getP_small s at_ k w' hs hlt h1 h8 g3).mono fun _ _ ⟨a, b⟩ => (⟨a, b.symm⟩ : _ ∧ _ = _)
  generalize byteAt s at_ % 2 ^ k = n at *
  have c1 := h.cell 1 (v := .string s) rfl
  have c2 := h.cell 2 (v := .int .i64 at_) rfl
  have f2 := h.free 2
  have hab : (at_ : Int) + 1 ≤ 9223372036854775807 := by omega
  go_enter Tryz.func184, Tryz.ntmps184
  go_wp2
  go_quiet ((go_at_call 205; exact Calls.quiet_of_same (GET.out _)))
  go_wp2
  go_ret
  exact ⟨rfl, h.store (w := w.drewN _) 2 _, (h.storeStp (w := w.drewN _) hf 2 _)⟩
theorem entry_fixed (w : World) (lab : Nat → Nat) (hf : Fr w.heap lab) (fixed : List (ByteArray × ByteArray)) (b l tb m : Nat) (s : ByteArray) (at_ : Int) (T : Tab) (h : Blk w.heap lab b l #[ptr tb, .string s, .int .i64 at_] 230) (ht : TabAt fixed w.heap lab m tb T)
    (n : Nat) (h1 : 1 ≤ n) (hn : n ≤ fixed.length) (hb : fixed.length ≤ 100000) (q : ByteArray × ByteArray) (hq : fixed[n - 1]? = some q) (hsl : T.list.length ≤ 100000) :
    Calls Tryz.prog 183 #[ptr b, .int .u64 n] w (PostS w lab (.tuple #[.string q.1, .string q.2])) := by
  have AT := Lib.hid (at_fixed fixed w lab hf m tb T ht n h1 hn hb q hq hsl)
  have c0 := h.cell 0 (v := ptr tb) rfl
  have hw1 : IntKind.i64.wrap (n : Int) = n := wrap_i64 _ (by omega) (by omega)
  generalize q.1 = q1 at *
  generalize q.2 = q2 at *
  clear hq
  go_enter Tryz.func183, Tryz.ntmps183
  go_wp2_with fail
  refine AT.out.mono ?_
  rintro e w1 ⟨rfl, s1⟩
  go_wp2
  go_ret2
  exact ⟨rfl, s1⟩
theorem EFld : ElemI Tryz.prog 43 57 3 40 (.agg #[.string ⟨#[]⟩, .string ⟨#[]⟩, .bool false]) := ⟨Tryz.underlying43, info_parts (by kernel_rfl), rfl, by decide⟩
/-- The fields of a block that is one byte: the index of a fixed entry. -/
theorem fields_one (w : World) (lab : Nat → Nat) (hf : Fr w.heap lab) (fixed : List (ByteArray × ByteArray)) (b l tb m : Nat) (hl0 : 0 < l) (s : ByteArray) (T : Tab) (h : Blk w.heap lab b l #[ptr tb, .string s, .int .i64 0] 230) (ht : TabAt fixed w.heap lab m tb T) (hlm : l < m ∨ m + 1 < l)
    (n : Nat) (h1 : 1 ≤ n) (hn : n ≤ fixed.length) (hn2 : n < 127) (hb : fixed.length ≤ 100000) (q : ByteArray × ByteArray) (hq : fixed[n - 1]? = some q) (hsl : T.list.length ≤ 100000) (hs : s.size = 1) (hby : byteAt s 0 = 128 + n) :
    Calls Tryz.prog 156 #[ptr b] w fun e w' => ∃ A cap, e = .returned (.slice A 1 cap) ∧ Owns w'.heap w.heap.size 57 3 (.slice A 1 cap) 1 (fldsCells [⟨q.1, q.2, false⟩]) ∧ Stp l (l + 1) w lab w' lab := by
  have hmod : byteAt s 0 % 2 ^ 7 = n := by rw [hby]; omega
  have NUM : Hid (∀ (w' : World) (hf' : Fr w'.heap lab) (h' : Blk w'.heap lab b l #[ptr tb, .string s, .int .i64 0] 230), Calls Tryz.prog 184 #[ptr b, .int .i64 7] w' fun e w2 => e = .returned (.int .u64 n) ∧ Blk w2.heap lab b l #[ptr tb, .string s, .int .i64 1] 230 ∧ Stp l (l + 1) w' lab w2 lab) :=
    Lib.hid fun w' hf' h' => hmod ▸ number_small w' lab hf' b l tb s 0 7 h' (by omega) (by omega) (by decide) (by decide) (by rw [hmod]; simp; omega)
  have ENT := Lib.hid fun (w' : World) (hf' : Fr w'.heap lab) (h' : Blk w'.heap lab b l #[ptr tb, .string s, .int .i64 1] 230) (ht' : TabAt fixed w'.heap lab m tb T) => entry_fixed w' lab hf' fixed b l tb m s 1 T h' ht' n h1 hn hb q hq hsl
  have hb0 := byteAt_eq s 0 (by omega)
  rw [hby] at hb0
  have c1 := h.cell 1 (v := .string s) rfl
  have c2 := h.cell 2 (v := .int .i64 0) rfl
  generalize q.1 = q1 at *
  generalize q.2 = q2 at *
  clear hq hmod
  have H1 := Lib.hid h
  go_enter Tryz.func156, Tryz.ntmps156
  go_wp2
  go_loopw [3, 4, 5] (fun o _ _ wr => (o = .slice none 0 0 ∧ wr = w) ∨ (∃ A cap, o = .slice A 1 cap ∧ Owns wr.heap w.heap.size 57 3 (.slice A 1 cap) 1 (fldsCells [⟨q1, q2, false⟩]) ∧ Blk wr.heap lab b l #[ptr tb, .string s, .int .i64 1] 230 ∧ Stp l (l + 1) w lab wr lab)) (fun o _ _ _ => match o with | .slice none _ _ => 1 | _ => 0)
  case atStart => exact .inl ⟨rfl, rfl⟩
  case round =>
    rcases hrel with ⟨rfl, rfl⟩ | ⟨A, cap, rfl, ho, hB, st⟩
    · have sz1 : decide ((0 : Int) < (s.size : Int)) = true := by simp; omega
      have i0 : (0 : Int) < (s.size : Int) := by omega
      go_wp2
      go_quiet (fail)
      go_wp2
      go_quiet (fail)
      go_wp2_with fail
      have hbx := Blk.at_new wr lab hf #[.string ⟨#[]⟩, .string ⟨#[]⟩, .bool false] 57
      have s0 := (Stp.refl 0 0 hf).alloc (.cells #[.string ⟨#[]⟩, .string ⟨#[]⟩, .bool false] 57)
      refine (NUM.out _ ?_ ?_).mono ?_
      exact Fr.alloc (w := wr.drewN _) hf _
      exact Blk.alloc (w := wr.drewN _) h _
      rintro e w1 ⟨rfl, hB1, s1⟩
      have hbx1 := hbx.kept s1 (by omega)
      have ht1 := (ht.kept s0 (by omega) (by omega)).kept s1 (by omega) (by omega)
      go_wp2_with fail
      refine (ENT.out _ s1.fresh hB1 ht1).mono ?_
      rintro e w2 ⟨rfl, s2⟩
      have hbx2 := hbx1.kept s2 (by omega)
      have hB2 := hB1.kept s2 (by omega)
      have k0 := hbx2.cell 0 rfl
      have k1 := hbx2.cell 1 rfl
      have f0 := hbx2.free 0
      have f1 := hbx2.free 1
      have sA : Stp l (l + 1) wr lab w2 lab := ((s0.any l (l + 1)).trans s1).trans (s2.any _ _)
      have b1 := hbx2.store 0 (.string q1)
      have b2 := b1.store 1 (.string q2)
      have k2 := b2.cell 2 (v := .bool false) rfl
      have hne : b ≠ wr.heap.size := fun e => by have := Blk.lt h; omega
      have sz2 : wr.heap.size < w2.heap.size := by have := sA.size; have := Blk.lt hbx2; exact this
      have st1 : Stp l (l + 1) wr lab ((w2.setCell ⟨wr.heap.size, 0, none⟩ (.string q1)).setCell ⟨wr.heap.size, 1, none⟩ (.string q2)) lab := (sA.setCell _ (.inl (Nat.le_refl _))).setCell _ (.inl (Nat.le_refl _))
      have hB3 := (hB2.other (q := ⟨wr.heap.size, 0, none⟩) hne (.string q1)).other (q := ⟨wr.heap.size, 1, none⟩) hne (.string q2)
      have hone : ∀ u ∈ (#[Value.string q1, .string q2, .bool false] : Array Value).toList, u.oneCell' = true := by intro u hu; simp at hu; rcases hu with rfl | rfl | rfl <;> rfl
      have ho0 : ∀ H : Array Obj, Owns H wr.heap.size 57 3 (.slice none 0 0) 0 [] := fun _ => ⟨rfl, .inl ⟨rfl, rfl⟩⟩
      have hmx : 0 + 1 ≤ maxLen := by decide
      have hby : (0 + 1) * 40 ≤ 140737488355328 := by decide
      have hz1 : ((w2.setCell ⟨wr.heap.size, 0, none⟩ (.string q1)).setCell ⟨wr.heap.size, 1, none⟩ (.string q2)).heap.size = w2.heap.size := by simp
      have hz2 : wr.heap.size ≤ (((w2.setCell ⟨wr.heap.size, 0, none⟩ (.string q1)).setCell ⟨wr.heap.size, 1, none⟩ (.string q2)).alloc (.cells #[.string q1, .string q2, .bool false] 57)).heap.size := by rw [World.size_alloc, hz1]; omega
      have HZ1 := Lib.hid hz1
      clear hz1
      have hsrc : ∀ W : World, W.heap.size = w2.heap.size → Src Tryz.prog (W.alloc (.cells #[.string q1, .string q2, .bool false] 57)) 3 1 (.slice (some ⟨w2.heap.size, 0, none⟩) 1 1) [.string q1, .string q2, .bool false] := fun W e => Src.ofBlock Tryz.prog (heap_new_at e.symm) (m := 1) rfl hone
      go_wp2_with (at_builtin; go_must (refine wp_appOwn rfl _ _ 43 43 rfl EFld (.inr ⟨_, Tryz.underlying43⟩) rfl (ho0 _) rfl (hsrc _ ?_) hmx hby ?_ ?_; exact HZ1.out; exact hz2; intro A2 cap2 w3 ho3 hgr3))
      have st3 := (st1.alloc _).grown hgr3 (row := none) (fun j hj => nomatch hj)
      have hB4 : Blk w3.heap lab b l #[ptr tb, .string s, .int .i64 1] 230 := ⟨hB3.1, (hgr3.block b (by have := Blk.lt (hB3.alloc (.cells #[.string q1, .string q2, .bool false] 57)); exact this) (fun e => nomatch (show some b = (none : Option Nat) from e))).trans (hB3.alloc _).2⟩
      have hA2 : ∃ gg, A2 = some ⟨gg, 0, none⟩ := by
        rcases ho3.2 with ⟨_, h0⟩ | ⟨gg, cp, cur, hv, _⟩
        · omega
        · exact ⟨gg, by injection hv⟩
      obtain ⟨gg, rfl⟩ := hA2
      exact ⟨.inr ⟨_, cap2, rfl, ho3, hB4, st3⟩, by simp⟩
    · have c1 := hB.cell 1 (v := .string s) rfl
      have c2 := hB.cell 2 (v := .int .i64 1) rfl
      have sz1 : decide ((1 : Int) < (s.size : Int)) = false := by simp; omega
      go_wp2
      go_quiet (fail)
      go_wp2
      go_ret
      exact ⟨A, cap, rfl, ho, st⟩
end Go.Proofs.YtlbaiighiaanoaaGreatDoor

/- The contract of Decoder.Read at a block that is one index of a fixed entry. -/
namespace Go.Proofs.YtlbaiighiaanoaaGreatDoor
open Go Go.Proofs Go.RowKit
set_option maxRecDepth 100000
set_option linter.unusedVariables false
set_option linter.unusedSimpArgs false
theorem readClosure_idle (x y z : Value) (w : World) :
    CallsD Tryz.prog 155 #[x, y, z] .returning w fun e u' w' => e = .returned (.tuple #[]) ∧ u' = .returning ∧ w' = w := by
  have hta : ∀ w : World, (Instr.typeAssert Value.nilIface 20 48 true).run Tryz.prog w = .ok (.tuple #[.int .i64 0, .bool false]) w := fun w => by kernel_rfl
  refine callsD_of_wpS Tryz.func155 rfl fun c₀ cs hu => ?_
  apply wpS_seq
  apply wpS_region
  simp [wpOpsS, go_sem, hta, recoverD, hu, Tryz.ntmps155, Exit.thenS]
  apply wpS_seq
  apply wpS_region
  simp [wpOpsS, go_sem, recoverD, hu, Exit.thenS]
  refine wpS_cond (t := false) (by simp [Act.eval, Array.replicate]) ?_
  simp only [Bool.false_eq_true, if_false]
  refine wpS_of_wp (wp_skip ?_)
  cases c₀
  simp_all [bodyPostS, results, Tryz.results155]
theorem fresh_label (lab : Nat → Nat) (c : Nat) : ∀ n : Nat, ∃ L, c < L ∧ ∀ k, k < n → lab k < L
  | 0 => ⟨c + 1, by omega, fun k hk => by omega⟩
  | n + 1 => by
    obtain ⟨L, h1, h2⟩ := fresh_label lab c n
    refine ⟨L + lab n + 1, by omega, fun k hk => ?_⟩
    by_cases e : k = n
    · subst e; omega
    · have := h2 k (by omega); omega
/-- Read at a block that is one byte: the index of a fixed entry. -/
theorem read_one (w : World) (lab : Nat → Nat) (hf : Fr w.heap lab) (fixed : List (ByteArray × ByteArray)) (l m p : Nat) (s : ByteArray) (D : Dec) (h : DecAt fixed w.heap lab m p D) (hd : D.down = false)
    (n : Nat) (h1 : 1 ≤ n) (hn : n ≤ fixed.length) (hn2 : n < 127) (hb : fixed.length ≤ 100000) (q : ByteArray × ByteArray) (hq : fixed[n - 1]? = some q) (hsl : D.tab.list.length ≤ 100000) (hs : s.size = 1) (hby : byteAt s 0 = 128 + n) :
    Calls Tryz.prog 129 #[ptr p, .string s] w fun e w' => ∃ v, e = .returned (.tuple #[v, .int .i64 0]) ∧ FldsAt w'.heap lab v [⟨q.1, q.2, false⟩] ∧ Stp 0 0 w lab w' lab := by
  obtain ⟨tb, hB, ht⟩ := h
  have c0 := hB.cell 0 (v := ptr tb) rfl
  have c1 := hB.cell 1 (v := .bool D.down) rfl
  rw [hd] at c1
  have hmf : ∀ (fn : Fn) (first cap : Array Value) (w : World), (Instr.makeFunc fn first cap).run Tryz.prog w = .ok (.func fn first cap) w := fun _ _ _ _ => rfl
  have kp : ∀ (o1 o2 o3 : Obj) (a : Addr) (v : Value), w.cell? a = some v → (((w.alloc o1).alloc o2).alloc o3).cell? a = some v := fun o1 o2 o3 a v hc => ((((Stp.refl 0 0 hf).alloc o1).alloc o2).alloc o3).cell hc
  have k1 := fun o1 o2 o3 => kp o1 o2 o3 _ _ c1
  have k0 := fun o1 o2 o3 => kp o1 o2 o3 _ _ c0
  go_enter_defers Tryz.func129, Tryz.ntmps129
  go_wp2_with fail
  obtain ⟨L, hL, hLk⟩ := fresh_label lab (m + 2) w.heap.size
  have s4 := (((((Stp.refl 0 0 hf).alloc (.cells #[ptr p] 86)).alloc (.cells #[.slice none 0 0] 43)).alloc (.cells #[.int .i64 0] 48)).alloc (.cells #[ptr tb, .string s, .int .i64 0] 230)).label (k := w.heap.size + 3) L (by omega) (by simp)
  have hbk : Blk ((((w.alloc (.cells #[ptr p] 86)).alloc (.cells #[.slice none 0 0] 43)).alloc (.cells #[.int .i64 0] 48)).alloc (.cells #[ptr tb, .string s, .int .i64 0] 230)).heap (upd lab (w.heap.size + 3) L) (w.heap.size + 3) L #[ptr tb, .string s, .int .i64 0] 230 := ⟨upd_same _ _ _, heap_new_at (by simp)⟩
  have hb1 : Blk ((((w.alloc (.cells #[ptr p] 86)).alloc (.cells #[.slice none 0 0] 43)).alloc (.cells #[.int .i64 0] 48)).alloc (.cells #[ptr tb, .string s, .int .i64 0] 230)).heap (upd lab (w.heap.size + 3) L) (w.heap.size + 1) 0 #[.slice none 0 0] 43 :=
    (Blk.alloc (Blk.alloc (⟨hf _ (by omega), heap_new_at (by simp)⟩ : Blk ((w.alloc (.cells #[ptr p] 86)).alloc (.cells #[.slice none 0 0] 43)).heap lab (w.heap.size + 1) 0 #[.slice none 0 0] 43) _) _).relabel (by omega)
  have hb2 : Blk ((((w.alloc (.cells #[ptr p] 86)).alloc (.cells #[.slice none 0 0] 43)).alloc (.cells #[.int .i64 0] 48)).alloc (.cells #[ptr tb, .string s, .int .i64 0] 230)).heap (upd lab (w.heap.size + 3) L) (w.heap.size + 2) 0 #[.int .i64 0] 48 :=
    (Blk.alloc (⟨hf _ (by omega), heap_new_at (by simp)⟩ : Blk (((w.alloc (.cells #[ptr p] 86)).alloc (.cells #[.slice none 0 0] 43)).alloc (.cells #[.int .i64 0] 48)).heap lab (w.heap.size + 2) 0 #[.int .i64 0] 48) _).relabel (by omega)
  have ht4 := ht.kept s4 (by omega) (by omega)
  refine (fields_one _ _ s4.fresh fixed (w.heap.size + 3) L tb (m + 1) (by omega) s D.tab hbk ht4 (.inr (by omega)) n h1 hn hn2 hb q hq hsl hs hby).mono ?_
  rintro e w1 ⟨A, cap, rfl, ho, s5⟩
  have d1 := hb1.kept s5 (by omega)
  have d2 := hb2.kept s5 (by omega)
  have e1 := d1.cell 0 (v := .slice none 0 0) rfl
  have f1 := d1.free 0
  have x1 := d1.store 0 (.slice A 1 cap)
  have d2' := d2.other (q := ⟨w.heap.size + 1, 0, none⟩) (by simp) (.slice A 1 cap)
  have e2 := d2'.cell 0 (v := .int .i64 0) rfl
  have f2 := d2'.free 0
  have x2 := d2'.store 0 (.int .i64 0)
  have x1' := x1.other (q := ⟨w.heap.size + 2, 0, none⟩) (by simp) (.int .i64 0)
  have r1 := x1'.cell 0 (v := .slice A 1 cap) rfl
  have r2 := x2.cell 0 (v := .int .i64 0) rfl
  have sF : Stp 0 0 w lab ((w1.setCell ⟨w.heap.size + 1, 0, none⟩ (.slice A 1 cap)).setCell ⟨w.heap.size + 2, 0, none⟩ (.int .i64 0)) lab := by
    refine ⟨s5.rest.trans s4.rest, ?_, fun _ _ => rfl, fun k hk _ => ?_, fun k hk => hf k ?_⟩
    · have := s5.size; simp at this ⊢; omega
    · have hk2 : k ≠ w.heap.size + 3 := by omega
      have hk3 := hLk k hk
      rw [Below.heap_setCell _ _ _ _ (by simp; omega), Below.heap_setCell _ _ _ _ (by simp; omega), s5.block k (by simp; omega) (by rw [upd_other _ hk2]; omega)]
      exact s4.block k hk (by omega)
    · have := s5.size; simp at this hk; omega
  have hoF : FldsAt ((w1.setCell ⟨w.heap.size + 1, 0, none⟩ (.slice A 1 cap)).setCell ⟨w.heap.size + 2, 0, none⟩ (.int .i64 0)).heap lab (.slice A 1 cap) [⟨q.1, q.2, false⟩] := by
    refine ⟨(ho.keep fun k hk => ?_).base0, fun k hk => hf k ?_⟩
    · have := (ho.lt k hk).1
      simp at this
      rw [Below.heap_setCell _ _ _ _ (by simp; omega), Below.heap_setCell _ _ _ _ (by simp; omega)]
    · have := (ho.lt k hk).1
      simp at this
      omega
  clear ho x1 x2 x1' d1 d2 d2' hb1 hb2 hbk ht4
  have SF := Lib.hid sF
  have OF := Lib.hid hoF
  clear sF hoF
  go_wp2
  refine leaves_cons (f := 155) (args := #[.pointer (some ⟨w.heap.size, 0, none⟩), .pointer (some ⟨w.heap.size + 1, 0, none⟩), .pointer (some ⟨w.heap.size + 1 + 1, 0, none⟩)]) (by simp) (by simp [go_sem]) ?_
  refine (readClosure_idle _ _ _ _).mono ?_
  rintro e u' w'' ⟨rfl, rfl, rfl⟩
  simp [Leaves, settle, results, Tryz.results129, go_sem, r1, r2]
  exact ⟨OF.out, SF.out⟩
end Go.Proofs.YtlbaiighiaanoaaGreatDoor
