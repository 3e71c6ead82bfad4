/- Contracts and plain laws for Pings, part 12; no conditions but those that each theorem states. -/
import Derived.Test.YtlbaiighiaanoaaGreatDoorK9
import Derived.Test.YtlbaiighiaanoaaGreatDoorK11
import Derived.LoopN
import Derived.Test.YtlbaiighiaanoaaGreatDoorK6
/- The contract of Conn.settings (no stream but idle ones; the table's limit stays). -/
namespace Go.Proofs.YtlbaiighiaanoaaGreatDoor
open Go Go.Proofs Go.RowKit
set_option maxRecDepth 100000
set_option linter.unusedVariables false
set_option linter.unusedSimpArgs false
theorem setsF_val : ∀ (n : Nat) (h : ByteArray), ∀ q ∈ setsF n h, q.2 < 4294967296
  | 0, h, q, hq => by simp [setsF] at hq
  | n + 1, h, q, hq => by
    unfold setsF at hq
    split at hq
    · rcases List.mem_cons.1 hq with rfl | hq
      · exact getN_lt h 2 4
      · exact setsF_val n _ q hq
    · simp at hq
theorem setsF_len : ∀ (n : Nat) (h : ByteArray), (setsF n h).length ≤ n
  | 0, h => by simp [setsF]
  | n + 1, h => by
    unfold setsF
    split
    · have := setsF_len n (h.extract 6 h.size)
      simp only [List.length_cons]; omega
    · simp
theorem Blk.six {w : World} {lab : Nat → Nat} {p l : Nat} {x0 x1 x2 x3 x4 x5 : Value} {t : TypeId} (h : Blk w.heap lab p l #[x0, x1, x2, x3, x4, x5] t) :
    (w.cell? ⟨p, 0, none⟩ = some x0 ∧ w.cell? ⟨p, 1, none⟩ = some x1 ∧ w.cell? ⟨p, 2, none⟩ = some x2 ∧ w.cell? ⟨p, 3, none⟩ = some x3 ∧ w.cell? ⟨p, 4, none⟩ = some x4 ∧ w.cell? ⟨p, 5, none⟩ = some x5) ∧
    (w.frozen? ⟨p, 0, none⟩ = false ∧ w.frozen? ⟨p, 1, none⟩ = false ∧ w.frozen? ⟨p, 2, none⟩ = false ∧ w.frozen? ⟨p, 3, none⟩ = false ∧ w.frozen? ⟨p, 4, none⟩ = false ∧ w.frozen? ⟨p, 5, none⟩ = false) :=
  ⟨⟨h.cell 0 rfl, h.cell 1 rfl, h.cell 2 rfl, h.cell 3 rfl, h.cell 4 rfl, h.cell 5 rfl⟩, ⟨h.free 0, h.free 1, h.free 2, h.free 3, h.free 4, h.free 5⟩⟩
theorem Blk.second (w : World) (lab : Nat → Nat) (hf : Fr w.heap lab) (o : Obj) (cs : Array Value) (t : TypeId) : Blk ((w.alloc o).alloc (.cells cs t)).heap lab (w.heap.size + 1) 0 cs t := ⟨hf _ (by omega), heap_new_at (by simp)⟩
theorem cells_peer (P : Peer) : ((((((#[.int .u32 0, .int .u32 0, .int .u32 0, .int .u32 0, .int .u32 0, .bool false] : Array Value).setIfInBounds 0 (.int .u32 P.table)).setIfInBounds 1 (.int .u32 P.streams)).setIfInBounds 2 (.int .u32 P.window)).setIfInBounds 3 (.int .u32 P.frame)).setIfInBounds 4 (.int .u32 P.list)).setIfInBounds 5 (.bool P.push) = peerCells P := rfl
theorem blk_peer (w : World) (lab : Nat → Nat) (hf : Fr w.heap lab) (P : Peer) : Blk (w.alloc (.cells #[.int .u32 P.table, .int .u32 P.streams, .int .u32 P.window, .int .u32 P.frame, .int .u32 P.list, .bool P.push] 91)).heap lab w.heap.size 0 (peerCells P) 91 := Blk.at_new w lab hf _ _
theorem cells_setpeer (g : CG) (s : CS) (P : Peer) (x : Int) : ((((((connCells g s).setIfInBounds 4 (.int .u32 P.table)).setIfInBounds 5 (.int .u32 P.streams)).setIfInBounds 6 (.int .u32 P.window)).setIfInBounds 7 (.int .u32 P.frame)).setIfInBounds 8 (.int .u32 P.list)).setIfInBounds 9 (.bool P.push) = connCells g { s with peer := P, book := { s.book with first := x } } := by kernel_rfl
theorem flushIdle_none {s : CS} (h : s.opens = []) : flushIdleF s = s := by unfold flushIdleF; rw [h]
/-- The other side tells of itself, where nothing is wrong and no stream is open. -/
def settingsOkF (s : CS) (P : Peer) : CS := sendF { s with peer := P, book := { s.book with first := P.window } } { type := 4, flags := 1, stream := 0, data := ⟨#[]⟩ }
set_option maxHeartbeats 1000000 in
theorem settings_ok (w : World) (lab : Nat → Nat) (hf : Fr w.heap lab) (B p : Nat) (hB : 0 < B) (g : CG) (s : CS) (f : Frm) (P : Peer) (h : ConnAt fixedT w.heap lab B p g s) (hfl : flg f.flags 0 = false) (hfl2 : f.flags < 256) (hd : f.data.size ≤ 16384)
    (hap : applyF s.client s.peer s.peer (setsF (f.data.size + 1) f.data) = (P, 0)) (ho : s.opens = []) (hbk : s.book.of = []) (hl : s.out.length ≤ 70368744177664) (hPw0 : 0 ≤ P.window) (hPw1 : P.window ≤ 2147483647) (hbf0 : 0 ≤ s.book.first) (hbf1 : s.book.first ≤ 2147483647) (hPt : min P.table 4096 = s.enc.tab.most) (hPt0 : 0 ≤ P.table) :
    Calls Tryz.prog 106 #[ptr p, frmV f] w (PostC w lab B p (settingsOkF s P) (.tuple #[])) := by
  obtain ⟨ty, fl, st, d⟩ := f
  dsimp only [frmV] at *
  have hbx := Blk.at_new w lab hf #[.int .u8 ty, .int .u8 fl, .int .u32 st, .string d] 32
  have st0 := (Stp.refl 0 0 hf).alloc (.cells #[.int .u8 ty, .int .u8 fl, .int .u32 st, .string d] 32)
  have h1 := h.kept st0 (by omega) (by omega)
  obtain ⟨c0, c1, c2, c3⟩ := hbx.cells4
  have b0 := and1 fl hfl2
  rw [hfl] at b0
  simp only [if_false, Bool.false_eq_true] at b0
  have d0 := h1.blk.cell 0 (v := .bool s.client) (by rfl)
  have d4 := h1.blk.cell 4 (v := .int .u32 s.peer.table) (by rfl)
  have d5 := h1.blk.cell 5 (v := .int .u32 s.peer.streams) (by rfl)
  have d6 := h1.blk.cell 6 (v := .int .u32 s.peer.window) (by rfl)
  have d7 := h1.blk.cell 7 (v := .int .u32 s.peer.frame) (by rfl)
  have d8 := h1.blk.cell 8 (v := .int .u32 s.peer.list) (by rfl)
  have d9 := h1.blk.cell 9 (v := .bool s.peer.push) (by rfl)
  obtain ⟨l, hlist⟩ : ∃ l, setsF (d.size + 1) d = l := ⟨_, rfl⟩
  rw [hlist] at hap
  have PRS := Lib.hid fun (w' : World) (hf' : Fr w'.heap lab) => hlist ▸ setsParse_spec d w' lab hf' (by omega)
  have hlv : ∀ q ∈ l, q.2 < 4294967296 := by rw [← hlist]; exact setsF_val _ _
  have hll : l.length ≤ 1099511627776 := by rw [← hlist]; exact Nat.le_trans (setsF_len _ _) (by omega)
  have APP := fun (w' : World) (hf' : Fr w'.heap lab) (A : Option Addr) (cap : Nat) (hO : Owns w'.heap 0 103 2 (.slice A l.length cap) l.length (l.flatMap setCells)) => apply_spec s.client s.peer l hlv w' lab hf' A cap hO hll
  rw [hap] at APP
  dsimp only [peerV, peerCells] at APP
  have APP := Lib.hid APP
  clear hlist hfl hlv hll
  go_enter Tryz.func106, Tryz.ntmps106
  go_wp2
  have KA : Hid (∀ w' : World, Stp 0 0 (w.alloc (.cells #[.int .u8 ty, .int .u8 fl, .int .u32 st, .string d] 32)) lab w' lab → (w'.cell? ⟨p, 0, none⟩ = some (.bool s.client) ∧ w'.cell? ⟨p, 4, none⟩ = some (.int .u32 s.peer.table) ∧ w'.cell? ⟨p, 5, none⟩ = some (.int .u32 s.peer.streams) ∧ w'.cell? ⟨p, 6, none⟩ = some (.int .u32 s.peer.window) ∧ w'.cell? ⟨p, 7, none⟩ = some (.int .u32 s.peer.frame) ∧ w'.cell? ⟨p, 8, none⟩ = some (.int .u32 s.peer.list) ∧ w'.cell? ⟨p, 9, none⟩ = some (.bool s.peer.push) ∧ w'.cell? ⟨w.heap.size, 3, none⟩ = some (.string d))) :=
    Lib.hid fun w' t => ⟨t.cell d0, t.cell d4, t.cell d5, t.cell d6, t.cell d7, t.cell d8, t.cell d9, t.cell c3⟩
  have R0 := Lib.hid (Stp.refl 0 0 (R := wrest (w.alloc (.cells #[.int .u8 ty, .int .u8 fl, .int .u32 st, .string d] 32))) st0.fresh)
  have R0d : Hid (Stp 0 0 (w.alloc (.cells #[.int .u8 ty, .int .u8 fl, .int .u32 st, .string d] 32)) lab (w.alloc (.cells #[.int .u8 ty, .int .u8 fl, .int .u32 st, .string d] 32)).drew lab) := R0
  have R0a : Hid (Stp 0 0 (w.alloc (.cells #[.int .u8 ty, .int .u8 fl, .int .u32 st, .string d] 32)) lab ((w.alloc (.cells #[.int .u8 ty, .int .u8 fl, .int .u32 st, .string d] 32)).alloc (.cells #[.int .u32 0, .int .u32 0, .int .u32 0, .int .u32 0, .int .u32 0, .bool false] 91)).drew lab) := Lib.hid (R0.out.alloc (w1 := (w.alloc (.cells #[.int .u8 ty, .int .u8 fl, .int .u32 st, .string d] 32))) _)
  have FR0 : Hid (Fr (w.alloc (.cells #[.int .u8 ty, .int .u8 fl, .int .u32 st, .string d] 32)).drew.heap lab) := Lib.hid st0.fresh
  have FR1 : Hid (Fr ((w.alloc (.cells #[.int .u8 ty, .int .u8 fl, .int .u32 st, .string d] 32)).alloc (.cells #[.int .u32 0, .int .u32 0, .int .u32 0, .int .u32 0, .int .u32 0, .bool false] 91)).drew.heap lab) := Lib.hid (Fr.alloc (w := (w.alloc (.cells #[.int .u8 ty, .int .u8 fl, .int .u32 st, .string d] 32))) st0.fresh _)
  have SA1 : Hid (∀ w1 : World, Stp 0 0 ((w.alloc (.cells #[.int .u8 ty, .int .u8 fl, .int .u32 st, .string d] 32)).alloc (.cells #[.int .u32 0, .int .u32 0, .int .u32 0, .int .u32 0, .int .u32 0, .bool false] 91)).drew lab w1 lab → Stp 0 0 (w.alloc (.cells #[.int .u8 ty, .int .u8 fl, .int .u32 st, .string d] 32)) lab w1 lab) := Lib.hid fun w1 t => (R0.out.alloc (w1 := (w.alloc (.cells #[.int .u8 ty, .int .u8 fl, .int .u32 st, .string d] 32))) _).trans t
  have HQ1 : Hid (∀ w1 : World, Stp 0 0 ((w.alloc (.cells #[.int .u8 ty, .int .u8 fl, .int .u32 st, .string d] 32)).alloc (.cells #[.int .u32 0, .int .u32 0, .int .u32 0, .int .u32 0, .int .u32 0, .bool false] 91)).drew lab w1 lab → Blk w1.heap lab (w.heap.size + 1) 0 #[.int .u32 0, .int .u32 0, .int .u32 0, .int .u32 0, .int .u32 0, .bool false] 91) :=
    Lib.hid fun w1 t => Blk.kept (Blk.second w lab hf (.cells #[.int .u8 ty, .int .u8 fl, .int .u32 st, .string d] 32) _ _) t (by omega)
  go_cut [4, 5] (fun v4 v5 wx => ∃ bq, v4 = ptr bq ∧ v5 = .int .u32 0 ∧ Blk wx.heap lab bq 0 (peerCells P) 91 ∧ Stp 0 0 (w.alloc (.cells #[.int .u8 ty, .int .u8 fl, .int .u32 st, .string d] 32)) lab wx lab)
  case first =>
    go_region_held3 (fun w' => w'.cell? ⟨p, 0, none⟩ = some (.bool s.client) ∧ w'.cell? ⟨p, 4, none⟩ = some (.int .u32 s.peer.table) ∧ w'.cell? ⟨p, 5, none⟩ = some (.int .u32 s.peer.streams) ∧ w'.cell? ⟨p, 6, none⟩ = some (.int .u32 s.peer.window) ∧ w'.cell? ⟨p, 7, none⟩ = some (.int .u32 s.peer.frame) ∧ w'.cell? ⟨p, 8, none⟩ = some (.int .u32 s.peer.list) ∧ w'.cell? ⟨p, 9, none⟩ = some (.bool s.peer.push) ∧ w'.cell? ⟨w.heap.size, 3, none⟩ = some (.string d))
      (first
        | (refine KA.out _ ?_; with_reducible first | exact R0d.out | exact R0a.out | exact sA | exact sA.alloc _ | exact sB | exact sB.alloc _)
        | (refine KA.out _ ?_; (iterate 6 (refine StpH.setCell ?_ _ (.inl ?_))); (with_reducible first | exact sB | exact sB.alloc _); all_goals exact HLE.out))
      (first
        | (go_at_call 138; first
          | ((with_reducible refine (PRS.out (w.alloc (.cells #[.int .u8 ty, .int .u8 fl, .int .u32 st, .string d] 32)).drew FR0.out).mono ?_); rintro e w1 ⟨A1, cap1, rfl, ho1, s1⟩; have sA : Stp 0 0 (w.alloc (.cells #[.int .u8 ty, .int .u8 fl, .int .u32 st, .string d] 32)) lab w1 lab := s1; clear s1)
          | ((with_reducible refine (PRS.out ((w.alloc (.cells #[.int .u8 ty, .int .u8 fl, .int .u32 st, .string d] 32)).alloc (.cells #[.int .u32 0, .int .u32 0, .int .u32 0, .int .u32 0, .int .u32 0, .bool false] 91)).drew FR1.out).mono ?_); rintro e w1 ⟨A1, cap1, rfl, ho1, s1⟩; have sA := SA1.out w1 s1; have hqA := HQ1.out w1 s1; have HLA := Lib.hid (show ((w.alloc (.cells #[.int .u8 ty, .int .u8 fl, .int .u32 st, .string d] 32))).heap.size ≤ w.heap.size + 1 by simp); clear s1))
        | (go_at_call 137; have hz := ho1.base0; first
          | ((with_reducible refine (APP.out w1 sA.fresh A1 cap1 hz).mono ?_); rintro e w2 ⟨rfl, s2⟩; have sB := sA.trans s2; (first | (have hq := hqA.kept s2 (by omega); have HLE := HLA) | (have HLE := Lib.hid sB.size; have hq := Blk.at_new w2 lab s2.fresh #[.int .u32 0, .int .u32 0, .int .u32 0, .int .u32 0, .int .u32 0, .bool false] 91)); obtain ⟨⟨z0, z1, z2, z3, z4, z5⟩, y0, y1, y2, y3, y4, y5⟩ := hq.six; clear s2)
          | ((with_reducible refine (APP.out (w1.alloc (.cells #[.int .u32 0, .int .u32 0, .int .u32 0, .int .u32 0, .int .u32 0, .bool false] 91)) (sA.fresh.alloc _) A1 cap1 (hz.alloc _)).mono ?_); rintro e w2 ⟨rfl, s2⟩; have sB := (sA.alloc _).trans s2; have HLE := Lib.hid sA.size; have hq := Blk.kept (Blk.at_new w1 lab sA.fresh #[.int .u32 0, .int .u32 0, .int .u32 0, .int .u32 0, .int .u32 0, .bool false] 91) s2 (by omega); obtain ⟨⟨z0, z1, z2, z3, z4, z5⟩, y0, y1, y2, y3, y4, y5⟩ := hq.six; clear s2)))
    all_goals
      go_wp2
      go_meet
      first
      | (have hfin := (((((hq.store 0 (.int .u32 P.table)).store 1 (.int .u32 P.streams)).store 2 (.int .u32 P.window)).store 3 (.int .u32 P.frame)).store 4 (.int .u32 P.list)).store 5 (.bool P.push)
         rw [cells_peer] at hfin
         refine ⟨_, rfl, rfl, ?_, ?_⟩
         with_reducible exact hfin
         iterate 6 (refine StpH.setCell ?_ _ (.inl ?_))
         with_reducible exact sB
         all_goals exact HLE.out)
      | (refine ⟨_, rfl, rfl, ?_, ?_⟩
         with_reducible exact blk_peer w2 lab sB.fresh P
         with_reducible exact sB.alloc _)
  case rest =>
    obtain ⟨bq, rfl, rfl, hq, sq⟩ := hcut
    have h2 := h1.kept sq (by omega) (by omega)
    clear KA R0 R0d R0a FR0 FR1 SA1 HQ1 PRS APP c0 c1 c2 c3 d0 d4 d5 d6 d7 d8 d9 b0 hap
    have INI := Lib.hid fun (w' : World) (hf' : Fr w'.heap lab) (h' : BookAt w'.heap lab (B + 8) g.bp s.book) => initial_none w' lab (B + 8) g.bp (by omega) s.book P.window h' hf' hbk hPw0 hPw1 hbf0 hbf1
    have e10 := h2.blk.cell 10 (v := ptr g.bp) (by rfl)
    have q2 := hq.cell 2 (v := .int .u32 P.window) (by rfl)
    go_wp2
    go_region_held3 (fun w' => w'.cell? ⟨p, 10, none⟩ = some (ptr g.bp) ∧ w'.cell? ⟨bq, 2, none⟩ = some (.int .u32 P.window))
      (first | exact ⟨k1, k2⟩ | go_keep)
      (first | (go_at_call 139; refine (INI.out _ ?_ ?_).mono ?_; exact sq.fresh; exact h2.parts.book; rintro e w3 ⟨lab3, rfl, hbk3, s3⟩; have k1 := (h2.blk.kept s3 (.inl (by omega))).cell 10 (v := ptr g.bp) (by rfl); have k2 := (hq.kept s3 (.inl (by omega))).cell 2 (v := .int .u32 P.window) (by rfl)))
    all_goals
      have h3p := h2.parts.setBook hB s3 hbk3
      have h3b := h2.blk.kept s3 (.inl (by omega))
      have hq3 := hq.kept s3 (.inl (by omega))
      obtain ⟨⟨x0, x1, x2, x3, x4, x5⟩, -⟩ := hq3.six
      have y3 := h3b.cell 3 (v := ptr g.ep) (by rfl)
      have y4 := h3b.cell 4 (v := .int .u32 s.peer.table) (by rfl)
      have y5 := h3b.cell 5 (v := .int .u32 s.peer.streams) (by rfl)
      have y6 := h3b.cell 6 (v := .int .u32 s.peer.window) (by rfl)
      have y7 := h3b.cell 7 (v := .int .u32 s.peer.frame) (by rfl)
      have y8 := h3b.cell 8 (v := .int .u32 s.peer.list) (by rfl)
      have y9 := h3b.cell 9 (v := .bool s.peer.push) (by rfl)
      have f4 := h3b.free 4
      have f5 := h3b.free 5
      have f6 := h3b.free 6
      have f7 := h3b.free 7
      have f8 := h3b.free 8
      have f9 := h3b.free 9
      have t4 := h3b.storeStp s3.fresh 4 (.int .u32 P.table)
      have b4 := h3b.store 4 (.int .u32 P.table)
      have t5 := t4.trans (b4.storeStp t4.fresh 5 (.int .u32 P.streams))
      have b5 := b4.store 5 (.int .u32 P.streams)
      have t6 := t5.trans (b5.storeStp t5.fresh 6 (.int .u32 P.window))
      have b6 := b5.store 6 (.int .u32 P.window)
      have t7 := t6.trans (b6.storeStp t6.fresh 7 (.int .u32 P.frame))
      have b7 := b6.store 7 (.int .u32 P.frame)
      have t8 := t7.trans (b7.storeStp t7.fresh 8 (.int .u32 P.list))
      have b8 := b7.store 8 (.int .u32 P.list)
      have t9 := t8.trans (b8.storeStp t8.fresh 9 (.bool P.push))
      have b9 := b8.store 9 (.bool P.push)
      rw [cells_setpeer] at b9
      have h4 : ConnAt fixedT _ lab3 B p g { s with peer := P, book := { s.book with first := P.window } } := ⟨b9, (let q := h3p.kept t9 (by omega) (by omega); ⟨q.feed, q.dec, q.enc, q.book, q.opens, q.gone, q.out, q.events⟩)⟩
      have z3 := h4.blk.cell 3 (v := ptr g.ep) (by rfl)
      have z0 := (hq3.kept t9 (.inl hB)).cell 0 (v := .int .u32 P.table) (by rfl)
      have LIM := Lib.hid fun (w' : World) (h' : EncAt fixedT w'.heap lab3 (B + 5) g.ep s.enc) => (encLimit_same w' lab3 (B + 5) g.ep s.enc P.table h' hPt hPt0).mono fun _ _ ⟨a, b⟩ => (⟨a, b.symm⟩ : _ ∧ _ = _)
      have SND := Lib.hid fun (w' : World) (h' : ConnAt fixedT w'.heap lab3 B p g { s with peer := P, book := { s.book with first := P.window } }) (hf' : Fr w'.heap lab3) => send_spec w' lab3 hf' B p hB g _ ⟨4, 1, 0, ⟨#[]⟩⟩ h' ⟨by decide, by decide, by decide, by decide, by decide⟩ hl
      have HF : Hid (settingsOkF s P = sendF { s with peer := P, book := { s.book with first := P.window } } ⟨4, 1, 0, ⟨#[]⟩⟩) := Lib.hid rfl
      have HO : Hid ((sendF { s with peer := P, book := { s.book with first := P.window } } ⟨4, 1, 0, ⟨#[]⟩⟩).opens = []) := Lib.hid ho
      dsimp only [frmV] at SND
      generalize sendF { s with peer := P, book := { s.book with first := P.window } } ⟨4, 1, 0, ⟨#[]⟩⟩ = sF at *
      have H4 := Lib.hid h4
      have T9 := Lib.hid t9
      clear h4 t4 t5 t6 t7 t8 t9 b4 b5 b6 b7 b8 b9 h3p h3b hq3 hbk3
      go_wp2
      generalize ((((((w3.setCell ⟨p, 4, none⟩ (.int .u32 P.table)).setCell ⟨p, 5, none⟩ (.int .u32 P.streams)).setCell ⟨p, 6, none⟩ (.int .u32 P.window)).setCell ⟨p, 7, none⟩ (.int .u32 P.frame)).setCell ⟨p, 8, none⟩ (.int .u32 P.list)).setCell ⟨p, 9, none⟩ (.bool P.push)) = W6 at H4 T9 z3 z0 ⊢
      go_quiet ((go_at_call 140; refine Calls.quiet_of_same (LIM.out _ ?_); exact H4.out.parts.enc))
      go_wp2_with fail
      refine (SND.out _ ?_ ?_).mono ?_
      exact H4.out
      exact T9.out.fresh
      rintro e w5 ⟨g5, lab5, rfl, h5, s5⟩
      go_wp2_with fail
      refine (flush_idle w5 lab5 s5.fresh B p hB g5 sF h5 (by rw [HO.out]; decide) (by rw [HO.out]; intro x hx; simp at hx) (by rw [HO.out]; intro x hx; simp at hx)).mono ?_
      rintro e w6 ⟨g6, lab6, rfl, h6, s6⟩
      go_wp2
      go_end0
      rw [flushIdle_none HO.out] at h6
      rw [HF.out]
      exact ⟨g6, lab6, rfl, h6, ((((st0.trans sq).any _ _).trans (s3.mono (by omega) (by omega))).trans (T9.out.mono (by omega) (by omega))).trans (s5.trans s6)⟩
end Go.Proofs.YtlbaiighiaanoaaGreatDoor

/- Conn.right at settings and at heads; steps of Conn.frame. -/
namespace Go.Proofs.YtlbaiighiaanoaaGreatDoor
open Go Go.Proofs Go.RowKit
set_option maxRecDepth 100000
set_option linter.unusedVariables false
set_option linter.unusedSimpArgs false
/-- Conn.right where its handler is settings. -/
theorem right_settings (w : World) (lab : Nat → Nat) (hf : Fr w.heap lab) (B p : Nat) (g : CG) (s sF : CS) (f : Frm) (code : Int) (h : ConnAt fixedT w.heap lab B p g s) (ht : f.type = 4)
    (ST : ∀ w' : World, Fr w'.heap lab → ConnAt fixedT w'.heap lab B p g s → Calls Tryz.prog 106 #[ptr p, frmV f] w' (PostC w' lab B p sF (.tuple #[]))) :
    Calls Tryz.prog 75 #[ptr p, frmV f, .int .u32 code] w (PostC w lab B p sF (.tuple #[])) := by
  obtain ⟨ty, fl, st, d⟩ := f
  obtain rfl : ty = 4 := ht
  have hbx := Blk.at_new w lab hf #[.int .u8 (4 : Nat), .int .u8 fl, .int .u32 st, .string d] 32
  have st0 := (Stp.refl 0 0 hf).alloc (.cells #[.int .u8 (4 : Nat), .int .u8 fl, .int .u32 st, .string d] 32)
  have h1 := h.kept st0 (by omega) (by omega)
  obtain ⟨c0, c1, c2, c3⟩ := hbx.cells4
  have PS := Lib.hid (ST _ st0.fresh h1)
  dsimp only [frmV] at *
  clear ST
  go_enter Tryz.func75, Tryz.ntmps75
  go_wp2_with fail
  refine PS.out.mono ?_
  rintro e w2 ⟨g2, lab2, rfl, h2, st2⟩
  go_wp2
  go_end0
  exact ⟨g2, lab2, rfl, h2, (st0.any _ _).trans st2⟩
theorem right_headers (w : World) (lab : Nat → Nat) (hf : Fr w.heap lab) (B p : Nat) (hB : 0 < B) (g : CG) (s sF : CS) (f : Frm) (code : Int) (h : ConnAt fixedT w.heap lab B p g s) (ht : f.type = 1)
    (ST : ∀ w' : World, Fr w'.heap lab → ConnAt fixedT w'.heap lab B p g s → Calls Tryz.prog 103 #[ptr p, frmV f, .int .u32 code] w' (PostC w' lab B p sF (.tuple #[]))) :
    Calls Tryz.prog 75 #[ptr p, frmV f, .int .u32 code] w (PostC w lab B p sF (.tuple #[])) := by
  have PASS := Lib.hid fun (w' : World) (lab' : Nat → Nat) (g' : CG) (hf' : Fr w'.heap lab') (h' : ConnAt fixedT w'.heap lab' B p g' sF) => pass_spec w' lab' hf' B p g' sF f h'
  obtain ⟨ty, fl, st, d⟩ := f
  obtain rfl : ty = 1 := ht
  have hbx := Blk.at_new w lab hf #[.int .u8 (1 : Nat), .int .u8 fl, .int .u32 st, .string d] 32
  have st0 := (Stp.refl 0 0 hf).alloc (.cells #[.int .u8 (1 : Nat), .int .u8 fl, .int .u32 st, .string d] 32)
  have h1 := h.kept st0 (by omega) (by omega)
  obtain ⟨c0, c1, c2, c3⟩ := hbx.cells4
  have PS := Lib.hid (ST _ st0.fresh h1)
  dsimp only [frmV] at *
  clear ST
  go_enter Tryz.func75, Tryz.ntmps75
  go_wp2_with fail
  refine PS.out.mono ?_
  rintro e w2 ⟨g2, lab2, rfl, h2, st2⟩
  obtain ⟨q0, q1, q2, q3⟩ := (hbx.kept st2 (.inl hB)).cells4
  go_wp2_with fail
  refine (PASS.out _ _ _ st2.fresh h2).mono ?_
  rintro e w3 ⟨g3, lab3, rfl, h3, st3⟩
  go_wp2
  go_end0
  exact ⟨g3, lab3, rfl, h3, ((st0.any _ _).trans st2).trans st3⟩

/-! ### Steps -/
section
variable {B p : Nat} {s : CS} {f : Frm}
theorem step_settings (hB : 0 < B) (P : Peer) (ok : f.Ok) (hw : wrongF f = (0, 0)) (ht : f.type = 4) (hfl : flg f.flags 0 = false) (hon : s.block.on = false) (hd : f.data.size ≤ 16384)
    (hap : applyF s.client s.peer s.peer (setsF (f.data.size + 1) f.data) = (P, 0)) (ho : s.opens = []) (hbk : s.book.of = []) (hl : s.out.length ≤ 70368744177664) (hPw0 : 0 ≤ P.window) (hPw1 : P.window ≤ 2147483647) (hbf0 : 0 ≤ s.book.first) (hbf1 : s.book.first ≤ 2147483647) (hPt : min P.table 4096 = s.enc.tab.most) (hPt0 : 0 ≤ P.table) :
    StepOk B p f s (settingsOkF { s with begun := true } P) := fun w lab g hf h =>
  frame_good w lab hf B p hB g s _ f h ok hw (by rw [ht]; decide) hon (by rw [ht, hfl]; cases s.begun <;> rfl) fun w' lab' g' hf' h' =>
    right_settings w' lab' hf' B p g' _ _ f 0 h' ht fun w2 hf2 h2 => settings_ok w2 lab' hf2 B p hB g' { s with begun := true } f P h2 hfl ok.fl hd hap ho hbk hl hPw0 hPw1 hbf0 hbf1 hPt hPt0
theorem step_headers (hB : 0 < B) (id : Nat) (ok : f.Ok) (hw : wrongF f = (0, 0)) (ht : f.type = 1) (hbg : s.begun = true) (hon : s.block.on = false) (hid : f.stream = id) (hodd : id % 2 = 1) (hcl : s.client = false) (hend : flg f.flags 2 = true) (hidl : idleF s id = true) (h8 : s.opens.length < 8) (hle : s.events.length ≤ 1099511627776)
    (n : Nat) (h1 : 1 ≤ n) (hn : n ≤ fixedT.length) (hn2 : n < 127) (hb : fixedT.length ≤ 100000) (q : ByteArray × ByteArray) (hq : fixedT[n - 1]? = some q) (hsl : s.dec.tab.list.length ≤ 100000) (hs : (contentF f).size = 1) (hby : byteAt (contentF f) 0 = 128 + n) (hd : s.dec.down = false) :
    StepOk B p f s (headersF { s with begun := true } f q) := fun w lab g hf h =>
  frame_good w lab hf B p hB g s _ f h ok hw (by rw [ht]; decide) hon (by rw [hbg]; rfl) fun w' lab' g' hf' h' =>
    right_headers w' lab' hf' B p hB g' _ _ f 0 h' ht fun w2 hf2 h2 => headers_one w2 lab' hf2 B p hB g' { s with begun := true } f id h2 ok hid hodd hcl hend hidl h8 hle n h1 hn hn2 hb q hq hsl hs hby hd
theorem step_ping (hB : 0 < B) (ok : f.Ok) (hw : wrongF f = (0, 0)) (ht : f.type = 6) (hbg : s.begun = true) (hon : s.block.on = false) (hd : f.data.size ≤ 16384) (hl : s.out.length ≤ 70368744177664) :
    StepOk B p f s (pongF { s with begun := true } f) := fun w lab g hf h =>
  frame_good w lab hf B p hB g s _ f h ok hw (by rw [ht]; decide) hon (by rw [hbg]; rfl) fun w' lab' g' hf' h' =>
    right_ping w' lab' hf' B p hB g' _ f 0 h' ht ok.fl hd hl
theorem step_pass (hB : 0 < B) (ok : f.Ok) (hw : wrongF f = (0, 0)) (ht : 10 ≤ f.type) (hbg : s.begun = true) (hon : s.block.on = false) :
    StepOk B p f s { s with begun := true } := fun w lab g hf h =>
  frame_good w lab hf B p hB g s _ f h ok hw (by omega) hon (by rw [hbg]; rfl) fun w' lab' g' hf' h' => right_pass w' lab' hf' B p g' _ f 0 h' ht
end
end Go.Proofs.YtlbaiighiaanoaaGreatDoor

/- The contracts of conn.large and Conn.head at one field that is a fixed entry. -/
namespace Go.Proofs.YtlbaiighiaanoaaGreatDoor
open Go Go.Proofs Go.RowKit
set_option maxRecDepth 100000
set_option linter.unusedVariables false
set_option linter.unusedSimpArgs false
theorem large_one (w : World) (lab : Nat → Nat) (hf : Fr w.heap lab) (fv : Value) (f : Fld) (h : FldsAt w.heap lab fv [f]) (hs : f.name.size + f.value.size ≤ 15000) :
    Calls Tryz.prog 56 #[fv] w (PostS w lab (.bool false)) := by
  obtain ⟨g, cap, rfl, e0, e1, e2⟩ := Row.fld h
  obtain ⟨nm, vl, nv⟩ := f
  dsimp only at *
  have m1 : min (nm.size : Int) 15001 = nm.size := by omega
  have m2 : min (vl.size : Int) 15001 = vl.size := by omega
  have w1 : IntKind.i64.wrap ((nm.size : Int) + vl.size) = nm.size + vl.size := wrap_i64 _ (by omega) (by omega)
  have w2 : decide ((15000 : Int) < (nm.size : Int) + vl.size) = false := by simp; omega
  go_enter Tryz.func56, Tryz.ntmps56
  go_wp2
  go_loopw [3, 5, 8] (fun n3 _ i wr => (n3 = .int .i64 0 ∧ i = .int .i64 0 ∧ wr = w) ∨ (i = .int .i64 1 ∧ Stp 0 0 w lab wr lab)) (fun _ _ i _ => 1 - (intOf i).toNat)
  case atStart => exact .inl ⟨rfl, rfl, rfl⟩
  case round =>
    rcases hrel with ⟨rfl, rfl, rfl⟩ | ⟨rfl, st⟩
    · go_wp2
      first
        | exact ⟨.inr ⟨by go_num, (Stp.refl 0 0 hf).alloc _⟩, by simp [intOf]⟩
        | (go_roundw
           case rel => exact .inr ⟨by go_num, (Stp.refl 0 0 hf).alloc _⟩
           case measure => simp [intOf])
    · go_wp2
      go_ret
      exact ⟨rfl, st⟩
/-- A head of one field that is a fixed entry is sent. -/
def headCF (s : CS) (id : Int) (fin : Bool) (n : Nat) : CS := sendF { s with enc := encW s.enc } ⟨1, if fin then 5 else 4, id, ⟨#[UInt8.ofNat (128 + n)]⟩⟩
set_option maxHeartbeats 1000000 in
theorem head_one (w : World) (lab : Nat → Nat) (hf : Fr w.heap lab) (B p : Nat) (hB : 0 < B) (g : CG) (s : CS) (id : Int) (fin : Bool) (h : ConnAt fixedT w.heap lab B p g s) (hi0 : 0 ≤ id) (hi1 : id ≤ 2147483647) (hch : s.enc.changed = false) (hpf : 1 ≤ s.peer.frame) (hl : s.out.length ≤ 70368744177664) (fv : Value) (n : Nat) (h1 : 1 ≤ n) (hn : n ≤ fixedT.length) (hn2 : n < 127) (hb : fixedT.length ≤ 100000) (q : ByteArray × ByteArray) (hq : fixedT[n - 1]? = some q) (hsl : s.enc.tab.list.length ≤ 100000)
    (hno : ∀ j, j < n - 1 → ∀ r, fixedT[j]? = some r → (r.1.toList == q.1.toList) = false) (hfv : FldsAt w.heap lab fv [⟨q.1, q.2, false⟩]) :
    Calls Tryz.prog 57 #[ptr p, .int .u32 id, .bool fin, fv] w (PostC w lab B p (headCF s id fin n) (.tuple #[])) := by
  have WR := Lib.hid (write_one fixedT w lab hf (B + 5) g.ep (by omega) s.enc h.parts.enc hch fv n h1 hn hn2 hb q hq hsl hno hfv)
  have c3 := h.blk.cell 3 (v := ptr g.ep) (by rfl)
  have hF : headCF s id fin n = sendF { s with enc := encW s.enc } ⟨1, if fin then 5 else 4, id, ⟨#[UInt8.ofNat (128 + n)]⟩⟩ := rfl
  have SND := fun (w' : World) (g' : CG) (hf' : Fr w'.heap lab) (h' : ConnAt fixedT w'.heap lab B p g' { s with enc := encW s.enc }) => send_spec w' lab hf' B p hB g' _ ⟨1, if fin then 5 else 4, id, ⟨#[UInt8.ofNat (128 + n)]⟩⟩ h' ⟨by show 1 < 256; decide, by cases fin; (show 4 < 256; decide); (show 5 < 256; decide), hi0, hi1, by simp [ByteArray.size]⟩ hl
  rw [← hF] at SND
  have LIM := Lib.hid fun (w' : World) (g' : CG) (h' : ConnAt fixedT w'.heap lab B p g' { s with enc := encW s.enc }) => limit_spec w' lab B p g' _ h' (by show 0 ≤ s.peer.frame; omega)
  dsimp only [frmV] at SND
  obtain ⟨fl5, hfl5⟩ : ∃ k : Nat, (if fin then 5 else 4) = k := ⟨_, rfl⟩
  rw [hfl5] at SND
  generalize headCF s id fin n = sF at *
  obtain ⟨lm, hlm, hlm1⟩ : ∃ lm, min s.peer.frame 16384 = lm ∧ 1 ≤ lm := ⟨_, rfl, by omega⟩
  dsimp only at LIM
  rw [hlm] at LIM
  have hmin : min 1 lm = (1 : Int) := by omega
  obtain ⟨D, hD, hDs⟩ : ∃ D : ByteArray, (⟨#[UInt8.ofNat (128 + n)]⟩ : ByteArray) = D ∧ D.size = 1 := ⟨_, rfl, by simp [ByteArray.size]⟩
  rw [hD] at WR SND
  have hds2 : (D.size : Int) = 1 := by omega
  clear hF hno hq hD hlm
  have SND := Lib.hid SND
  have HX : Hid (D.extract 0 1 = D) := Lib.hid (by
    apply ByteArray.ext
    rw [ByteArray.data_extract]
    have : D.data.size = 1 := hDs
    rw [← this, Array.extract_size])
  have hp := h.parts
  have hbk := h.blk
  clear hfv
  cases fin
  all_goals
    first | obtain rfl : 4 = fl5 := hfl5 | obtain rfl : 5 = fl5 := hfl5
    go_enter Tryz.func57, Tryz.ntmps57
    go_wp2_with fail
    refine WR.out.mono ?_
    rintro e w2 ⟨rfl, hE, s2⟩
    have h2 : ConnAt fixedT w2.heap lab B p g { s with enc := encW s.enc } := ⟨hbk.kept s2 (.inl (by omega)), hp.setEnc hB s2 hE⟩
    go_wp2
    refine wp_loop_rounds 1 ?_
    rw [rounds_succ]
    go_wp2_with fail
    refine (LIM.out _ g ?_).mono ?_
    exact h2.alloc _ s2.fresh
    rintro e w3 ⟨rfl, rfl⟩
    go_wp2
    go_region
    all_goals
      rw [HX.out]
      go_wp2_with fail
      refine (SND.out _ g ?_ ?_).mono ?_
      exact s2.fresh.alloc _
      exact h2.alloc _ s2.fresh
      rintro e w5 ⟨g5, lab5, rfl, h5, s5⟩
      go_wp2
      go_end0
      exact ⟨g5, lab5, rfl, h5, ((s2.mono (by omega) (by omega)).trans (((Stp.refl 0 0 s2.fresh).alloc _).any _ _)).trans s5⟩
end Go.Proofs.YtlbaiighiaanoaaGreatDoor

/- The contract of Conn.Head at one field that is a fixed entry. -/
namespace Go.Proofs.YtlbaiighiaanoaaGreatDoor
open Go Go.Proofs Go.RowKit
set_option maxRecDepth 100000
set_option linter.unusedVariables false
set_option linter.unusedSimpArgs false
set_option maxHeartbeats 1000000 in
theorem Head_one (w : World) (lab : Nat → Nat) (hf : Fr w.heap lab) (B p : Nat) (hB : 0 < B) (g : CG) (s : CS) (id : Int) (fin : Bool) (st st' : Nat) (h : ConnAt fixedT w.heap lab B p g s) (hx : s.opens.lookup id = some ⟨st, ⟨#[]⟩, false⟩) (hst : st ≤ 4) (hnx : nextF st (if fin then 7 else 6) = (st', 0, 0)) (hi0 : 0 ≤ id) (hi1 : id ≤ 2147483647) (hch : s.enc.changed = false) (hpf : 1 ≤ s.peer.frame) (hl : s.out.length ≤ 70368744177664) (fv : Value) (n : Nat) (h1 : 1 ≤ n) (hn : n ≤ fixedT.length) (hn2 : n < 127) (hb : fixedT.length ≤ 100000) (q : ByteArray × ByteArray) (hq : fixedT[n - 1]? = some q) (hqs : q.1.size + q.2.size ≤ 15000) (hsl : s.enc.tab.list.length ≤ 100000)
    (hno : ∀ j, j < n - 1 → ∀ r, fixedT[j]? = some r → (r.1.toList == q.1.toList) = false) (hfv : FldsAt w.heap lab fv [⟨q.1, q.2, false⟩]) :
    Calls Tryz.prog 21 #[ptr p, .int .u32 id, .bool fin, fv] w (PostC w lab B p (putF (headCF s id fin n) id ⟨st', ⟨#[]⟩, false⟩) (.int .i64 0)) := by
  have c11 := h.blk.cell 11 (v := .map (some g.om)) rfl
  have hmp := h.parts.opens
  have hr := lookup_side id s.opens true
  rw [hx] at hr
  have hr2 := hr.trans (show _ = Value.tuple #[.agg #[.int .i64 st, .string ⟨#[]⟩, .bool false], .bool true] from rfl)
  have HR := Lib.hid hr2
  clear hr hr2 hx
  have EIT := Lib.hid fun w' => (either_spec fin 7 6 w').mono fun _ _ ⟨a, b⟩ => (⟨a, b.symm⟩ : _ ∧ _ = _)
  have NXT : Hid (∀ w', Calls Tryz.prog 54 #[.int .i64 st, .int .i64 (if fin then 7 else 6)] w' fun e w2 => e = .returned (.tuple #[.int .i64 st', .int .i64 0, .int .u32 0]) ∧ w2 = w') := Lib.hid fun w' => by
    cases fin
    · have := next_spec st 6 w' hst (by decide) (by decide)
      rw [show nextF st 6 = (st', 0, 0) from hnx] at this
      exact this.mono fun _ _ ⟨a, b⟩ => ⟨a, b.symm⟩
    · have := next_spec st 7 w' hst (by decide) (by decide)
      rw [show nextF st 7 = (st', 0, 0) from hnx] at this
      exact this.mono fun _ _ ⟨a, b⟩ => ⟨a, b.symm⟩
  generalize (if fin then (7 : Int) else 6) = stp at *
  have hbx := Blk.new w lab (B + 16) #[.int .i64 st, .string ⟨#[]⟩, .bool false] 115
  have st0 := ((Stp.refl 0 0 hf).alloc (.cells #[.int .i64 st, .string ⟨#[]⟩, .bool false] 115)).label (k := w.heap.size) (B + 16) (Nat.le_refl _) (by simp)
  generalize hlab1 : upd lab w.heap.size (B + 16) = lab1 at *
  have HLAB := Lib.hid hlab1
  clear hlab1
  have hc1 := h.kept st0 (by omega) (by omega)
  have d0 := hbx.cell 0 (v := .int .i64 st) rfl
  have d1 := hbx.cell 1 (v := .string ⟨#[]⟩) rfl
  have d2 := hbx.cell 2 (v := .bool false) rfl
  have LRG := Lib.hid fun (w' : World) (hf' : Fr w'.heap lab1) (hv : FldsAt w'.heap lab1 fv [⟨q.1, q.2, false⟩]) => large_one w' lab1 hf' fv _ hv hqs
  have HD := Lib.hid fun (w' : World) (hf' : Fr w'.heap lab1) (h' : ConnAt fixedT w'.heap lab1 B p g s) (hv : FldsAt w'.heap lab1 fv [⟨q.1, q.2, false⟩]) => head_one w' lab1 hf' B p hB g s id fin h' hi0 hi1 hch hpf hl fv n h1 hn hn2 hb q hq hsl hno hv
  have PT := Lib.hid fun (w' : World) (lab' : Nat → Nat) (g' : CG) (hf' : Fr w'.heap lab') (h' : ConnAt fixedT w'.heap lab' B p g' (headCF s id fin n)) => put_spec' w' lab' hf' B p hB g' _ id ⟨st', ⟨#[]⟩, false⟩ h'
  dsimp only [sideV] at PT
  generalize putF (headCF s id fin n) id ⟨st', ⟨#[]⟩, false⟩ = sF at *
  generalize headCF s id fin n = sH at *
  clear hno hq hnx
  go_enter Tryz.func21, Tryz.ntmps21
  go_wp2_with (at_lookup; refine wp_look rfl _ _ _ true rfl Tryz.underlying95 Tryz.underlying30 rfl hmp rfl zv_side HR.out ?_)
  go_quiet (first | (go_at_call 55; exact Calls.quiet_of_same (EIT.out _)) | (go_at_call 54; exact Calls.quiet_of_same (NXT.out _)))
  go_wp2_with fail
  refine (LRG.out _ ?_ ?_).mono ?_
  exact st0.fresh
  exact FldsAt.kept (l := [⟨q.1, q.2, false⟩]) hfv st0 (by omega)
  rintro e w2 ⟨rfl, s2⟩
  have sA := st0.trans s2
  go_wp2_with fail
  refine (HD.out _ sA.fresh (h.kept sA (by omega) (by omega)) (FldsAt.kept (l := [⟨q.1, q.2, false⟩]) hfv sA (by omega))).mono ?_
  rintro e w3 ⟨g3, lab3, rfl, h3, s3⟩
  have hx3 := ((hbx.kept s2 (by omega)).kept s3 (.inr (Nat.le_refl _)))
  have e0 := hx3.cell 0 (v := .int .i64 st) rfl
  have f0 := hx3.free 0
  have hx4 := hx3.store 0 (.int .i64 st')
  have e1 := hx4.cell 0 (v := .int .i64 st') rfl
  have e2 := hx4.cell 1 (v := .string ⟨#[]⟩) rfl
  have e3 := hx4.cell 2 (v := .bool false) rfl
  have s4 : Stp (B + 16) (B + 16 + 1) w3 lab3 (w3.setCell ⟨w.heap.size, 0, none⟩ (.int .i64 st')) lab3 := hx3.storeStp s3.fresh 0 (.int .i64 st')
  have h4 : ConnAt fixedT (w3.setCell ⟨w.heap.size, 0, none⟩ (.int .i64 st')).heap lab3 B p g3 sH := h3.kept s4 (by omega) (by omega)
  go_wp2_with fail
  refine (PT.out _ _ _ ?_ h4).mono ?_
  exact s4.fresh
  rintro e w5 ⟨g5, lab5, rfl, h5, s5⟩
  go_wp2
  go_ret
  exact ⟨g5, lab5, rfl, h5, (((sA.any _ _).trans s3).setCell _ (.inl (Nat.le_refl _))).trans s5⟩
end Go.Proofs.YtlbaiighiaanoaaGreatDoor

/- The plain states behind a beginning. -/
namespace Go.Proofs.YtlbaiighiaanoaaGreatDoor
open Go Go.Proofs Go.RowKit
set_option maxRecDepth 100000
set_option linter.unusedVariables false
set_option linter.unusedSimpArgs false
theorem flat_len : ∀ fs : List Frm, 9 * fs.length ≤ (fs.flatMap frmBytes).length
  | [] => by simp
  | f :: fs => by
    have := flat_len fs
    rw [List.flatMap_cons, List.length_append, frmBytes_len, List.length_cons]
    omega
theorem add_end (fs : List Frm) (h : ∀ f ∈ fs, f.Fits) : addEnd ⟨bs (fs.flatMap frmBytes), false, false⟩ = (fs, 0, ⟨bs [], false, false⟩) := by
  have hl := flat_len fs
  have hf := frames_all fs h ((bs (fs.flatMap frmBytes)).size + 1) (by rw [bs_size]; omega)
  unfold addEnd
  dsimp only
  rw [hf]
  rfl
/-- Whole frames come, behind the preface or behind nothing. -/
theorem add_plain (fs : List Frm) (h : ∀ f ∈ fs, f.Fits) : addF ⟨bs [], false, false⟩ (bs (fs.flatMap frmBytes)) = (fs, 0, ⟨bs [], false, false⟩) := by
  have he : bs [] ++ bs (fs.flatMap frmBytes) = bs (fs.flatMap frmBytes) := by rw [bs_append, List.nil_append]
  unfold addF beginF
  dsimp only
  rw [he]
  simp only [Bool.false_eq_true, if_false, if_true]
  exact add_end fs h
theorem begins_pre (l : List UInt8) : begins (bs (prefaceB.data.toList ++ l)) prefaceB = true := by
  unfold begins
  rw [bs_size, bs_extract]
  have h1 : prefaceB.size = 24 := rfl
  have h2 : prefaceB.data.toList.length = 24 := rfl
  rw [h1, List.length_append, h2, List.drop_zero, List.take_append_of_le_length (by rw [h2]; decide), List.take_of_length_le (by rw [h2]; decide), bs_self]
  simp
theorem add_pre (fs : List Frm) (h : ∀ f ∈ fs, f.Fits) : addF ⟨bs [], true, false⟩ (bs (prefaceB.data.toList ++ fs.flatMap frmBytes)) = (fs, 0, ⟨bs [], false, false⟩) := by
  have he : bs [] ++ bs (prefaceB.data.toList ++ fs.flatMap frmBytes) = bs (prefaceB.data.toList ++ fs.flatMap frmBytes) := by rw [bs_append, List.nil_append]
  have hx : (bs (prefaceB.data.toList ++ fs.flatMap frmBytes)).extract 24 (bs (prefaceB.data.toList ++ fs.flatMap frmBytes)).size = bs (fs.flatMap frmBytes) := by
    rw [bs_extract, bs_size, List.drop_left' (show prefaceB.data.toList.length = 24 from rfl), List.length_append, List.take_of_length_le]
    have : prefaceB.data.toList.length = 24 := rfl
    omega
  unfold addF beginF
  dsimp only
  rw [he]
  simp only [Bool.false_eq_true, if_false, Bool.true_eq_false, begins_pre, if_true, hx]
  exact add_end fs h
/-! ### States -/
def fSet : Frm := ⟨4, 0, 0, ⟨#[]⟩⟩
def fAck : Frm := ⟨4, 1, 0, ⟨#[]⟩⟩
def fGet (fin : Bool) : Frm := ⟨1, if fin then 5 else 4, 1, bs [130]⟩
def newO (c : Bool) : List UInt8 := if c then prefaceB.data.toList ++ frmBytes (settingsF 2 0) else frmBytes (settingsF 3 8)
theorem newF_eq (c : Bool) : newF c = { conn0 c with out := newO c } := by cases c <;> rfl
/-- Behind the other side's settings. -/
def stS (c : Bool) (o : List UInt8) : CS := { conn0 c with feed := ⟨bs [], false, false⟩, begun := true, out := o }
theorem fSet_ok : fSet.Ok := ⟨by decide, by decide, by decide, by decide, by decide⟩
theorem fSet_fits : fSet.Fits := ⟨by decide, by decide, by decide, by decide, by decide⟩
theorem fGet_ok (fin : Bool) : (fGet fin).Ok := by cases fin <;> exact ⟨by decide, by decide, by decide, by decide, by decide⟩
theorem fGet_fits (fin : Bool) : (fGet fin).Fits := by cases fin <;> exact ⟨by decide, by decide, by decide, by decide, by decide⟩
theorem run_set (B p : Nat) (hB : 0 < B) (c : Bool) (o : List UInt8) (ho : o.length ≤ 70368744177664) {fs : List Frm} {s' : CS} (r : Run B p fs (stS c (o ++ frmBytes fAck)) s') :
    Run B p (fSet :: fs) { conn0 c with feed := ⟨bs [], false, false⟩, out := o } s' := by
  refine .step rfl ?_ r
  have := step_settings (B := B) (p := p) (s := { conn0 c with feed := ⟨bs [], false, false⟩, out := o }) (f := fSet) hB peer0 fSet_ok (by decide +kernel) rfl (by decide) rfl (by decide) (by cases c <;> rfl) rfl rfl ho (by decide) (by decide) (by show (0 : Int) ≤ 65535; decide) (by show (65535 : Int) ≤ 2147483647; decide) (by show min (4096 : Int) 4096 = 4096; decide) (by decide)
  exact this
/-- Behind a first head. -/
def stG (fin : Bool) (o : List UInt8) : CS :=
  { stS false o with opens := [(1, ⟨firstSt fin, ⟨#[]⟩, false⟩)], book := ⟨65535, 65535, [(1, 65535)]⟩, last := 1, events := [⟨1, 1, [⟨qGet.1, qGet.2, false⟩], ⟨#[]⟩, fin, 0⟩] }
theorem fGet_wrong (fin : Bool) : wrongF (fGet fin) = (0, 0) := by cases fin <;> decide +kernel
theorem fGet_content (fin : Bool) : contentF (fGet fin) = bs [130] := by cases fin <;> decide +kernel
theorem run_get (B p : Nat) (hB : 0 < B) (fin : Bool) (o : List UInt8) (ho : o.length ≤ 70368744177664) {fs : List Frm} {s' : CS} (r : Run B p fs (stG fin o) s') :
    Run B p (fGet fin :: fs) (stS false o) s' := by
  refine .step rfl ?_ r
  have := step_headers (B := B) (p := p) (s := stS false o) (f := fGet fin) hB 1 (fGet_ok fin) (fGet_wrong fin) rfl rfl rfl (by cases fin <;> rfl) rfl rfl (by cases fin <;> decide) (by show (decide ((0 : Int) < 1) || _) = true; rfl) (by show (0 : Nat) < 8; decide) (by show (0 : Nat) ≤ _; exact Nat.zero_le _) 2 (by decide) (by rw [fixedT_len]; decide) (by decide) (by rw [fixedT_len]; decide) qGet fixed_get (by show (0 : Nat) ≤ 100000; decide) (by rw [fGet_content]; decide) (by rw [fGet_content]; decide) rfl
  have e : headersF { stS false o with begun := true } (fGet fin) qGet = stG fin o := by cases fin <;> rfl
  rw [e] at this
  exact this
end Go.Proofs.YtlbaiighiaanoaaGreatDoor

/- Out and Over, with what they turn told finely; Take where the side is over at the end. -/
namespace Go.Proofs.YtlbaiighiaanoaaGreatDoor
open Go Go.Proofs Go.RowKit
set_option maxRecDepth 100000
set_option linter.unusedVariables false
set_option linter.unusedSimpArgs false
/-- What a method of a connection leaves that turns its own block alone. -/
def PostF (w : World) (lab : Nat → Nat) (B p : Nat) (s : CS) (v : Value) (e : Ending) (w' : World) : Prop :=
  ∃ g, e = .returned v ∧ ConnAt fixedT w'.heap lab B p g s ∧ Stp B (B + 1) w lab w' lab
theorem out_fine (w : World) (lab : Nat → Nat) (hf : Fr w.heap lab) (B p : Nat) (hB : 0 < B) (g : CG) (s : CS) (h : ConnAt fixedT w.heap lab B p g s) :
    Calls Tryz.prog 14 #[ptr p] w (PostF w lab B p { s with out := [] } (.string ⟨s.out.toArray⟩)) := by
  have c19 := h.blk.cell 19 (v := g.out) (by rfl)
  have f19 := h.blk.free 19
  have hr := h.parts.out
  have ho := hr.1
  go_enter Tryz.func14, Tryz.ntmps14
  go_wp2_with (refine wp_convBS rfl _ _ 9 rfl Tryz.underlying46 Tryz.underlying9 Tryz.underlying5 rfl ho ?_)
  go_ret
  have hb2 := h.blk.store 19 (.slice none 0 0)
  have st := h.blk.storeStp hf 19 (.slice none 0 0)
  have hp2 : CParts fixedT w.heap lab B { g with out := .slice none 0 0 } { s with out := [] } := h.parts.setOut (R := wrest w) (R1 := wrest w) hB (Stp.refl _ _ hf) (Row.nil _ _ _ _ _)
  exact ⟨{ g with out := .slice none 0 0 }, rfl, ⟨hb2, hp2.kept st (by omega) (by omega)⟩, st⟩
theorem over_fine (w : World) (lab : Nat → Nat) (hf : Fr w.heap lab) (B p : Nat) (g : CG) (s : CS) (h : ConnAt fixedT w.heap lab B p g s) :
    Calls Tryz.prog 17 #[ptr p] w (PostF w lab B p s (.tuple #[.int .u32 s.code, .bool s.over])) := by
  have c24 := h.blk.cell 24 (v := .bool s.over) (by rfl)
  have c25 := h.blk.cell 25 (v := .int .u32 s.code) (by rfl)
  go_enter Tryz.func17, Tryz.ntmps17
  go_wp2
  go_region
  all_goals
    go_wp2
    go_ret2
    exact ⟨g, rfl, h, Stp.refl _ _ hf⟩
end Go.Proofs.YtlbaiighiaanoaaGreatDoor
