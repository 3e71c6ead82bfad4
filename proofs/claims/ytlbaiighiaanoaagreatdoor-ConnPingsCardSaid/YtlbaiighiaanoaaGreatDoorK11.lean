/- Contracts and plain laws for Pings, part 11; no conditions but those that each theorem states. -/
import Derived.Test.YtlbaiighiaanoaaGreatDoorK10
import Derived.Deep.RegionHeld3
/- The contract of Table.Find at a fixed entry whose name comes first. -/
namespace Go.Proofs.YtlbaiighiaanoaaGreatDoor
open Go Go.Proofs Go.RowKit
set_option maxRecDepth 100000
set_option linter.unusedVariables false
set_option linter.unusedSimpArgs false
theorem find_first (fixed : List (ByteArray × ByteArray)) (w : World) (lab : Nat → Nat) (hf : Fr w.heap lab) (m p : Nat) (s : Tab) (h : TabAt fixed w.heap lab m p s) (n : Nat) (h1 : 1 ≤ n) (hn : n ≤ fixed.length) (hb : fixed.length ≤ 100000) (q : ByteArray × ByteArray) (hq : fixed[n - 1]? = some q) (hsl : s.list.length ≤ 100000)
    (hno : ∀ j, j < n - 1 → ∀ r, fixed[j]? = some r → (r.1.toList == q.1.toList) = false) :
    Calls Tryz.prog 146 #[ptr p, .string q.1, .string q.2] w (PostS w lab (.tuple #[.int .i64 n, .bool true])) := by
  have AT := Lib.hid fun (w' : World) (hf' : Fr w'.heap lab) (h' : TabAt fixed w'.heap lab m p s) (k : Nat) (k1 : 1 ≤ k) (kn : k ≤ fixed.length) (r : ByteArray × ByteArray) (hr : fixed[k - 1]? = some r) => at_fixed fixed w' lab hf' m p s h' k k1 kn hb r hr hsl
  have HNO := Lib.hid hno
  have HQ := Lib.hid hq
  have HT := Lib.hid h
  clear hno hq h
  go_enter Tryz.func146, Tryz.ntmps146
  go_wp2
  go_loopw [6, 8, 9, 10, 11] (fun v6 i _ _ _ wr => ∃ k : Nat, 1 ≤ k ∧ k ≤ n ∧ i = .int .i64 k ∧ v6 = .int .i64 0 ∧ Stp 0 0 w lab wr lab) (fun _ i _ _ _ _ => n - (intOf i).toNat)
  case atStart => exact ⟨1, by omega, h1, rfl, rfl, Stp.refl 0 0 hf⟩
  case round =>
    obtain ⟨k, k1, kn, rfl, rfl, st⟩ := hrel
    have ht := HT.out.kept st (by omega) (by omega)
    have ht' := ht
    obtain ⟨lv, fv, hB, hl, hfx⟩ := ht
    obtain ⟨A, cl, rfl⟩ := hl.1.shp
    obtain ⟨A2, c2, rfl⟩ := hfx.1.shp
    obtain ⟨N, hN⟩ : ∃ N, fixed.length = N := ⟨_, rfl⟩
    rw [hN] at hB
    have e2 := hB.cell 2 (v := .slice A s.list.length cl) rfl
    have e3 := hB.cell 3 (v := .slice A2 N c2) rfl
    have g1 : decide ((k : Int) ≤ (N : Int) + s.list.length) = true := by simp; omega
    have hw1 : IntKind.i64.wrap ((N : Int) + s.list.length) = N + s.list.length := wrap_i64 _ (by omega) (by omega)
    have HNN := Lib.hid hN
    clear hN
    by_cases hk : k = n
    · subst hk
      have hnn := HNN.out
      obtain ⟨q1, q2⟩ := q
      dsimp only at *
      go_wp2
      go_quiet (fail)
      go_wp2_with fail
      refine (AT.out _ ?_ ?_ k k1 hn _ HQ.out).mono ?_
      exact st.fresh
      exact ht'
      rintro e w2 ⟨rfl, s2⟩
      go_wp2
      go_ret2
      exact ⟨rfl, st.trans s2⟩
    · have hkn : k < n := by omega
      obtain ⟨r, hr⟩ : ∃ r, fixed[k - 1]? = some r := ⟨_, List.getElem?_eq_getElem (by omega)⟩
      have hne := HNO.out (k - 1) (by omega) r hr
      have HR := Lib.hid hr
      clear hr
      obtain ⟨r1, r2⟩ := r
      obtain ⟨q1, q2⟩ := q
      dsimp only at *
      have hkf : k ≤ fixed.length := by omega
      go_wp2
      go_quiet (fail)
      go_wp2_with fail
      refine (AT.out _ ?_ ?_ k k1 hkf _ HR.out).mono ?_
      exact st.fresh
      exact ht'
      rintro e w2 ⟨rfl, s2⟩
      go_wp2
      exact ⟨⟨k + 1, by omega, by omega, by go_num, rfl, st.trans s2⟩, by simp [intOf]; omega⟩
end Go.Proofs.YtlbaiighiaanoaaGreatDoor

/- The contract of Encoder.Write at one field that is a fixed entry. -/
namespace Go.Proofs.YtlbaiighiaanoaaGreatDoor
open Go Go.Proofs Go.RowKit
set_option maxRecDepth 100000
set_option linter.unusedVariables false
set_option linter.unusedSimpArgs false
theorem or128 (n : Nat) (hn : n < 127) : bits .or .u8 128 (n : Int) = ((128 + n : Nat) : Int) := by
  have h : ∀ n < 127, 128 ||| n = 128 + n := by decide +kernel
  rw [show (128 : Int) = ((128 : Nat) : Int) from rfl, (bits_nat .u8 8 (by decide) wraps_u8 128 n (by decide) (by omega)).2, h n hn]
/-- prefix.Put at a small number with nothing ahead of it. -/
theorem prefixPut_nil (w : World) (lab : Nat → Nat) (hf : Fr w.heap lab) (n : Nat) (hn : n < 127) :
    Calls Tryz.prog 117 #[.slice none 0 0, .int .u8 128, .int .i64 7, .int .u64 n] w fun e w' => ∃ A cap, e = .returned (.slice A 1 cap) ∧ Owns w'.heap w.heap.size 5 1 (.slice A 1 cap) 1 [.int .u8 ((128 + n : Nat) : Int)] ∧ Stp 0 0 w lab w' lab := by
  have FULL := Lib.hid fun w' => full_spec 7 w' (by decide) (by decide)
  have hor := or128 n hn
  have han : bits .andNot .u8 128 127 = 128 := by decide
  have hlt : decide ((n : Int) < 127) = true := by simp; omega
  go_enter Tryz.func117, Tryz.ntmps117
  go_wp2_with fail
  refine (FULL.out _).mono ?_
  rintro e w1 ⟨rfl, rfl⟩
  have ho0 : ∀ H : Array Obj, Owns H w.heap.size 5 1 (.slice none 0 0) 0 [] := fun _ => ⟨rfl, .inl ⟨rfl, rfl⟩⟩
  have hmx : 0 + 1 ≤ maxLen := by decide
  have hby : (0 + 1) * 1 ≤ 140737488355328 := by decide
  have hsz : w.heap.size ≤ (w.alloc (.cells #[.int .u8 ((128 + n : Nat) : Int)] 5)).heap.size := by simp
  have hone : ∀ u ∈ (#[Value.int .u8 ((128 + n : Nat) : Int)] : Array Value).toList, u.oneCell' = true := by intro u hu; simp at hu; subst hu; rfl
  go_wp2_with (at_builtin; go_must (refine wp_appOwn rfl _ _ 46 46 rfl E46 (.inr ⟨_, Tryz.underlying46⟩) rfl (ho0 _) rfl (Src.ofBlock Tryz.prog (heap_alloc_new _ _) (m := 1) rfl hone) hmx hby hsz ?_; intro A2 cap2 w3 ho3 hgr3))
  go_ret
  exact ⟨A2, cap2, rfl, ho3, ((Stp.refl 0 0 hf).alloc _).grown hgr3 (row := none) (fun j hj => nomatch hj)⟩
/-- The bytes of one field that is a fixed entry. -/
theorem field_fixed (fixed : List (ByteArray × ByteArray)) (w : World) (lab : Nat → Nat) (hf : Fr w.heap lab) (m p : Nat) (s : Enc) (h : EncAt fixed w.heap lab m p s) (n : Nat) (h1 : 1 ≤ n) (hn : n ≤ fixed.length) (hn2 : n < 127) (hb : fixed.length ≤ 100000) (q : ByteArray × ByteArray) (hq : fixed[n - 1]? = some q) (hsl : s.tab.list.length ≤ 100000)
    (hno : ∀ j, j < n - 1 → ∀ r, fixed[j]? = some r → (r.1.toList == q.1.toList) = false) :
    Calls Tryz.prog 118 #[ptr p, .slice none 0 0, .agg #[.string q.1, .string q.2, .bool false]] w fun e w' => ∃ A cap, e = .returned (.slice A 1 cap) ∧ Owns w'.heap w.heap.size 5 1 (.slice A 1 cap) 1 [.int .u8 ((128 + n : Nat) : Int)] ∧ Stp 0 0 w lab w' lab := by
  obtain ⟨tb, hB, ht⟩ := h
  have c0 := hB.cell 0 (v := ptr tb) rfl
  have st0 := (Stp.refl 0 0 hf).alloc (.cells #[.string q.1, .string q.2, .bool false] 57)
  have hbx := Blk.at_new w lab hf #[.string q.1, .string q.2, .bool false] 57
  have ht1 := ht.kept st0 (by omega) (by omega)
  have FIND := Lib.hid fun (w' : World) (hf' : Fr w'.heap lab) (h' : TabAt fixed w'.heap lab (m + 1) tb s.tab) => find_first fixed w' lab hf' (m + 1) tb s.tab h' n h1 hn hb q hq hsl hno
  obtain ⟨q1, q2⟩ := q
  dsimp only at *
  have d0 := hbx.cell 0 (v := .string q1) rfl
  have d1 := hbx.cell 1 (v := .string q2) rfl
  have d2 := hbx.cell 2 (v := .bool false) rfl
  have e0 := (hB.alloc (.cells #[.string q1, .string q2, .bool false] 57)).cell 0 (v := ptr tb) rfl
  clear hno hq
  go_enter Tryz.func118, Tryz.ntmps118
  go_wp2
  go_region_held3 (fun w' => w'.cell? ⟨p, 0, none⟩ = some (ptr tb) ∧ w'.cell? ⟨w.heap.size, 0, none⟩ = some (.string q1) ∧ w'.cell? ⟨w.heap.size, 1, none⟩ = some (.string q2))
    (first | (refine ⟨s2.cell ?_, s2.cell ?_, s2.cell ?_⟩ <;> (first | assumption | (go_keep; done) | simp)) | go_keep)
    (first | (go_at_call 146; refine (FIND.out _ ?_ ?_).mono ?_; exact st0.fresh; exact ht1; rintro e w2 ⟨rfl, s2⟩))
  all_goals
    have k2 := (hbx.kept s2 (by omega)).cell 2 (v := .bool false) rfl
    go_wp2_with fail
    refine (prefixPut_nil _ lab s2.fresh n hn2).mono ?_
    rintro e w3 ⟨A, cap, rfl, ho, s3⟩
    go_wp2
    go_ret
    refine ⟨A, cap, rfl, ho.down ?_, (st0.trans s2).trans s3⟩
    have := (st0.trans s2).size
    exact this
end Go.Proofs.YtlbaiighiaanoaaGreatDoor

/- The contract of Encoder.Write at one field that is a fixed entry. -/
namespace Go.Proofs.YtlbaiighiaanoaaGreatDoor
open Go Go.Proofs Go.RowKit
set_option maxRecDepth 100000
set_option linter.unusedVariables false
set_option linter.unusedSimpArgs false
theorem Row.fld {w : World} {lab : Nat → Nat} {v : Value} {f : Fld} (h : FldsAt w.heap lab v [f]) :
    ∃ g cap, v = .slice (some ⟨g, 0, none⟩) 1 cap ∧ w.cell? ⟨g, 0, none⟩ = some (.string f.name) ∧ w.cell? ⟨g, 1, none⟩ = some (.string f.value) ∧ w.cell? ⟨g, 2, none⟩ = some (.bool f.never) := by
  have hO : Owns w.heap 0 57 3 v 1 [.string f.name, .string f.value, .bool f.never] := h.1
  rcases hO.2 with ⟨rfl, h0⟩ | ⟨g, cap, cur, rfl, _⟩
  · omega
  · have ha : ∀ j, (⟨g, 0, none⟩ : Addr).add j = ⟨g, j, none⟩ := fun j => by unfold Addr.add; split <;> simp_all
    have at_ : ∀ (k : Nat) (u : Value), [Value.string f.name, .string f.value, .bool f.never][k]? = some u → w.cell? ⟨g, k, none⟩ = some u := fun k u hu => by
      have c := World.ownsRow.cells (Owns.to hO) (g := g) rfl k u hu
      rw [ha] at c
      exact c
    exact ⟨g, cap, rfl, at_ 0 _ rfl, at_ 1 _ rfl, at_ 2 _ rfl⟩
/-- The encoder behind a block. -/
def encW (s : Enc) : Enc := { s with least := 4096, changed := false }
theorem write_one (fixed : List (ByteArray × ByteArray)) (w : World) (lab : Nat → Nat) (hf : Fr w.heap lab) (m p : Nat) (hm : 0 < m) (s : Enc) (h : EncAt fixed w.heap lab m p s) (hch : s.changed = false) (fv : Value) (n : Nat) (h1 : 1 ≤ n) (hn : n ≤ fixed.length) (hn2 : n < 127) (hb : fixed.length ≤ 100000) (q : ByteArray × ByteArray) (hq : fixed[n - 1]? = some q) (hsl : s.tab.list.length ≤ 100000)
    (hno : ∀ j, j < n - 1 → ∀ r, fixed[j]? = some r → (r.1.toList == q.1.toList) = false) (hfv : FldsAt w.heap lab fv [⟨q.1, q.2, false⟩]) :
    Calls Tryz.prog 85 #[ptr p, fv] w fun e w' => e = .returned (.string ⟨#[UInt8.ofNat (128 + n)]⟩) ∧ EncAt fixed w'.heap lab m p (encW s) ∧ Stp m (m + 3) w lab w' lab := by
  have FLD := Lib.hid fun (w' : World) (hf' : Fr w'.heap lab) (h' : EncAt fixed w'.heap lab m p (encW s)) => field_fixed fixed w' lab hf' m p (encW s) h' n h1 hn hn2 hb q hq hsl hno
  obtain ⟨tb, hB, ht⟩ := h
  rw [hch] at hB
  obtain ⟨q1, q2⟩ := q
  dsimp only at *
  have c2 := hB.cell 2 (v := .bool false) rfl
  have c1 := hB.cell 1 (v := .int .i64 s.least) rfl
  have f1 := hB.free 1
  have b1 := hB.store 1 (.int .i64 4096)
  have t1 := hB.storeStp hf 1 (.int .i64 4096)
  have f2 := b1.free 2
  have d2 := b1.cell 2 (v := .bool false) rfl
  have b2 := b1.store 2 (.bool false)
  have t2 := t1.trans (b1.storeStp t1.fresh 2 (.bool false))
  have hE : EncAt fixed ((w.setCell ⟨p, 1, none⟩ (.int .i64 4096)).setCell ⟨p, 2, none⟩ (.bool false)).heap lab m p (encW s) := ⟨tb, b2, ht.kept t2 (by omega) (by omega)⟩
  have hfv2 := FldsAt.kept (l := [⟨q1, q2, false⟩]) hfv t2 (by omega)
  obtain ⟨g, cap, rfl, e0, e1, e2⟩ := Row.fld hfv2
  dsimp only at e0 e1 e2
  clear hno hq hch
  have T2 := Lib.hid t2
  have HE := Lib.hid hE
  clear hE hB b1 b2 t1 t2 hfv hfv2
  have HL : Hid ([Value.int .u8 ((128 + n : Nat) : Int)] = [UInt8.ofNat (128 + n)].map byteV) := Lib.hid (by simp only [List.map_cons, List.map_nil, byteV]; rw [u8_ofNat _ (by omega)])
  generalize UInt8.ofNat (128 + n) = b0 at *
  go_enter Tryz.func85, Tryz.ntmps85
  go_wp2
  go_loopw [5, 7, 45] (fun o _ i wr => (i = .int .i64 0 ∧ o = .slice none 0 0 ∧ wr = (w.setCell ⟨p, 1, none⟩ (.int .i64 4096)).setCell ⟨p, 2, none⟩ (.bool false)) ∨ (i = .int .i64 1 ∧ ∃ A c, o = .slice A 1 c ∧ Owns wr.heap w.heap.size 5 1 (.slice A 1 c) 1 ([b0].map byteV) ∧ EncAt fixed wr.heap lab m p (encW s) ∧ Stp m (m + 3) w lab wr lab)) (fun _ _ i _ => 1 - (intOf i).toNat)
  case atStart => exact .inl ⟨rfl, rfl, rfl⟩
  case round =>
    rcases hrel with ⟨rfl, rfl, rfl⟩ | ⟨rfl, A, c, rfl, ho, hE, st⟩
    · have sx := (Stp.refl 0 0 T2.out.fresh).alloc (w1 := (w.setCell ⟨p, 1, none⟩ (.int .i64 4096)).setCell ⟨p, 2, none⟩ (.bool false)) (.cells #[.string q1, .string q2, .bool false] 57)
      go_wp2_with fail
      refine (FLD.out _ sx.fresh (HE.out.kept sx (by omega) (by omega))).mono ?_
      rintro e w2 ⟨A, c, rfl, ho, s2⟩
      rw [HL.out] at ho
      have ho2 : Owns w2.heap w.heap.size 5 1 (.slice A 1 c) 1 ([b0].map byteV) := ho.down (by simp)
      have hE2 := (HE.out.kept sx (by omega) (by omega)).kept s2 (by omega) (by omega)
      have st2 : Stp m (m + 3) w lab w2 lab := ((T2.out.mono (by omega) (by omega)).trans (sx.any _ _)).trans (s2.any _ _)
      go_wp2
      first
        | (go_roundw
           case rel => exact .inr ⟨by go_num, A, c, rfl, ho2, hE2, st2⟩
           case measure => simp [intOf])
        | exact ⟨.inr ⟨by go_num, A, c, rfl, ho2, hE2, st2⟩, by simp [intOf]⟩
    · go_wp2_with (refine wp_convBS rfl _ _ 9 rfl Tryz.underlying46 Tryz.underlying9 Tryz.underlying5 rfl ho ?_)
      go_ret
      exact ⟨rfl, hE, st⟩
end Go.Proofs.YtlbaiighiaanoaaGreatDoor

/- The contract of Conn.first where a stream may be opened. -/
namespace Go.Proofs.YtlbaiighiaanoaaGreatDoor
open Go Go.Proofs Go.RowKit
set_option maxRecDepth 100000
set_option linter.unusedVariables false
set_option linter.unusedSimpArgs false
theorem Blk.five {w : World} {lab : Nat → Nat} {p l : Nat} {x0 x1 x2 x3 x4 : Value} {t : TypeId} (h : Blk w.heap lab p l #[x0, x1, x2, x3, x4] t) :
    w.cell? ⟨p, 0, none⟩ = some x0 ∧ w.cell? ⟨p, 1, none⟩ = some x1 ∧ w.cell? ⟨p, 2, none⟩ = some x2 ∧ w.cell? ⟨p, 3, none⟩ = some x3 ∧ w.cell? ⟨p, 4, none⟩ = some x4 :=
  ⟨h.cell 0 rfl, h.cell 1 rfl, h.cell 2 rfl, h.cell 3 rfl, h.cell 4 rfl⟩
/-- The states of a new stream. -/
def firstSt (fin : Bool) : Nat := if fin then 3 else 1
/-- The head of a new stream. -/
def firstF (s : CS) (id : Int) (fin : Bool) (fields : List Fld) : CS :=
  tellF { s with opens := put id ⟨firstSt fin, ⟨#[]⟩, false⟩ s.opens, book := { s.book with of := put id s.book.first s.book.of } } ⟨1, id, fields, ⟨#[]⟩, fin, 0⟩
set_option maxHeartbeats 1000000 in
theorem first_ok (w : World) (lab : Nat → Nat) (hf : Fr w.heap lab) (B p : Nat) (hB : 0 < B) (g : CG) (s : CS) (on fin : Bool) (id : Int) (d : ByteArray) (fv : Value) (fields : List Fld) (h : ConnAt fixedT w.heap lab B p g s) (hfv : FldsAt w.heap lab fv fields) (h8 : s.opens.length < 8) (hle : s.events.length ≤ 1099511627776) :
    Calls Tryz.prog 130 #[ptr p, .agg #[.bool on, .int .u32 id, .string d, .bool fin, .int .u32 0], fv] w (PostC w lab B p (firstF s id fin fields) (.tuple #[])) := by
  have hfF : firstF s id fin fields = tellF { s with opens := put id ⟨firstSt fin, ⟨#[]⟩, false⟩ s.opens, book := { s.book with of := put id s.book.first s.book.of } } ⟨1, id, fields, ⟨#[]⟩, fin, 0⟩ := rfl
  obtain ⟨Af, cf, rfl⟩ := hfv.1.shape
  have EIT := Lib.hid fun w' => either_spec fin 2 1 w'
  have NXT : Hid (∀ w', Calls Tryz.prog 54 #[.int .i64 0, .int .i64 (if fin then 2 else 1)] w' (PostV w' (.tuple #[.int .i64 (firstSt fin), .int .i64 0, .int .u32 0]))) := Lib.hid fun w' => by
    cases fin
    · exact next_spec 0 1 w' (by decide) (by decide) (by decide)
    · exact next_spec 0 2 w' (by decide) (by decide) (by decide)
  generalize firstSt fin = sst at *
  generalize (if fin then (2 : Int) else 1) = stp at *
  have st0 := (Stp.refl 0 0 hf).alloc (.cells #[.bool on, .int .u32 id, .string d, .bool fin, .int .u32 0] 97)
  have hbx := Blk.at_new w lab hf #[.bool on, .int .u32 id, .string d, .bool fin, .int .u32 0] 97
  have h1 := h.kept st0 (by omega) (by omega)
  obtain ⟨x0, x1, x2, x3, x4⟩ := hbx.five
  have c11 := h1.blk.cell 11 (v := .map (some g.om)) rfl
  have hmp := h1.parts.opens
  have g8 : decide ((8 : Int) ≤ (s.opens.length : Int)) = false := by simp; omega
  have hfv1 := FldsAt.kept (l := fields) hfv st0 (by omega)
  have HFF := Lib.hid hfF
  clear hfF
  have hlen : (s.opens.map fun p => (p.1, sideV p.2)).length = s.opens.length := by simp
  go_enter Tryz.func130, Tryz.ntmps130
  go_wp2_with (at_len; refine wp_mlen rfl _ _ rfl Tryz.underlying95 rfl hmp ?_)
  refine (EIT.out _).mono ?_
  rintro e w1 ⟨rfl, rfl⟩
  go_wp2_with fail
  refine (NXT.out _).mono ?_
  rintro e w1 ⟨rfl, rfl⟩
  go_wp2
  refine region_tail 8 mixed (by kernel_rfl) ?_
  simp only [List.take_succ_cons, List.take_zero, List.drop_succ_cons, List.drop_zero]
  repeat still_step
  refine wpStill_nil ?_
  refine wp_mput rfl _ _ _ _ rfl Tryz.underlying95 Tryz.underlying30 rfl hmp st0.fresh rfl (val := sideV ⟨sst, ⟨#[]⟩, false⟩) rfl fun w2 h3 s2 => ?_
  rw [mput_map sideV] at h3
  have hb2 := h1.blk.kept s2 (.inl (Nat.lt_add_of_pos_right (by decide)))
  have hx2 := hbx.kept s2 (by omega)
  have hp2 : CParts fixedT w2.heap lab B g { s with opens := put id ⟨sst, ⟨#[]⟩, false⟩ s.opens } := h1.parts.setOpens hB s2 h3
  have c10 := hb2.cell 10 (v := ptr g.bp) (by rfl)
  obtain ⟨y0, y1, y2, y3, y4⟩ := hx2.five
  have OPN := Lib.hid fun (w' : World) (hf' : Fr w'.heap lab) (h' : BookAt w'.heap lab (B + 8) g.bp s.book) => bookOpen_spec w' lab (B + 8) g.bp s.book id h' hf'
  have hfv2 := hfv1.kept s2 (by omega)
  go_wp2
  refine region_tail 6 mixed (by kernel_rfl) ?_
  simp only [List.take_succ_cons, List.take_zero, List.drop_succ_cons, List.drop_zero]
  repeat still_step
  refine wpStill_nil ?_
  go_wp2_with fail
  refine (OPN.out _ ?_ ?_).mono ?_
  exact s2.fresh
  exact hp2.book
  rintro e w3 ⟨rfl, hbk, s3⟩
  have hp3 := hp2.setBook hB s3 hbk
  have hb3 := hb2.kept s3 (.inl (by omega))
  obtain ⟨z0, z1, z2, z3, z4⟩ := (hx2.kept s3 (.inl (by omega))).five
  have hc3 : ConnAt fixedT w3.heap lab B p g { s with opens := put id ⟨sst, ⟨#[]⟩, false⟩ s.opens, book := { s.book with of := put id s.book.first s.book.of } } := ⟨hb3, hp3⟩
  have TEL := Lib.hid (tell_spec w3 lab s3.fresh B p hB g _ ⟨1, id, fields, ⟨#[]⟩, fin, 0⟩ (.slice Af fields.length cf) hc3 (hfv2.kept s3 (by omega)) hle)
  dsimp only [evV] at TEL
  rw [← HFF.out] at TEL
  go_wp2_with fail
  refine TEL.out.mono ?_
  rintro e w4 ⟨g4, lab4, rfl, h4, s4⟩
  go_wp2
  go_end0
  exact ⟨g4, lab4, rfl, h4, ((st0.any _ _).trans (s2.mono (by omega) (by omega))).trans ((s3.mono (by omega) (by omega)).trans s4)⟩
end Go.Proofs.YtlbaiighiaanoaaGreatDoor

/- The contracts of Conn.whole and Conn.headers at a first head that is one index. -/
namespace Go.Proofs.YtlbaiighiaanoaaGreatDoor
open Go Go.Proofs Go.RowKit
set_option maxRecDepth 100000
set_option linter.unusedVariables false
set_option linter.unusedSimpArgs false
theorem ConnAt.blkCells {w : World} {lab : Nat → Nat} {B p : Nat} {g : CG} {s : CS} (h : ConnAt fixedT w.heap lab B p g s) :
    (w.cell? ⟨p, 14, none⟩ = some (.bool s.block.on) ∧ w.cell? ⟨p, 15, none⟩ = some (.int .u32 s.block.stream) ∧ w.cell? ⟨p, 16, none⟩ = some (.string s.block.data) ∧ w.cell? ⟨p, 17, none⟩ = some (.bool s.block.fin) ∧ w.cell? ⟨p, 18, none⟩ = some (.int .u32 s.block.code)) ∧
    (w.frozen? ⟨p, 14, none⟩ = false ∧ w.frozen? ⟨p, 15, none⟩ = false ∧ w.frozen? ⟨p, 16, none⟩ = false ∧ w.frozen? ⟨p, 17, none⟩ = false ∧ w.frozen? ⟨p, 18, none⟩ = false) :=
  ⟨⟨h.blk.cell 14 rfl, h.blk.cell 15 rfl, h.blk.cell 16 rfl, h.blk.cell 17 rfl, h.blk.cell 18 rfl⟩, ⟨h.blk.free 14, h.blk.free 15, h.blk.free 16, h.blk.free 17, h.blk.free 18⟩⟩
theorem cells_block (g : CG) (s : CS) (b : Blck) : (((((connCells g s).setIfInBounds 14 (.bool b.on)).setIfInBounds 15 (.int .u32 b.stream)).setIfInBounds 16 (.string b.data)).setIfInBounds 17 (.bool b.fin)).setIfInBounds 18 (.int .u32 b.code) = connCells g { s with block := b } := by kernel_rfl
/-- A store of a whole block. -/
theorem ConnAt.setBlock {w : World} {lab : Nat → Nat} {B p : Nat} {g : CG} {s : CS} (h : ConnAt fixedT w.heap lab B p g s) (hB : 0 < B) (hf : Fr w.heap lab) (b : Blck) :
    ConnAt fixedT (((((w.setCell ⟨p, 14, none⟩ (.bool b.on)).setCell ⟨p, 15, none⟩ (.int .u32 b.stream)).setCell ⟨p, 16, none⟩ (.string b.data)).setCell ⟨p, 17, none⟩ (.bool b.fin)).setCell ⟨p, 18, none⟩ (.int .u32 b.code)).heap lab B p g { s with block := b } ∧
    Stp B (B + 1) w lab (((((w.setCell ⟨p, 14, none⟩ (.bool b.on)).setCell ⟨p, 15, none⟩ (.int .u32 b.stream)).setCell ⟨p, 16, none⟩ (.string b.data)).setCell ⟨p, 17, none⟩ (.bool b.fin)).setCell ⟨p, 18, none⟩ (.int .u32 b.code)) lab := by
  have b0 := h.blk
  have b1 := b0.store 14 (.bool b.on)
  have t1 := b0.storeStp hf 14 (.bool b.on)
  have b2 := b1.store 15 (.int .u32 b.stream)
  have t2 := t1.trans (b1.storeStp t1.fresh 15 (.int .u32 b.stream))
  have b3 := b2.store 16 (.string b.data)
  have t3 := t2.trans (b2.storeStp t2.fresh 16 (.string b.data))
  have b4 := b3.store 17 (.bool b.fin)
  have t4 := t3.trans (b3.storeStp t3.fresh 17 (.bool b.fin))
  have b5 := b4.store 18 (.int .u32 b.code)
  have t5 := t4.trans (b4.storeStp t4.fresh 18 (.int .u32 b.code))
  rw [cells_block] at b5
  exact ⟨⟨b5, (let q := h.parts.kept t5 (by omega) (by omega); ⟨q.feed, q.dec, q.enc, q.book, q.opens, q.gone, q.out, q.events⟩)⟩, t5⟩
theorem cells_last (g : CG) (s : CS) (n : Int) : (connCells g s).setIfInBounds 13 (.int .u32 n) = connCells g { s with last := n } := by kernel_rfl
/-- A block is whole: the first head of a stream, of one field. -/
def wholeF (s : CS) (q : ByteArray × ByteArray) : CS := firstF { s with block := zeroBlk, last := s.block.stream } s.block.stream s.block.fin [⟨q.1, q.2, false⟩]
set_option maxHeartbeats 1000000 in
theorem whole_one (w : World) (lab : Nat → Nat) (hf : Fr w.heap lab) (B p : Nat) (hB : 0 < B) (g : CG) (s : CS) (id : Nat) (h : ConnAt fixedT w.heap lab B p g s) (hid : s.block.stream = id) (hid2 : id < 4294967296) (hidl : idleF s id = true) (hcode : s.block.code = 0) (h8 : s.opens.length < 8) (hle : s.events.length ≤ 1099511627776)
    (n : Nat) (h1 : 1 ≤ n) (hn : n ≤ fixedT.length) (hn2 : n < 127) (hb : fixedT.length ≤ 100000) (q : ByteArray × ByteArray) (hq : fixedT[n - 1]? = some q) (hsl : s.dec.tab.list.length ≤ 100000) (hs : s.block.data.size = 1) (hby : byteAt s.block.data 0 = 128 + n) (hd : s.dec.down = false) :
    Calls Tryz.prog 95 #[ptr p] w (PostC w lab B p (wholeF s q) (.tuple #[])) := by
  have hwF : wholeF s q = firstF { s with block := zeroBlk, last := s.block.stream } s.block.stream s.block.fin [⟨q.1, q.2, false⟩] := rfl
  obtain ⟨⟨k14, k15, k16, k17, k18⟩, -⟩ := h.blkCells
  rw [hid] at k15 hwF
  rw [hcode] at k18
  have hZ := h.kept ((Stp.refl 0 0 hf).alloc (.cells #[.bool s.block.on, .int .u32 id, .string s.block.data, .bool s.block.fin, .int .u32 0] 97)) (by omega) (by omega)
  have st0 := (Stp.refl 0 0 hf).alloc (.cells #[.bool s.block.on, .int .u32 id, .string s.block.data, .bool s.block.fin, .int .u32 0] 97)
  have hbx := Blk.at_new w lab hf #[.bool s.block.on, .int .u32 id, .string s.block.data, .bool s.block.fin, .int .u32 0] 97
  obtain ⟨⟨m14, m15, m16, m17, m18⟩, f14, f15, f16, f17, f18⟩ := hZ.blkCells
  rw [hid] at m15
  rw [hcode] at m18
  have hne : w.heap.size ≠ p := by have := Blk.lt h.blk; omega
  have hSB := hZ.setBlock hB st0.fresh zeroBlk
  have H2 := Lib.hid hSB.1
  have T2 := Lib.hid hSB.2
  have BX := Lib.hid (hbx.kept hSB.2 (by omega))
  have hSB := 0
  dsimp only [zeroBlk] at H2 T2 BX
  have RD := Lib.hid fun (w' : World) (hf' : Fr w'.heap lab) (h' : DecAt fixedT w'.heap lab (B + 2) g.dp s.dec) => read_one w' lab hf' fixedT 0 (B + 2) g.dp s.block.data s.dec h' hd n h1 hn hn2 hb q hq hsl hs hby
  have IDL : Hid (∀ (w' : World) (h' : ConnAt fixedT w'.heap lab B p g { s with block := zeroBlk }), Calls Tryz.prog 101 #[ptr p, .int .u32 id] w' (PostV w' (.bool true))) := Lib.hid fun w' h' => by
    have := idle_spec w' lab B p g { s with block := zeroBlk } id h' hid2
    rwa [show idleF { s with block := zeroBlk } id = true from hidl] at this
  have H8 := Lib.hid h8
  have HWF := Lib.hid hwF
  clear hwF hs hby hd hq hidl hcode hid h8
  go_enter Tryz.func95, Tryz.ntmps95
  go_wp2
  clear k14 k15 k16 k17 k18 m14 m15 m16 m17 m18 f14 f15 f16 f17 f18 hZ hbx
  generalize ((((((w.alloc (.cells #[.bool s.block.on, .int .u32 id, .string s.block.data, .bool s.block.fin, .int .u32 0] 97)).setCell ⟨p, 14, none⟩ (.bool false)).setCell ⟨p, 15, none⟩ (.int .u32 0)).setCell ⟨p, 16, none⟩ (.string ⟨#[]⟩)).setCell ⟨p, 17, none⟩ (.bool false)).setCell ⟨p, 18, none⟩ (.int .u32 0)) = W5 at H2 T2 BX ⊢
  have h2 := H2.out
  have hx2 := BX.out
  have c2 := h2.blk.cell 2 (v := ptr g.dp) (by rfl)
  obtain ⟨x0, x1, x2, x3, x4⟩ := hx2.five
  go_region_held3 (fun w' => w'.cell? ⟨p, 2, none⟩ = some (ptr g.dp) ∧ w'.cell? ⟨w.heap.size, 2, none⟩ = some (.string s.block.data))
    (first | exact ⟨s3.cell c2, s3.cell x2⟩ | go_keep)
    (first | (go_at_call 129; refine (RD.out _ ?_ ?_).mono ?_; exact T2.out.fresh; exact h2.parts.dec; rintro e w3 ⟨v3, rfl, hfl3, s3⟩))
  all_goals
    have h3 := h2.kept s3 (by omega) (by omega)
    have hx3 := hx2.kept s3 (by omega)
    have hr := lookup_side (id : Int) s.opens true
    obtain ⟨⟨xs, xw, xf⟩, hx⟩ : ∃ x, (s.opens.lookup (id : Int)).getD ⟨0, ⟨#[]⟩, false⟩ = x := ⟨_, rfl⟩
    obtain ⟨xb, hxb⟩ : ∃ b, (s.opens.lookup (id : Int)).isSome = b := ⟨_, rfl⟩
    rw [hx, hxb] at hr
    have hr2 := hr.trans (show _ = Value.tuple #[.agg #[.int .i64 xs, .string xw, .bool xf], .bool xb] from rfl)
    have hrl : ∀ w' : World, Stp 0 0 w3 lab w' lab → (Instr.lookup 95 (.map (some g.om)) (.int .u32 id) true).run Tryz.prog w' = .ok (.tuple #[.agg #[.int .i64 xs, .string xw, .bool xf], .bool xb]) w' := fun w' t => by
      rw [(h3.parts.opens.kept t (by omega)).run_look (P := Tryz.prog) Tryz.underlying95 Tryz.underlying30 (id : Int) zv_side true w' rfl, hr2]
    have c11 := h3.blk.cell 11 (v := .map (some g.om)) (by rfl)
    obtain ⟨u0, u1, u2, u3, u4⟩ := hx3.five
    clear hr hr2 hx hxb
    have K7 : Hid (∀ w' : World, Stp 0 0 w3 lab w' lab → (w'.cell? ⟨p, 11, none⟩ = some (.map (some g.om)) ∧ w'.cell? ⟨w.heap.size, 1, none⟩ = some (.int .u32 id) ∧ (Instr.lookup 95 (.map (some g.om)) (.int .u32 id) true).run Tryz.prog w' = .ok (.tuple #[.agg #[.int .i64 xs, .string xw, .bool xf], .bool xb]) w')) := Lib.hid fun w' t => ⟨t.cell c11, t.cell u1, hrl w' t⟩
    have R3 : Hid (Stp 0 0 w3 lab w3.drew lab) := Lib.hid (Stp.refl 0 0 (R := wrest w3) s3.fresh)
    have R3a : Hid (∀ o, Stp 0 0 w3 lab (w3.alloc o) lab) := Lib.hid fun o => (Stp.refl 0 0 s3.fresh).alloc o
    have R3b : Hid (∀ o, Stp 0 0 w3 lab (w3.alloc o).drew lab) := R3a
    clear hrl
    go_wp2
    go_region_held3 (fun w' => w'.cell? ⟨p, 11, none⟩ = some (.map (some g.om)) ∧ w'.cell? ⟨w.heap.size, 1, none⟩ = some (.int .u32 id) ∧ (Instr.lookup 95 (.map (some g.om)) (.int .u32 id) true).run Tryz.prog w' = .ok (.tuple #[.agg #[.int .i64 xs, .string xw, .bool xf], .bool xb]) w')
      (first | (refine K7.out _ ?_; with_reducible first | exact R3.out | exact R3b.out _ | exact R3a.out _) | go_keep)
      (fail)
    all_goals
      have ku1 : ∀ o, (w3.alloc o).cell? ⟨w.heap.size, 1, none⟩ = some (.int .u32 id) := fun o => (R3a.out o).cell u1
      go_wp2_with fail
      refine (IDL.out _ ?_).mono ?_
      exact h3.kept (R3a.out _) (by omega) (by omega)
      rintro e w4 ⟨rfl, rfl⟩
      have h4 : ∀ o, ConnAt fixedT (w3.alloc o).heap lab B p g { s with block := zeroBlk } := fun o => h3.kept (R3a.out o) (by omega) (by omega)
      have c13 : ∀ o, (w3.alloc o).cell? ⟨p, 13, none⟩ = some (.int .u32 s.last) := fun o => (h4 o).blk.cell 13 rfl
      have f13 : ∀ o, (w3.alloc o).frozen? ⟨p, 13, none⟩ = false := fun o => (h4 o).blk.free 13
      have hx5 : ∀ o, Blk ((w3.alloc o).setCell ⟨p, 13, none⟩ (.int .u32 id)).heap lab w.heap.size 0 #[.bool s.block.on, .int .u32 id, .string s.block.data, .bool s.block.fin, .int .u32 0] 97 := fun o => (hx3.alloc o).other hne _
      have e0 := fun o => (hx5 o).cell 0 (v := .bool s.block.on) rfl
      have e1 := fun o => (hx5 o).cell 1 (v := .int .u32 id) rfl
      have e2 := fun o => (hx5 o).cell 2 (v := .string s.block.data) rfl
      have e3 := fun o => (hx5 o).cell 3 (v := .bool s.block.fin) rfl
      have e4 := fun o => (hx5 o).cell 4 (v := .int .u32 0) rfl
      have H6 : Hid (∀ o, ConnAt fixedT ((w3.alloc o).setCell ⟨p, 13, none⟩ (.int .u32 id)).heap lab B p g { s with block := zeroBlk, last := id } ∧ Stp B (B + 1) w3 lab ((w3.alloc o).setCell ⟨p, 13, none⟩ (.int .u32 id)) lab ∧ FldsAt ((w3.alloc o).setCell ⟨p, 13, none⟩ (.int .u32 id)).heap lab v3 [⟨q.1, q.2, false⟩]) := Lib.hid fun o => by
        have b1 := (h4 o).blk.store 13 (.int .u32 id)
        have t1 := (h4 o).blk.storeStp (R3a.out o).fresh 13 (.int .u32 id)
        rw [cells_last] at b1
        have tt := ((R3a.out o).any B (B + 1)).trans t1
        exact ⟨⟨b1, (let r := (h4 o).parts.kept t1 (by omega) (by omega); ⟨r.feed, r.dec, r.enc, r.book, r.opens, r.gone, r.out, r.events⟩)⟩, tt, hfl3.kept tt (by omega)⟩
      have FST := Lib.hid fun (w' : World) (hf' : Fr w'.heap lab) (h' : ConnAt fixedT w'.heap lab B p g { s with block := zeroBlk, last := id }) (hv' : FldsAt w'.heap lab v3 [⟨q.1, q.2, false⟩]) => first_ok w' lab hf' B p hB g _ s.block.on s.block.fin id s.block.data v3 _ h' hv' H8.out hle
      rw [← HWF.out] at FST
      go_wp2_with fail
      refine (FST.out _ ?_ ?_ ?_).mono ?_
      exact (H6.out _).2.1.fresh
      exact (H6.out _).1
      exact (H6.out _).2.2
      rintro e w7 ⟨g7, lab7, rfl, h7, s7⟩
      go_wp2
      go_end0
      exact ⟨g7, lab7, rfl, h7, (((st0.any _ _).trans (T2.out.mono (by omega) (by omega))).trans ((s3.any _ _).trans ((H6.out _).2.1.mono (by omega) (by omega)))).trans s7⟩
end Go.Proofs.YtlbaiighiaanoaaGreatDoor

/- The contract of Conn.headers at a first head that is one index, and Conn.right at it. -/
namespace Go.Proofs.YtlbaiighiaanoaaGreatDoor
open Go Go.Proofs Go.RowKit
set_option maxRecDepth 100000
set_option linter.unusedVariables false
set_option linter.unusedSimpArgs false
theorem flag4 (n : Nat) (h : n < 256) : bits .and .u8 (n : Int) 4 = if flg n 2 then 4 else 0 := bit8 n 2 (by decide) h
/-- A head begins and is whole. -/
def headersF (s : CS) (f : Frm) (q : ByteArray × ByteArray) : CS := wholeF { s with block := ⟨true, f.stream, contentF f, flg f.flags 0, 0⟩ } q
set_option maxHeartbeats 1000000 in
theorem headers_one (w : World) (lab : Nat → Nat) (hf : Fr w.heap lab) (B p : Nat) (hB : 0 < B) (g : CG) (s : CS) (f : Frm) (id : Nat) (h : ConnAt fixedT w.heap lab B p g s) (ok : f.Ok) (hid : f.stream = id) (hodd : id % 2 = 1) (hcl : s.client = false) (hend : flg f.flags 2 = true) (hidl : idleF s id = true) (h8 : s.opens.length < 8) (hle : s.events.length ≤ 1099511627776)
    (n : Nat) (h1 : 1 ≤ n) (hn : n ≤ fixedT.length) (hn2 : n < 127) (hb : fixedT.length ≤ 100000) (q : ByteArray × ByteArray) (hq : fixedT[n - 1]? = some q) (hsl : s.dec.tab.list.length ≤ 100000) (hs : (contentF f).size = 1) (hby : byteAt (contentF f) 0 = 128 + n) (hd : s.dec.down = false) :
    Calls Tryz.prog 103 #[ptr p, frmV f, .int .u32 0] w (PostC w lab B p (headersF s f q) (.tuple #[])) := by
  have hid2 : id < 4294967296 := by have := ok.st1; omega
  have CON := fun (w' : World) (hf' : Fr w'.heap lab) => content_spec f w' lab hf' ok
  have WH := Lib.hid fun (w' : World) (hf' : Fr w'.heap lab) (h' : ConnAt fixedT w'.heap lab B p g { s with block := ⟨true, f.stream, contentF f, flg f.flags 0, 0⟩ }) => whole_one w' lab hf' B p hB g _ id h' hid hid2 hidl rfl h8 hle n h1 hn hn2 hb q hq hsl hs hby hd
  have hfl := ok.fl
  have HHF : Hid (headersF s f q = wholeF { s with block := ⟨true, f.stream, contentF f, flg f.flags 0, 0⟩ } q) := Lib.hid rfl
  rw [← HHF.out] at WH
  clear hs hby hq
  generalize contentF f = cf at *
  obtain ⟨ty, fl, st, d⟩ := f
  dsimp only at hid hfl hend
  subst hid
  dsimp only [frmV] at *
  have hbx := Blk.at_new w lab hf #[.int .u8 ty, .int .u8 fl, .int .u32 id, .string d] 32
  have st0 := (Stp.refl 0 0 hf).alloc (.cells #[.int .u8 ty, .int .u8 fl, .int .u32 id, .string d] 32)
  have hc1 := h.kept st0 (by omega) (by omega)
  obtain ⟨c0, c1, c2, c3⟩ := hbx.cells4
  have b0 := and1 fl hfl
  have b4 := flag4 fl hfl
  rw [hend] at b4
  simp only [if_true] at b4
  have hm := and1_u32 id hid2
  rw [hodd] at hm
  have d0 := hc1.blk.cell 0 (v := .bool s.client) (by rfl)
  rw [hcl] at d0
  have CON := Lib.hid CON
  have hne : w.heap.size ≠ p := by have := Blk.lt h.blk; omega
  clear hodd hcl hend hidl
  have HHF := 0
  generalize headersF s { type := ty, flags := fl, stream := id, data := d } q = sF at *
  obtain ⟨fin, hfin⟩ : ∃ b, flg fl 0 = b := ⟨_, rfl⟩
  rw [hfin] at b0 WH
  clear hfin
  cases fin
  · simp only [if_true, if_false, Bool.false_eq_true] at b0
    go_enter Tryz.func103, Tryz.ntmps103
    go_wp2_with fail
    go_region_held3 (fun w' => w'.cell? ⟨w.heap.size, 0, none⟩ = some (.int .u8 ty) ∧ w'.cell? ⟨w.heap.size, 1, none⟩ = some (.int .u8 fl) ∧ w'.cell? ⟨w.heap.size, 2, none⟩ = some (.int .u32 id) ∧ w'.cell? ⟨w.heap.size, 3, none⟩ = some (.string d))
      (first | (with_reducible exact ⟨y0, y1, y2, y3⟩) | (with_reducible exact ⟨z0, z1, z2, z3⟩) | go_keep)
      (first | (go_at_call 134; refine (CON.out _ ?_).mono ?_; exact st0.fresh; rintro e w2 ⟨rfl, s2⟩; have h2 := hc1.kept s2 (by omega) (by omega); have hx2 := hbx.kept s2 (by omega); obtain ⟨⟨m14, m15, m16, m17, m18⟩, f14, f15, f16, f17, f18⟩ := h2.blkCells; obtain ⟨y0, y1, y2, y3⟩ := hx2.cells4; have SB := Lib.hid (h2.setBlock hB s2.fresh ⟨true, id, cf, false, 0⟩); have hx3 := hx2.kept SB.out.2 (by omega); obtain ⟨z0, z1, z2, z3⟩ := hx3.cells4; clear hx3))
    all_goals
      go_wp2_with fail
      refine (WH.out _ ?_ ?_).mono ?_
      exact SB.out.2.fresh
      exact SB.out.1
      rintro e w7 ⟨g7, lab7, rfl, h7, s7⟩
      go_wp2
      go_end0
      exact ⟨g7, lab7, rfl, h7, (((st0.any _ _).trans (s2.any _ _)).trans (SB.out.2.mono (by omega) (by omega))).trans s7⟩
  · simp only [if_true, if_false, Bool.false_eq_true] at b0
    go_enter Tryz.func103, Tryz.ntmps103
    go_wp2_with fail
    go_region_held3 (fun w' => w'.cell? ⟨w.heap.size, 0, none⟩ = some (.int .u8 ty) ∧ w'.cell? ⟨w.heap.size, 1, none⟩ = some (.int .u8 fl) ∧ w'.cell? ⟨w.heap.size, 2, none⟩ = some (.int .u32 id) ∧ w'.cell? ⟨w.heap.size, 3, none⟩ = some (.string d))
      (first | (with_reducible exact ⟨y0, y1, y2, y3⟩) | (with_reducible exact ⟨z0, z1, z2, z3⟩) | go_keep)
      (first | (go_at_call 134; refine (CON.out _ ?_).mono ?_; exact st0.fresh; rintro e w2 ⟨rfl, s2⟩; have h2 := hc1.kept s2 (by omega) (by omega); have hx2 := hbx.kept s2 (by omega); obtain ⟨⟨m14, m15, m16, m17, m18⟩, f14, f15, f16, f17, f18⟩ := h2.blkCells; obtain ⟨y0, y1, y2, y3⟩ := hx2.cells4; have SB := Lib.hid (h2.setBlock hB s2.fresh ⟨true, id, cf, true, 0⟩); have hx3 := hx2.kept SB.out.2 (by omega); obtain ⟨z0, z1, z2, z3⟩ := hx3.cells4; clear hx3))
    all_goals
      go_wp2_with fail
      refine (WH.out _ ?_ ?_).mono ?_
      exact SB.out.2.fresh
      exact SB.out.1
      rintro e w7 ⟨g7, lab7, rfl, h7, s7⟩
      go_wp2
      go_end0
      exact ⟨g7, lab7, rfl, h7, (((st0.any _ _).trans (s2.any _ _)).trans (SB.out.2.mono (by omega) (by omega))).trans s7⟩
end Go.Proofs.YtlbaiighiaanoaaGreatDoor
