/- Contracts and plain laws for Pings, part 13; no conditions but those that each theorem states. -/
import Derived.Test.YtlbaiighiaanoaaGreatDoorK12
import Derived.Test.YtlbaiighiaanoaaGreatDoorK6
import Derived.Deep.RegionHeld3
/- The contract of 'awake'. -/
namespace Go.Proofs.YtlbaiighiaanoaaGreatDoor
open Go Go.Proofs Go.RowKit
set_option maxRecDepth 100000
set_option linter.unusedVariables false
set_option linter.unusedSimpArgs false
/-- A step over labels that no old block bears turns nothing. -/
theorem StpH.none {a b : Nat} {H H1 : Array Obj} {R R1 : Rest} {lab lab1 : Nat → Nat} (h : StpH a b H R lab H1 R1 lab1) (hk : ∀ k, k < H.size → lab k < a) : StpH 0 0 H R lab H1 R1 lab1 :=
  ⟨h.rest, h.size, h.labs, fun k hk' _ => h.block k hk' (fun ⟨x, _⟩ => by have := hk k hk'; omega), h.fresh⟩
abbrev out0 : ByteArray := ⟨#[0, 0, 6, 4, 0, 0, 0, 0, 0, 0, 3, 0, 0, 0, 8]⟩
abbrev out1 : ByteArray := ⟨#[0, 0, 0, 4, 1, 0, 0, 0, 0]⟩
abbrev out2 : ByteArray := ⟨#[0, 0, 1, 1, 5, 0, 0, 0, 1, 136]⟩
abbrev helloB : ByteArray := ⟨#[80, 82, 73, 32, 42, 32, 72, 84, 84, 80, 47, 50, 46, 48, 13, 10, 13, 10, 83, 77, 13, 10, 13, 10, 0, 0, 0, 4, 0, 0, 0, 0, 0, 0, 0, 1, 1, 5, 0, 0, 0, 1, 130]⟩
theorem out0_eq : (⟨(newO false).toArray⟩ : ByteArray) = out0 := by decide +kernel
theorem out1_eq : (⟨(frmBytes fAck).toArray⟩ : ByteArray) = out1 := by decide +kernel
theorem hello_eq : helloB = bs (prefaceB.data.toList ++ [fSet, fGet true].flatMap frmBytes) := by decide +kernel
/-- Behind a first head whose event was told. -/
def stE (fin : Bool) (o : List UInt8) : CS := { stG fin o with events := [] }
theorem EvsAt.one {H : Array Obj} {lab : Nat → Nat} {m : Nat} {v : Value} {e : Ev} (h : EvsAt H lab m v [e]) : ∃ fv g cap, v = .slice (some ⟨g, 0, none⟩) 1 cap ∧ Owns H 0 45 6 (.slice (some ⟨g, 0, none⟩) 1 cap) 1 (evCells e fv) ∧ lab g = m := by
  obtain ⟨fvs, q1, q2, _⟩ := h
  obtain ⟨fv, rfl⟩ : ∃ fv, fvs = [fv] := by
    match fvs, q1 with
    | [fv], _ => exact ⟨fv, rfl⟩
  have hO : Owns H 0 45 6 v 1 (evCells e fv) := q2.1
  have hlv := q2.2
  rcases hO.2 with ⟨rfl, h0⟩ | ⟨g, cap, cur, rfl, _⟩
  · omega
  · exact ⟨fv, g, cap, rfl, hO, hlv g rfl⟩
theorem evCells_at {w w' : World} {lab lab' : Nat → Nat} {a b : Nat} {e : Ev} {fv : Value} {g cap : Nat} (h : Owns w.heap 0 45 6 (.slice (some ⟨g, 0, none⟩) 1 cap) 1 (evCells e fv)) (s : Stp a b w lab w' lab') (hl : ¬ (a ≤ lab g ∧ lab g < b)) :
    w'.cell? ⟨g, 0, none⟩ = some (.int .i64 e.kind) ∧ w'.cell? ⟨g, 1, none⟩ = some (.int .u32 e.stream) ∧ w'.cell? ⟨g, 2, none⟩ = some fv ∧ w'.cell? ⟨g, 3, none⟩ = some (.string e.data) ∧ w'.cell? ⟨g, 4, none⟩ = some (.bool e.fin) ∧ w'.cell? ⟨g, 5, none⟩ = some (.int .u32 e.code) := by
  have ha : ∀ j, (⟨g, 0, none⟩ : Addr).add j = ⟨g, j, none⟩ := fun j => by unfold Addr.add; split <;> simp_all
  have at_ : ∀ (k : Nat) (u : Value), (evCells e fv)[k]? = some u → w'.cell? ⟨g, k, none⟩ = some u := fun k u hu => by
    have c := World.ownsRow.cells (Owns.to h) (g := g) rfl k u hu
    rw [ha] at c
    exact s.cellAt hl c
  exact ⟨at_ 0 _ rfl, at_ 1 _ rfl, at_ 2 _ rfl, at_ 3 _ rfl, at_ 4 _ rfl, at_ 5 _ rfl⟩
/-- Behind the answer. -/
def stH : CS := putF (headCF (stE true []) 1 true 8) 1 ⟨4, ⟨#[]⟩, false⟩
theorem out2_eq : (⟨stH.out.toArray⟩ : ByteArray) = out2 := by decide +kernel
theorem fld_new (w : World) (lab : Nat → Nat) (hf : Fr w.heap lab) (a b : ByteArray) : FldsAt (w.alloc (.cells #[.string a, .string b, .bool false] 57)).heap lab (.slice (some ⟨w.heap.size, 0, none⟩) 1 1) [⟨a, b, false⟩] := by
  refine ⟨⟨rfl, .inr ⟨w.heap.size, 1, #[.string a, .string b, .bool false], rfl, Nat.zero_le _, heap_alloc_new w _, Nat.le_refl _, by decide, rfl, rfl⟩⟩, fun k hk => ?_⟩
  simp [Value.ownBlock] at hk
  subst hk
  exact hf _ (Nat.le_refl _)
set_option maxHeartbeats 2000000 in
theorem awake_spec (w : World) (lab : Nat → Nat) (hf : Fr w.heap lab) (h0 : lab 0 = 0) (hg : Glob w.heap) :
    Calls Tryz.prog 11 #[] w fun e w' => e = .returned (.bool true) ∧ ∃ lab', Stp 0 0 w lab w' lab' := by
  obtain ⟨B, hB, hBk⟩ := fresh_label lab 0 w.heap.size
  have NEW := Lib.hid (new_spec w lab hf B hB h0 hg false)
  rw [newF_eq] at NEW
  go_enter Tryz.func11, Tryz.ntmps11
  go_wp2_with fail
  refine NEW.out.mono ?_
  rintro e w1 ⟨p, g1, lab1, rfl, h1, s1⟩
  go_wp2_with fail
  have OUT := out_spec w1 lab1 s1.fresh B p hB g1 _ h1
  rw [show (⟨({ conn0 false with out := newO false } : CS).out.toArray⟩ : ByteArray) = out0 from out0_eq] at OUT
  refine OUT.mono ?_
  clear OUT
  rintro e w2 ⟨g2, lab2, rfl, h2, s2⟩
  go_wp2_with fail
  have TK := take_run w2 lab2 s2.fresh B p hB g2 _ (stG true (frmBytes fAck)) helloB [fSet, fGet true] ⟨bs [], false, false⟩ h2 rfl (by decide) (by decide) (by rw [hello_eq]; exact add_pre [fSet, fGet true] (by intro f hf; simp at hf; rcases hf with rfl | rfl; exact fSet_fits; exact fGet_fits true)) (run_set B p hB false [] (by decide) (run_get B p hB true _ (by decide) (.nil _)))
  refine TK.mono ?_
  clear TK
  rintro e w3 ⟨g3, lab3, v, rfl, hev, h3, s3⟩
  replace h3 : ConnAt fixedT w3.heap lab3 B p g3 (stE true (frmBytes fAck)) := h3
  obtain ⟨fv, gg, cap, rfl, hO, hlv⟩ := EvsAt.one (e := ⟨1, 1, [⟨qGet.1, qGet.2, false⟩], ⟨#[]⟩, true, 0⟩) hev
  clear hev
  go_wp2_with fail
  have OUT := out_fine w3 lab3 s3.fresh B p hB g3 _ h3
  rw [show (⟨(stE true (frmBytes fAck)).out.toArray⟩ : ByteArray) = out1 from out1_eq] at OUT
  refine OUT.mono ?_
  clear OUT
  rintro e w4 ⟨g4, rfl, h4, s4⟩
  replace h4 : ConnAt fixedT w4.heap lab3 B p g4 (stE true []) := h4
  obtain ⟨e0, e1, e2, e3, e4, e5⟩ := evCells_at hO s4 (by rw [hlv]; omega)
  dsimp only at e0 e4
  have OPN := Lib.hid (open_one w4 lab3 s4.fresh B p g4 _ h4 (by decide) (by decide))
  go_wp2_with fail
  refine OPN.out.mono ?_
  rintro e w5 ⟨A5, cap5, rfl, ho5, s5⟩
  have hl5 : (idsF (stE true []).opens).length = 1 := rfl
  rw [hl5]
  clear hl5 ho5
  have h5 := h4.kept s5 (by omega) (by omega)
  go_wp2_with fail
  have h6 := h5.alloc (.cells #[.string q200.1, .string q200.2, .bool false] 57) s5.fresh
  have s6 := (Stp.refl 0 0 s5.fresh).alloc (w1 := w5) (.cells #[.string q200.1, .string q200.2, .bool false] 57)
  have hfv : FldsAt (w5.alloc (.cells #[.string q200.1, .string q200.2, .bool false] 57)).heap lab3 (.slice (some ⟨w5.heap.size, 0, none⟩) 1 1) [⟨q200.1, q200.2, false⟩] :=
    fld_new w5 lab3 s5.fresh q200.1 q200.2
  refine (Head_one _ lab3 s6.fresh B p hB g4 _ 1 true 3 4 h6 rfl (by decide) (by decide) (by decide) (by decide) rfl (by show (1 : Int) ≤ 16384; decide) (by show (0 : Nat) ≤ _; exact Nat.zero_le _) _ 8 (by decide) (by rw [fixedT_len]; decide) (by decide) (by rw [fixedT_len]; decide) q200 fixed_200 (by decide) (by show (0 : Nat) ≤ _; exact Nat.zero_le _) fixed_no hfv).mono ?_
  rintro e w7 ⟨g7, lab7, rfl, h7, s7⟩
  replace h7 : ConnAt fixedT w7.heap lab7 B p g7 stH := h7
  go_wp2_with fail
  have OUT := out_fine w7 lab7 s7.fresh B p hB g7 _ h7
  rw [show (⟨stH.out.toArray⟩ : ByteArray) = out2 from out2_eq] at OUT
  refine OUT.mono ?_
  clear OUT
  rintro e w8 ⟨g8, rfl, h8, s8⟩
  have OPN := Lib.hid (open_one w8 lab7 s8.fresh B p g8 _ h8 (by decide) (by decide))
  go_wp2_with fail
  refine OPN.out.mono ?_
  rintro e w9 ⟨A9, cap9, rfl, ho9, s9⟩
  have hl9 : (idsF ({ stH with out := [] } : CS).opens).length = 0 := rfl
  rw [hl9]
  clear hl9 ho9
  go_wp2
  go_ret
  have sA : Stp B (B + 16) w lab w9 lab7 := (((s1.trans s2).trans (s3.trans (s4.mono (by omega) (by omega)))).trans (((s5.any _ _).trans (s6.any _ _)).trans (s7.trans (s8.mono (by omega) (by omega))))).trans (s9.any _ _)
  exact ⟨rfl, lab7, sA.none hBk⟩
end Go.Proofs.YtlbaiighiaanoaaGreatDoor

/- The contracts of nuncioref01.Put and nuncioref14.Print. -/
namespace Go.Proofs.YtlbaiighiaanoaaGreatDoor
open Go Go.Proofs Go.RowKit
set_option maxRecDepth 100000
set_option linter.unusedVariables false
set_option linter.unusedSimpArgs false
theorem byte_new (w : World) (N : Nat) : Owns (w.alloc (.cells #[.int .u8 ((N : Int) % 256)] 5)).heap 0 5 1 (.slice (some ⟨w.heap.size, 0, none⟩) 1 1) 1 ([UInt8.ofNat N].map fun c => Value.int .u8 c.toNat) := by
  refine ⟨rfl, .inr ⟨w.heap.size, 1, #[.int .u8 ((N : Int) % 256)], rfl, Nat.zero_le _, heap_alloc_new w _, Nat.le_refl _, by decide, rfl, ?_⟩⟩
  have : ((UInt8.ofNat N).toNat : Int) = (N : Int) % 256 := by simp
  simp [this]
theorem refPut_spec (s : ByteArray) (n size : Nat) (w : World) (lab : Nat → Nat) (hf : Fr w.heap lab) (hn : n < 18446744073709551616) (h8 : size ≤ 8) (hs : s.size ≤ 140737488355328) :
    Calls Tryz.prog 46 #[.string s, .int .u64 n, .int .i64 size] w (PostS w lab (.string (s ++ bs (beBytes size n)))) := by
  go_enter Tryz.func46, Tryz.ntmps46
  go_wp2
  go_loopw [1, 7, 8] (fun nn t i wr => ∃ k : Nat, k ≤ size ∧ i = .int .i64 k ∧ nn = .int .u64 ((n / 256 ^ k : Nat) : Int) ∧ t = .string (bs (beBytes k n)) ∧ Stp 0 0 w lab wr lab) (fun _ _ i _ => size - (intOf i).toNat)
  case atStart => exact ⟨0, by omega, rfl, by simp, rfl, Stp.refl 0 0 hf⟩
  case round =>
    obtain ⟨k, hk, rfl, rfl, rfl, st⟩ := hrel
    have hnk : n / 256 ^ k < 18446744073709551616 := Nat.lt_of_le_of_lt (Nat.div_le_self _ _) hn
    have hsz : (bs (beBytes k n)).size = k := by rw [bs_size, beBytes_length]
    generalize hT : bs (beBytes k n) = T at *
    generalize hN : n / 256 ^ k = N at *
    have HT := Lib.hid hT
    have HN := Lib.hid hN
    clear hT hN
    by_cases hlt : k < size
    · have g1 : decide (k < size) = true := by simpa using hlt
      have g2 : decide ((k : Int) < 8) = true := by simp; omega
      have hob := byte_new wr N
      generalize hc : UInt8.ofNat N = c at *
      have HC := Lib.hid hc
      clear hc
      have hsum : (bs [c]).size + T.size ≤ 9223372036854775807 := by rw [bs_size, hsz]; simp; omega
      go_wp2_with (refine wp_convBS rfl _ _ 9 rfl Tryz.underlying46 Tryz.underlying9 Tryz.underlying5 rfl hob ?_)
      go_roundw
      case rel =>
        refine ⟨k + 1, by omega, by go_num, ?_, ?_, st.alloc _⟩
        · rw [← HN.out, Nat.pow_succ, ← Nat.div_div_eq_div_mul]
          simp
        · rw [← HT.out, ← HC.out, ← HN.out, beBytes]
          show Value.string (bs [_] ++ bs _) = _
          rw [bs_append]
          rfl
      case measure => simp [intOf]; omega
    · have g1 : decide (k < size) = false := by simpa using hlt
      obtain rfl : k = size := by omega
      go_wp2
      go_ret
      exact ⟨by rw [HT.out]; rfl, st⟩
theorem conv_two {w : World} {b : Nat} {ty fl : Nat} (h1 : ty < 256) (h2 : fl < 256) (h : w.heap[b]? = some (.cells #[.int .u8 ty, .int .u8 fl] 5 (0, 0))) :
    (convert 46 9 (.slice (some ⟨b, 0, none⟩) 2 2)).run Tryz.prog w = .ok (.string (bs [UInt8.ofNat ty, UInt8.ofNat fl])) w := by
  have ho : Owns w.heap 0 5 1 (.slice (some ⟨b, 0, none⟩) 2 2) 2 ([UInt8.ofNat ty, UInt8.ofNat fl].map fun c => Value.int .u8 c.toNat) := by
    refine ⟨rfl, .inr ⟨b, 2, #[.int .u8 ty, .int .u8 fl], rfl, Nat.zero_le _, h, Nat.le_refl _, by decide, rfl, ?_⟩⟩
    simp only [List.map_cons, List.map_nil]
    rw [u8_ofNat _ h1, u8_ofNat _ h2]
    rfl
  exact run_convBS Tryz.underlying46 Tryz.underlying9 Tryz.underlying5 ho
set_option maxHeartbeats 1000000 in
theorem refPrint_spec (f : Frm) (w : World) (lab : Nat → Nat) (hf : Fr w.heap lab) (ok : f.Fits) :
    Calls Tryz.prog 15 #[frmV f] w (PostS w lab (.tuple #[.string (bs (frmBytes f)), .int .i64 0])) := by
  obtain ⟨ty, fl, st, d⟩ := f
  obtain ⟨h1, h2, h3, h4, h5⟩ := ok
  dsimp only [frmV] at *
  obtain ⟨sn, rfl⟩ := Int.eq_ofNat_of_zero_le h3
  have hbx := Blk.at_new w lab hf #[.int .u8 ty, .int .u8 fl, .int .u32 sn, .string d] 32
  have st0 := (Stp.refl 0 0 hf).alloc (.cells #[.int .u8 ty, .int .u8 fl, .int .u32 sn, .string d] 32)
  obtain ⟨c0, c1, c2, c3⟩ := hbx.cells4
  have g1 : decide ((2147483647 : Int) < (sn : Int)) = false := by simp; omega
  have g2 : decide ((16384 : Int) < (d.size : Int)) = false := by simp; omega
  have hw1 : IntKind.u64.wrap (d.size : Int) = d.size := wraps_u64 _ (by omega) (by omega)
  have hw2 : IntKind.u64.wrap (sn : Int) = sn := wraps_u64 _ (by omega) (by omega)
  have P3 : Hid (∀ (w' : World), Fr w'.heap lab → Calls Tryz.prog 46 #[.string ⟨#[]⟩, .int .u64 d.size, .int .i64 3] w' (PostS w' lab (.string (bs (beBytes 3 d.size))))) := Lib.hid fun w' hf' => by
    have := refPut_spec ⟨#[]⟩ d.size 3 w' lab hf' (by omega) (by decide) (by decide)
    rwa [show (⟨#[]⟩ : ByteArray) ++ bs (beBytes 3 d.size) = bs (beBytes 3 d.size) from bs_append [] _] at this
  have KA : Hid (∀ w' : World, Stp 0 0 (w.alloc (.cells #[.int .u8 ty, .int .u8 fl, .int .u32 sn, .string d] 32)) lab w' lab → (w'.cell? ⟨w.heap.size, 0, none⟩ = some (.int .u8 ty) ∧ w'.cell? ⟨w.heap.size, 1, none⟩ = some (.int .u8 fl) ∧ w'.cell? ⟨w.heap.size, 2, none⟩ = some (.int .u32 sn) ∧ w'.cell? ⟨w.heap.size, 3, none⟩ = some (.string d))) :=
    Lib.hid fun w' t => ⟨t.cell c0, t.cell c1, t.cell c2, t.cell c3⟩
  have R0 : Hid (Stp 0 0 (w.alloc (.cells #[.int .u8 ty, .int .u8 fl, .int .u32 sn, .string d] 32)) lab (w.alloc (.cells #[.int .u8 ty, .int .u8 fl, .int .u32 sn, .string d] 32)) lab) := Lib.hid (Stp.refl 0 0 (R := wrest (w.alloc (.cells #[.int .u8 ty, .int .u8 fl, .int .u32 sn, .string d] 32))) st0.fresh)
  have R0d : Hid (Stp 0 0 (w.alloc (.cells #[.int .u8 ty, .int .u8 fl, .int .u32 sn, .string d] 32)) lab (w.alloc (.cells #[.int .u8 ty, .int .u8 fl, .int .u32 sn, .string d] 32)).drew lab) := R0
  have R0a : Hid (Stp 0 0 (w.alloc (.cells #[.int .u8 ty, .int .u8 fl, .int .u32 sn, .string d] 32)) lab ((w.alloc (.cells #[.int .u8 ty, .int .u8 fl, .int .u32 sn, .string d] 32)).alloc (.cells #[.int .u8 ty, .int .u8 fl] 5)).drew lab) := Lib.hid (R0.out.alloc (w1 := (w.alloc (.cells #[.int .u8 ty, .int .u8 fl, .int .u32 sn, .string d] 32))) _)
  have CV : Hid (∀ W : World, (convert 46 9 (.slice (some ⟨W.heap.size, 0, none⟩) 2 2)).run Tryz.prog (W.alloc (.cells #[.int .u8 ty, .int .u8 fl] 5)) = .ok (.string (bs [UInt8.ofNat ty, UInt8.ofNat fl])) (W.alloc (.cells #[.int .u8 ty, .int .u8 fl] 5))) := Lib.hid fun W => conv_two h1 h2 (heap_alloc_new _ _)
  go_enter Tryz.func15, Tryz.ntmps15
  go_wp2
  have cv1 := CV.out
  have cv3 : (convert 46 9 (.slice (some ⟨w.heap.size + 1, 0, none⟩) 2 2)).run Tryz.prog ((w.alloc (.cells #[.int .u8 ty, .int .u8 fl, .int .u32 sn, .string d] 32)).alloc (.cells #[.int .u8 ty, .int .u8 fl] 5)).drew = .ok (.string (bs [UInt8.ofNat ty, UInt8.ofNat fl])) ((w.alloc (.cells #[.int .u8 ty, .int .u8 fl, .int .u32 sn, .string d] 32)).alloc (.cells #[.int .u8 ty, .int .u8 fl] 5)).drew := conv_two h1 h2 (heap_new_at (w := (w.alloc (.cells #[.int .u8 ty, .int .u8 fl, .int .u32 sn, .string d] 32))) (by simp))
  go_cut [4] (fun v4 wx => v4 = .string (bs (beBytes 3 d.size ++ [UInt8.ofNat ty, UInt8.ofNat fl])) ∧ Stp 0 0 (w.alloc (.cells #[.int .u8 ty, .int .u8 fl, .int .u32 sn, .string d] 32)) lab wx lab)
  case first =>
    refine wp_region_noPanic ?_
    refine wp_region_held_drew (S := fun w' => w'.cell? ⟨w.heap.size, 0, none⟩ = some (.int .u8 ty) ∧ w'.cell? ⟨w.heap.size, 1, none⟩ = some (.int .u8 fl) ∧ w'.cell? ⟨w.heap.size, 2, none⟩ = some (.int .u32 sn) ∧ w'.cell? ⟨w.heap.size, 3, none⟩ = some (.string d)) (by kernel_rfl) ?_ (fun hHeld => ?_)
    · exact KA.out _ R0d.out
    refine wpAnyH_take (i := 0) (v := ?_) rfl (by kernel_rfl) (by kernel_rfl) (by kernel_rfl) (fun _ _ _ h => h) (Or.inl ⟨by rfl, ?_⟩) (by assumption) ?_
    rotate_left
    · (intro w hSw; (try dsimp only at hSw); go_simp; try with_reducible rfl)
    try simp only [Act.put, List.setIfInBounds_toArray, List.set_cons_zero, List.set_cons_succ]
    refine wpAnyH_take (i := 1) (v := ?_) rfl (by kernel_rfl) (by kernel_rfl) (by kernel_rfl) (fun _ _ _ h => h) (Or.inl ⟨by rfl, ?_⟩) (by assumption) ?_
    rotate_left
    · (intro w hSw; (try dsimp only at hSw); go_simp; try with_reducible rfl)
    try simp only [Act.put, List.setIfInBounds_toArray, List.set_cons_zero, List.set_cons_succ]
    refine wpAnyH_take (i := 2) (v := ?_) rfl (by kernel_rfl) (by kernel_rfl) (by kernel_rfl) (fun _ _ _ h => h) (Or.inl ⟨by rfl, ?_⟩) (by assumption) ?_
    rotate_left
    · (intro w hSw; (try dsimp only at hSw); go_simp; try with_reducible rfl)
    try simp only [Act.put, List.setIfInBounds_toArray, List.set_cons_zero, List.set_cons_succ]
    refine wpAnyH_take (i := 3) (v := ?_) rfl (by kernel_rfl) (by kernel_rfl) (by kernel_rfl) (fun _ _ _ h => h) (Or.inl ⟨by rfl, ?_⟩) (by assumption) ?_
    rotate_left
    · (intro w hSw; (try dsimp only at hSw); go_simp; try with_reducible rfl)
    try simp only [Act.put, List.setIfInBounds_toArray, List.set_cons_zero, List.set_cons_succ]
    refine wpAnyH_take (i := 5) (v := ?_) rfl (by kernel_rfl) (by kernel_rfl) (by kernel_rfl) (fun _ _ _ h => h) (Or.inl ⟨by rfl, ?_⟩) (by assumption) ?_
    rotate_left
    · (intro w hSw; (try dsimp only at hSw); go_simp; try with_reducible rfl)
    try simp only [Act.put, List.setIfInBounds_toArray, List.set_cons_zero, List.set_cons_succ]
    refine wpAnyH_take (i := 6) (v := ?_) rfl (by kernel_rfl) (by kernel_rfl) (by kernel_rfl) (fun _ _ _ h => h) (Or.inl ⟨by rfl, ?_⟩) (by assumption) ?_
    rotate_left
    · (intro w hSw; (try dsimp only at hSw); go_simp; try with_reducible rfl)
    try simp only [Act.put, List.setIfInBounds_toArray, List.set_cons_zero, List.set_cons_succ]
    refine wpAnyH_take (i := 7) (v := ?_) rfl (by kernel_rfl) (by kernel_rfl) (by kernel_rfl) (fun _ _ _ h => h) (Or.inl ⟨by rfl, ?_⟩) (by assumption) ?_
    rotate_left
    · (intro w hSw; (try dsimp only at hSw); go_simp; try with_reducible rfl)
    try simp only [Act.put, List.setIfInBounds_toArray, List.set_cons_zero, List.set_cons_succ]
    refine wpAnyH_take (i := 8) (v := ?_) rfl (by kernel_rfl) (by kernel_rfl) (by kernel_rfl) (fun _ _ _ h => h) (Or.inl ⟨by rfl, ?_⟩) (by assumption) ?_
    rotate_left
    · (intro w hSw; (try dsimp only at hSw); go_simp; try with_reducible rfl)
    try simp only [Act.put, List.setIfInBounds_toArray, List.set_cons_zero, List.set_cons_succ]
    refine wpAnyH_ready (rs := [4, 9]) (by kernel_rfl) (by simp) ?_
    refine AllReadyH.cons rfl (fun K hK => ?_) ?_
    · (go_simp)
      (with_reducible refine (P3.out (w.alloc (.cells #[.int .u8 ty, .int .u8 fl, .int .u32 sn, .string d] 32)).drew R0d.out.fresh).mono ?_); rintro e w1 ⟨rfl, s1⟩; have sA : Stp 0 0 (w.alloc (.cells #[.int .u8 ty, .int .u8 fl, .int .u32 sn, .string d] 32)) lab w1 lab := s1; clear s1; go_wp2_with fail
      refine hK.out _ _ ?_ (fun hHeld => ?_)
      · (try dsimp only)
        (refine KA.out _ ?_; with_reducible first | exact R0d.out | exact R0a.out | exact sA | exact sA.alloc _)
      clear hK K
      try simp only [Act.put, List.setIfInBounds_toArray, List.set_cons_zero, List.set_cons_succ]
      refine wpAnyH_ready (rs := [9]) (by kernel_rfl) (by simp) ?_
      refine AllReadyH.cons rfl (fun K hK => ?_) ?_
      · (go_simp)
        refine hK.out _ _ ?_ (fun hHeld => ?_)
        · (try dsimp only)
          (refine KA.out _ ?_; with_reducible first | exact R0d.out | exact R0a.out | exact sA | exact sA.alloc _)
        clear hK K
        try simp only [Act.put, List.setIfInBounds_toArray, List.set_cons_zero, List.set_cons_succ]
        refine wpAnyH_ready (rs := [10]) (by kernel_rfl) (by simp) ?_
        refine AllReadyH.cons rfl (fun K hK => ?_) ?_
        · (go_simp)
          refine hK.out _ _ ?_ (fun hHeld => ?_)
          · (try dsimp only)
            (refine KA.out _ ?_; with_reducible first | exact R0d.out | exact R0a.out | exact sA | exact sA.alloc _)
          clear hK K
          try simp only [Act.put, List.setIfInBounds_toArray, List.set_cons_zero, List.set_cons_succ]
          refine wpAnyH_ready (rs := [11]) (by kernel_rfl) (by simp) ?_
          refine AllReadyH.cons rfl (fun K hK => ?_) ?_
          · (go_simp)
            refine hK.out _ _ ?_ (fun hHeld => ?_)
            · (try dsimp only)
              (refine KA.out _ ?_; with_reducible first | exact R0d.out | exact R0a.out | exact sA | exact sA.alloc _)
            clear hK K
            try simp only [Act.put, List.setIfInBounds_toArray, List.set_cons_zero, List.set_cons_succ]
            refine wpAnyH_ready (rs := [12]) (by kernel_rfl) (by simp) ?_
            refine AllReadyH.cons rfl (fun K hK => ?_) ?_
            · (go_simp)
              refine hK.out _ _ ?_ (fun hHeld => ?_)
              · (try dsimp only)
                (refine KA.out _ ?_; with_reducible first | exact R0d.out | exact R0a.out | exact sA | exact sA.alloc _)
              clear hK K
              try simp only [Act.put, List.setIfInBounds_toArray, List.set_cons_zero, List.set_cons_succ]
              refine wpAnyH_done (by kernel_rfl) ?_ _
              refine NoPanic.normal ?_
              go_wp2
              go_meet
              refine ⟨by rw [bs_append], ?_⟩
              with_reducible first | exact sA | exact sA.alloc _
            exact AllReadyH.nil
          exact AllReadyH.nil
        exact AllReadyH.nil
      exact AllReadyH.nil
    refine AllReadyH.cons rfl (fun K hK => ?_) ?_
    · (go_simp)
      refine hK.out _ _ ?_ (fun hHeld => ?_)
      · (try dsimp only)
        (refine KA.out _ ?_; with_reducible first | exact R0d.out | exact R0a.out | exact sA | exact sA.alloc _)
      clear hK K
      try simp only [Act.put, List.setIfInBounds_toArray, List.set_cons_zero, List.set_cons_succ]
      refine wpAnyH_ready (rs := [4, 10]) (by kernel_rfl) (by simp) ?_
      refine AllReadyH.cons rfl (fun K hK => ?_) ?_
      · (go_simp)
        (with_reducible refine (P3.out ((w.alloc (.cells #[.int .u8 ty, .int .u8 fl, .int .u32 sn, .string d] 32)).alloc (.cells #[.int .u8 ty, .int .u8 fl] 5)).drew R0a.out.fresh).mono ?_); rintro e w1 ⟨rfl, s1⟩; have sA : Stp 0 0 (w.alloc (.cells #[.int .u8 ty, .int .u8 fl, .int .u32 sn, .string d] 32)) lab w1 lab := R0a.out.trans s1; have cv2 := conv_two (b := w.heap.size + 1) h1 h2 ((s1.block (w.heap.size + 1) (by simp) (by omega)).trans (heap_new_at (by simp))); clear s1; go_wp2_with fail
        refine hK.out _ _ ?_ (fun hHeld => ?_)
        · (try dsimp only)
          (refine KA.out _ ?_; with_reducible first | exact R0d.out | exact R0a.out | exact sA | exact sA.alloc _)
        clear hK K
        try simp only [Act.put, List.setIfInBounds_toArray, List.set_cons_zero, List.set_cons_succ]
        refine wpAnyH_ready (rs := [10]) (by kernel_rfl) (by simp) ?_
        refine AllReadyH.cons rfl (fun K hK => ?_) ?_
        · (go_simp)
          refine hK.out _ _ ?_ (fun hHeld => ?_)
          · (try dsimp only)
            (refine KA.out _ ?_; with_reducible first | exact R0d.out | exact R0a.out | exact sA | exact sA.alloc _)
          clear hK K
          try simp only [Act.put, List.setIfInBounds_toArray, List.set_cons_zero, List.set_cons_succ]
          refine wpAnyH_ready (rs := [11]) (by kernel_rfl) (by simp) ?_
          refine AllReadyH.cons rfl (fun K hK => ?_) ?_
          · (go_simp)
            refine hK.out _ _ ?_ (fun hHeld => ?_)
            · (try dsimp only)
              (refine KA.out _ ?_; with_reducible first | exact R0d.out | exact R0a.out | exact sA | exact sA.alloc _)
            clear hK K
            try simp only [Act.put, List.setIfInBounds_toArray, List.set_cons_zero, List.set_cons_succ]
            refine wpAnyH_ready (rs := [12]) (by kernel_rfl) (by simp) ?_
            refine AllReadyH.cons rfl (fun K hK => ?_) ?_
            · (go_simp)
              refine hK.out _ _ ?_ (fun hHeld => ?_)
              · (try dsimp only)
                (refine KA.out _ ?_; with_reducible first | exact R0d.out | exact R0a.out | exact sA | exact sA.alloc _)
              clear hK K
              try simp only [Act.put, List.setIfInBounds_toArray, List.set_cons_zero, List.set_cons_succ]
              refine wpAnyH_done (by kernel_rfl) ?_ _
              refine NoPanic.normal ?_
              go_wp2
              go_meet
              refine ⟨by rw [bs_append], ?_⟩
              with_reducible first | exact sA | exact sA.alloc _
            exact AllReadyH.nil
          exact AllReadyH.nil
        exact AllReadyH.nil
      refine AllReadyH.cons rfl (fun K hK => ?_) ?_
      · (go_simp)
        refine hK.out _ _ ?_ (fun hHeld => ?_)
        · (try dsimp only)
          (refine KA.out _ ?_; with_reducible first | exact R0d.out | exact R0a.out | exact sA | exact sA.alloc _)
        clear hK K
        try simp only [Act.put, List.setIfInBounds_toArray, List.set_cons_zero, List.set_cons_succ]
        refine wpAnyH_ready (rs := [4]) (by kernel_rfl) (by simp) ?_
        refine AllReadyH.cons rfl (fun K hK => ?_) ?_
        · (go_simp)
          (with_reducible refine (P3.out ((w.alloc (.cells #[.int .u8 ty, .int .u8 fl, .int .u32 sn, .string d] 32)).alloc (.cells #[.int .u8 ty, .int .u8 fl] 5)).drew R0a.out.fresh).mono ?_); rintro e w1 ⟨rfl, s1⟩; have sA : Stp 0 0 (w.alloc (.cells #[.int .u8 ty, .int .u8 fl, .int .u32 sn, .string d] 32)) lab w1 lab := R0a.out.trans s1; have cv2 := conv_two (b := w.heap.size + 1) h1 h2 ((s1.block (w.heap.size + 1) (by simp) (by omega)).trans (heap_new_at (by simp))); clear s1; go_wp2_with fail
          refine hK.out _ _ ?_ (fun hHeld => ?_)
          · (try dsimp only)
            (refine KA.out _ ?_; with_reducible first | exact R0d.out | exact R0a.out | exact sA | exact sA.alloc _)
          clear hK K
          try simp only [Act.put, List.setIfInBounds_toArray, List.set_cons_zero, List.set_cons_succ]
          refine wpAnyH_ready (rs := [11]) (by kernel_rfl) (by simp) ?_
          refine AllReadyH.cons rfl (fun K hK => ?_) ?_
          · (go_simp)
            refine hK.out _ _ ?_ (fun hHeld => ?_)
            · (try dsimp only)
              (refine KA.out _ ?_; with_reducible first | exact R0d.out | exact R0a.out | exact sA | exact sA.alloc _)
            clear hK K
            try simp only [Act.put, List.setIfInBounds_toArray, List.set_cons_zero, List.set_cons_succ]
            refine wpAnyH_ready (rs := [12]) (by kernel_rfl) (by simp) ?_
            refine AllReadyH.cons rfl (fun K hK => ?_) ?_
            · (go_simp)
              refine hK.out _ _ ?_ (fun hHeld => ?_)
              · (try dsimp only)
                (refine KA.out _ ?_; with_reducible first | exact R0d.out | exact R0a.out | exact sA | exact sA.alloc _)
              clear hK K
              try simp only [Act.put, List.setIfInBounds_toArray, List.set_cons_zero, List.set_cons_succ]
              refine wpAnyH_done (by kernel_rfl) ?_ _
              refine NoPanic.normal ?_
              go_wp2
              go_meet
              refine ⟨by rw [bs_append], ?_⟩
              with_reducible first | exact sA | exact sA.alloc _
            exact AllReadyH.nil
          exact AllReadyH.nil
        exact AllReadyH.nil
      exact AllReadyH.nil
    exact AllReadyH.nil
  case rest =>
    obtain ⟨rfl, sA⟩ := hcut
    clear cv1 cv3 CV R0 R0d R0a P3
    obtain ⟨e0, e1, e2, e3⟩ := (hbx.kept sA (by omega)).cells4
    have hfb : frmBytes ⟨ty, fl, sn, d⟩ = (beBytes 3 d.size ++ [UInt8.ofNat ty, UInt8.ofNat fl]) ++ beBytes 4 sn ++ d.data.toList := rfl
    have P4 := fun (w' : World) (hf' : Fr w'.heap lab) => refPut_spec (bs (beBytes 3 d.size ++ [UInt8.ofNat ty, UInt8.ofNat fl])) sn 4 w' lab hf' (by omega) (by decide) (by rw [bs_size]; simp [beBytes_length])
    rw [bs_append] at P4
    generalize beBytes 3 d.size ++ [UInt8.ofNat ty, UInt8.ofNat fl] = L1 at *
    have hsz : (bs (L1 ++ beBytes 4 sn)).size + d.size ≤ 9223372036854775807 := by
      have := frmBytes_len ⟨ty, fl, sn, d⟩
      rw [hfb] at this
      rw [bs_size]
      rw [List.length_append] at this
      have h6 : d.data.toList.length = d.size := by simp
      dsimp only at this
      omega
    have hfin : bs (L1 ++ beBytes 4 sn) ++ d = bs (frmBytes ⟨ty, fl, sn, d⟩) := by
      rw [hfb, ← bs_append _ d.data.toList, bs_self]
    generalize bs (L1 ++ beBytes 4 sn) = S2 at *
    have hgt : ¬ 9223372036854775807 < S2.size + d.size := by omega
    have HFIN := Lib.hid hfin
    have P4 : Hid (∀ (w' : World) (hf' : Fr w'.heap lab), Calls Tryz.prog 46 #[.string (bs L1), .int .u64 sn, .int .i64 4] w' (PostS w' lab (.string S2))) := Lib.hid P4
    clear hfin hfb
    go_wp2
    go_region_held3 (fun w' => w'.cell? ⟨w.heap.size, 0, none⟩ = some (.int .u8 ty) ∧ w'.cell? ⟨w.heap.size, 1, none⟩ = some (.int .u8 fl) ∧ w'.cell? ⟨w.heap.size, 2, none⟩ = some (.int .u32 sn) ∧ w'.cell? ⟨w.heap.size, 3, none⟩ = some (.string d))
      (first
        | (refine KA.out _ ?_; with_reducible first | exact sA | exact sB)
        | go_keep)
      (first
        | (go_at_call 46; refine (P4.out _ ?_).mono ?_; exact sA.fresh; rintro e w2 ⟨rfl, s2⟩; have sB := sA.trans s2; clear s2))
    all_goals
      go_wp2
      go_ret2
      exact ⟨by rw [← HFIN.out]; rfl, st0.trans sB⟩
end Go.Proofs.YtlbaiighiaanoaaGreatDoor

/- The plain law of ConnPings. -/
namespace Go.Proofs.YtlbaiighiaanoaaGreatDoor
open Go Go.Proofs Go.RowKit
set_option maxRecDepth 100000
set_option linter.unusedVariables false
set_option linter.unusedSimpArgs false
def pF (a : Bool) (d : ByteArray) : Frm := ⟨6, if a then 1 else 0, 0, d⟩
def uF (i : Nat) (d : ByteArray) : Frm := ⟨200, i, 0, d⟩
def aF (d : ByteArray) : Frm := ⟨6, 1, 0, d⟩
/-- The frames of pings, from the i-th on. -/
def prs (a : Nat → Bool) : Nat → List ByteArray → List Frm
  | _, [] => []
  | i, d :: ds => pF (a i) d :: uF i d :: prs a (i + 1) ds
/-- What is answered. -/
def wnt (a : Nat → Bool) : Nat → List ByteArray → List UInt8
  | _, [] => []
  | i, d :: ds => (if a i then [] else frmBytes (aF d)) ++ wnt a (i + 1) ds
theorem prs_snoc (a : Nat → Bool) (d : ByteArray) : ∀ (i : Nat) (ds : List ByteArray), prs a i (ds ++ [d]) = prs a i ds ++ [pF (a (i + ds.length)) d, uF (i + ds.length) d]
  | i, [] => rfl
  | i, e :: ds => by
    show pF (a i) e :: uF i e :: prs a (i + 1) (ds ++ [d]) = _
    rw [prs_snoc a d (i + 1) ds, List.length_cons, show i + 1 + ds.length = i + (ds.length + 1) by omega]
    rfl
theorem wnt_snoc (a : Nat → Bool) (d : ByteArray) : ∀ (i : Nat) (ds : List ByteArray), wnt a i (ds ++ [d]) = wnt a i ds ++ (if a (i + ds.length) then [] else frmBytes (aF d))
  | i, [] => by simp [wnt]
  | i, e :: ds => by
    show (if a i then [] else frmBytes (aF e)) ++ wnt a (i + 1) (ds ++ [d]) = _
    rw [wnt_snoc a d (i + 1) ds, List.length_cons, show i + 1 + ds.length = i + (ds.length + 1) by omega, ← List.append_assoc]
    rfl
theorem pF_fits (a : Bool) (d : ByteArray) (h : d.size = 8) : (pF a d).Fits := ⟨by show 6 < 256; decide, by cases a; (show 0 < 256; decide); (show 1 < 256; decide), by show (0 : Int) ≤ 0; decide, by show (0 : Int) ≤ 2147483647; decide, by show d.size ≤ 16384; omega⟩
theorem uF_fits (i : Nat) (d : ByteArray) (h : d.size = 8) (hi : i < 256) : (uF i d).Fits := ⟨by show 200 < 256; decide, hi, by show (0 : Int) ≤ 0; decide, by show (0 : Int) ≤ 2147483647; decide, by show d.size ≤ 16384; omega⟩
theorem aF_fits (d : ByteArray) (h : d.size = 8) : (aF d).Fits := ⟨by show 6 < 256; decide, by show 1 < 256; decide, by show (0 : Int) ≤ 0; decide, by show (0 : Int) ≤ 2147483647; decide, by show d.size ≤ 16384; omega⟩
theorem prs_fits (a : Nat → Bool) : ∀ (i : Nat) (ds : List ByteArray), (∀ d ∈ ds, d.size = 8) → i + ds.length ≤ 256 → ∀ f ∈ prs a i ds, f.Fits
  | _, [], _, _ => by intro f hf; simp [prs] at hf
  | i, d :: ds, h, hi => by
    intro f hf
    rw [List.length_cons] at hi
    rcases List.mem_cons.1 hf with rfl | hf
    · exact pF_fits _ d (h d (List.mem_cons_self ..))
    · rcases List.mem_cons.1 hf with rfl | hf
      · exact uF_fits i d (h d (List.mem_cons_self ..)) (by omega)
      · exact prs_fits a (i + 1) ds (fun e he => h e (List.mem_cons_of_mem _ he)) (by omega) f hf
theorem pF_ok (a : Bool) (d : ByteArray) (h : d.size = 8) : (pF a d).Ok := ⟨by show 6 < 256; decide, by cases a; (show 0 < 256; decide); (show 1 < 256; decide), by show (0 : Int) ≤ 0; decide, by show (0 : Int) < 4294967296; decide, by show d.size ≤ 9223372036854775807; omega⟩
theorem uF_ok (i : Nat) (d : ByteArray) (h : d.size = 8) (hi : i < 256) : (uF i d).Ok := ⟨by show 200 < 256; decide, hi, by show (0 : Int) ≤ 0; decide, by show (0 : Int) < 4294967296; decide, by show d.size ≤ 9223372036854775807; omega⟩
theorem pF_wrong (a : Bool) (d : ByteArray) (h : d.size = 8) : wrongF (pF a d) = (0, 0) := by
  cases a <;> simp [wrongF, placeF, sizeF, pF, h]
theorem uF_wrong (i : Nat) (d : ByteArray) : wrongF (uF i d) = (0, 0) := by
  simp [wrongF, placeF, sizeF, uF]
theorem run_pings (B p : Nat) (hB : 0 < B) (c : Bool) (a : Nat → Bool) : ∀ (ds : List ByteArray) (i : Nat) (o : List UInt8), (∀ d ∈ ds, d.size = 8) → i + ds.length ≤ 256 → o.length + 17 * ds.length ≤ 70368744177664 →
    Run B p (prs a i ds) (stS c o) (stS c (o ++ wnt a i ds))
  | [], i, o, _, _, _ => by
    rw [show o ++ wnt a i [] = o by simp [wnt]]
    exact .nil _
  | d :: ds, i, o, h, hi, ho => by
    have hd := h d (List.mem_cons_self ..)
    rw [List.length_cons] at hi ho
    have h1 : StepOk B p (pF (a i) d) (stS c o) (stS c (o ++ if a i then [] else frmBytes (aF d))) := by
      have := step_ping (B := B) (p := p) (s := stS c o) (f := pF (a i) d) hB (pF_ok _ d hd) (pF_wrong _ d hd) rfl rfl (by cases c <;> rfl) (by show d.size ≤ 16384; omega) (by show o.length ≤ _; omega)
      have e : pongF { stS c o with begun := true } (pF (a i) d) = stS c (o ++ if a i then [] else frmBytes (aF d)) := by
        unfold pongF
        cases a i
        · rw [show flg (pF false d).flags 0 = false from (by show flg 0 0 = false; decide)]; rfl
        · rw [show flg (pF true d).flags 0 = true from (by show flg 1 0 = true; decide), show (o ++ if true = true then [] else frmBytes (aF d)) = o by simp]; rfl
      rw [e] at this
      exact this
    have hlen : (if a i then [] else frmBytes (aF d)).length ≤ 17 := by
      split
      · simp
      · rw [frmBytes_len]; show 9 + d.size ≤ 17; omega
    have h2 : StepOk B p (uF i d) (stS c (o ++ if a i then [] else frmBytes (aF d))) (stS c (o ++ if a i then [] else frmBytes (aF d))) :=
      step_pass (B := B) (p := p) (s := stS c (o ++ if a i then [] else frmBytes (aF d))) (f := uF i d) hB (uF_ok i d hd (by omega)) (uF_wrong i d) (by show 10 ≤ 200; decide) rfl (by cases c <;> rfl)
    have h3 := run_pings B p hB c a ds (i + 1) (o ++ if a i then [] else frmBytes (aF d)) (fun e he => h e (List.mem_cons_of_mem _ he)) (by omega) (by rw [List.length_append]; omega)
    have e : o ++ wnt a i (d :: ds) = (o ++ if a i then [] else frmBytes (aF d)) ++ wnt a (i + 1) ds := by rw [List.append_assoc]; rfl
    rw [e]
    exact .step (by cases c <;> rfl) h1 (.step (by cases c <;> rfl) h2 h3)
theorem prs_flat (a : Nat → Bool) : ∀ (i : Nat) (ds : List ByteArray), (∀ d ∈ ds, d.size = 8) → ((prs a i ds).flatMap frmBytes).length = 34 * ds.length
  | _, [], _ => rfl
  | i, d :: ds, h => by
    have hd := h d (List.mem_cons_self ..)
    show ((pF (a i) d :: uF i d :: prs a (i + 1) ds).flatMap frmBytes).length = _
    rw [List.flatMap_cons, List.flatMap_cons, List.length_append, List.length_append, frmBytes_len, frmBytes_len, prs_flat a (i + 1) ds (fun e he => h e (List.mem_cons_of_mem _ he)), List.length_cons]
    show 9 + d.size + (9 + d.size + _) = _
    omega
theorem wnt_len (a : Nat → Bool) : ∀ (i : Nat) (ds : List ByteArray), (∀ d ∈ ds, d.size = 8) → (wnt a i ds).length ≤ 17 * ds.length
  | _, [], _ => Nat.le_refl _
  | i, d :: ds, h => by
    have hd := h d (List.mem_cons_self ..)
    have := wnt_len a (i + 1) ds (fun e he => h e (List.mem_cons_of_mem _ he))
    show ((if a i then [] else frmBytes (aF d)) ++ wnt a (i + 1) ds).length ≤ _
    rw [List.length_append, List.length_cons]
    have h2 : (if a i then [] else frmBytes (aF d)).length ≤ 17 := by
      split
      · simp
      · rw [frmBytes_len]; show 9 + d.size ≤ 17; omega
    omega
end Go.Proofs.YtlbaiighiaanoaaGreatDoor
