/- Contracts and plain laws for Pings, part 14; no conditions but those that each theorem states. -/
import Derived.Test.YtlbaiighiaanoaaGreatDoorK13
import Derived.Test.YtlbaiighiaanoaaGreatDoorTie
import Derived.Test.YtlbaiighiaanoaaGreatDoorCards
import Derived.ProofKit
import Derived.OpenShut
import Derived.LaidMore
import Derived.Lay
import Derived.SevenTiedAt
import Derived.Stop.Joined
import Derived.HandedShaped
import Derived.Deep.Grids
import Derived.SliceStrings
import Derived.Shelf.Vars
import Derived.Carry
/- The walk of ConnPings. -/
namespace Go.Proofs.YtlbaiighiaanoaaGreatDoor
open Go Go.Proofs Go.RowKit
set_option maxRecDepth 100000
set_option linter.unusedVariables false
set_option linter.unusedSimpArgs false
theorem bs_nil (Y : ByteArray) : Y ++ bs [] = Y := by
  apply ByteArray.ext
  simp [bs]
theorem EvsAt.none {H : Array Obj} {lab : Nat → Nat} {m : Nat} {v : Value} (h : EvsAt H lab m v []) : ∃ A c, v = .slice A 0 c := by
  obtain ⟨fvs, _, q2, _⟩ := h
  exact q2.1.shape
/-- A slice of strings that came in. -/
def StrsAt (w : World) (A : Option Addr) (ss : List ByteArray) : Prop := ∀ i s, ss[i]? = some s → ∃ b off, A = some ⟨b, off, none⟩ ∧ b < w.heap.size ∧ w.cell? ⟨b, off + i, none⟩ = some (.string s)
def BoolsAt (w : World) (A : Option Addr) (n : Nat) (a : Nat → Bool) : Prop := ∀ i, i < n → ∃ b off, A = some ⟨b, off, none⟩ ∧ b < w.heap.size ∧ w.cell? ⟨b, off + i, none⟩ = some (.bool (a i))
/-- What a side hears first. -/
def helloC (c : Bool) : ByteArray := if c then ⟨#[0, 0, 0, 4, 0, 0, 0, 0, 0]⟩ else prefaceB ++ ⟨#[0, 0, 0, 4, 0, 0, 0, 0, 0]⟩
theorem helloC_true : helloC true = bs ([fSet].flatMap frmBytes) := by decide +kernel
theorem helloC_false : helloC false = bs (prefaceB.data.toList ++ [fSet].flatMap frmBytes) := by decide +kernel
theorem hello_take (w : World) (lab : Nat → Nat) (hf : Fr w.heap lab) (B p : Nat) (hB : 0 < B) (g : CG) (c : Bool) (h : ConnAt fixedT w.heap lab B p g { conn0 c with out := newO c }) :
    Calls Tryz.prog 13 #[ptr p, .string (helloC c)] w (PostTake w lab B p (stS c (newO c ++ frmBytes fAck))) := by
  have hfit : ∀ f ∈ [fSet], f.Fits := by intro f hf; simp at hf; subst hf; exact fSet_fits
  cases c
  · exact take_run w lab hf B p hB g _ _ (helloC false) [fSet] ⟨bs [], false, false⟩ h rfl (by decide) (by decide) (by rw [helloC_false]; exact add_pre [fSet] hfit) (run_set B p hB false (newO false) (by decide) (.nil _))
  · exact take_run w lab hf B p hB g _ _ (helloC true) [fSet] ⟨bs [], false, false⟩ h rfl (by decide) (by decide) (by rw [helloC_true]; exact add_plain [fSet] hfit) (run_set B p hB true (newO true) (by decide) (.nil _))
/-- Does a ping answer? -/
def aa (n2 : Nat) (ak : Nat → Bool) (i : Nat) : Bool := decide (i < n2) && ak i
set_option maxHeartbeats 2000000 in
theorem pings_walk (w : World) (hg : Glob w.heap) (c : Bool) (A1 A2 : Option Addr) (c1 c2 n2 : Nat) (ds : List ByteArray) (ak : Nat → Bool) (h1 : StrsAt w A1 ds) (h2 : BoolsAt w A2 n2 ak) (hm2 : n2 ≤ maxLen) (hm1 : ds.length ≤ maxLen) (hdm : ∀ d ∈ ds, d.size ≤ maxLen) :
    Calls Tryz.prog 3 #[.bool c, .slice A1 ds.length c1, .slice A2 n2 c2] w fun e w' => e = .returned (.bool true) ∧ ∃ lab', Stp 0 0 w (fun _ => 0) w' lab' := by
  unfold maxLen at hm1 hm2 hdm
  have AW := Lib.hid (awake_spec w (fun _ => 0) (fun _ _ => rfl) rfl hg)
  obtain ⟨N, hN⟩ : ∃ N, ds.length = N := ⟨_, rfl⟩
  have H1 := Lib.hid h1
  have H2 := Lib.hid h2
  have HDM := Lib.hid hdm
  clear h1 h2 hdm
  rw [hN] at hm1
  rw [hN]
  by_cases h100 : 100 < N
  · have g1 : decide ((100 : Int) < (N : Int)) = true := by simp; omega
    clear hN
    go_enter Tryz.func3, Tryz.ntmps3
    go_wp2_with fail
    refine AW.out.mono ?_
    rintro e w1 ⟨rfl, lab1, s1⟩
    go_wp2
    go_ret
    exact ⟨rfl, lab1, s1⟩
  · have g1 : decide ((100 : Int) < (N : Int)) = false := by simp; omega
    have HN := Lib.hid hN
    clear hN
    obtain ⟨c0, hc0⟩ : ∃ c0, c0 = c := ⟨c, rfl⟩
    have NEWC : Hid (∀ (w' : World) (lab' : Nat → Nat) (hf' : Fr w'.heap lab') (B : Nat) (hB : 0 < B) (h0 : lab' 0 = 0) (hg' : Glob w'.heap), Calls Tryz.prog 12 #[.bool c] w' (PostConnNew w' lab' B { conn0 c0 with out := newO c0 })) := Lib.hid fun w' lab' hf' B hB h0 hg' => by
      subst hc0
      have := new_spec w' lab' hf' B hB h0 hg' c0
      rwa [newF_eq] at this
    have TAKE1 : Hid (∀ (w' : World) (lab' : Nat → Nat) (hf' : Fr w'.heap lab') (B p : Nat) (hB : 0 < B) (g : CG) (h' : ConnAt fixedT w'.heap lab' B p g { conn0 c0 with out := newO c0 }), Calls Tryz.prog 13 #[ptr p, .string (helloC c)] w' (PostTake w' lab' B p (stS c0 (newO c0 ++ frmBytes fAck)))) := Lib.hid fun w' lab' hf' B p hB g h' => by
      subst hc0
      exact hello_take w' lab' hf' B p hB g _ h'
    clear hc0
    cases c
    all_goals
      go_enter Tryz.func3, Tryz.ntmps3
      go_wp2_with fail
      refine AW.out.mono ?_
      rintro e w1 ⟨rfl, lab1, s1⟩
      go_wp2_with fail
      obtain ⟨B, hB, hBk⟩ := fresh_label lab1 0 w1.heap.size
      have h0 : lab1 0 = 0 := s1.labs 0 (by obtain ⟨cs, t, fz, m, hh, _⟩ := hg; exact (Array.getElem?_eq_some_iff.1 hh).1)
      refine (NEWC.out w1 lab1 s1.fresh B hB h0 (hg.kept rfl s1 (by omega))).mono ?_
      rintro e w2 ⟨p, g2, lab2, rfl, h2, s2⟩
      go_wp2_with fail
      refine (TAKE1.out w2 lab2 s2.fresh B p hB g2 h2).mono ?_
      rintro e w3 ⟨g3, lab3, v3, rfl, -, h3, s3⟩
      go_wp2_with fail
      refine (out_fine w3 lab3 s3.fresh B p hB g3 _ h3).mono ?_
      rintro e w4 ⟨g4, rfl, h4, s4⟩
      replace h4 : ConnAt fixedT w4.heap lab3 B p g4 (stS c0 []) := h4
      have sA : Stp B (B + 16) w1 lab1 w4 lab3 := (s2.trans s3).trans (s4.mono (by omega) (by omega))
      have sAll := s1.trans (sA.none hBk)
      have SA := Lib.hid sA
      have HBK := Lib.hid hBk
      have S1 := Lib.hid s1
      clear h2 h3 s2 s3 s4 h0 hBk sA
      go_wp2
      clear NEWC TAKE1 AW s1
      go_loopw [8, 9, 10, 11, 12, 13, 14, 15, 16, 17] (fun v8 v9 i _ _ _ _ _ _ _ wr => ∃ k : Nat, k ≤ N ∧ Hid (∀ d ∈ ds.take k, d.size = 8) ∧ i = .int .i64 k ∧ v8 = .string (bs ((prs (aa n2 ak) 0 (ds.take k)).flatMap frmBytes)) ∧ v9 = .string (bs (wnt (aa n2 ak) 0 (ds.take k))) ∧ Stp 0 0 w4 lab3 wr lab3) (fun _ _ i _ _ _ _ _ _ _ _ => N - (intOf i).toNat)
      case atStart => exact ⟨0, by omega, Lib.hid (by simp), rfl, rfl, rfl, Stp.refl 0 0 sAll.fresh⟩
      case round =>
        obtain ⟨k, hk, h8, rfl, rfl, rfl, st⟩ := hrel
        have hX : (bs ((prs (aa n2 ak) 0 (ds.take k)).flatMap frmBytes)).size ≤ 3400 := by
          rw [bs_size, prs_flat _ _ _ h8.out, List.length_take]; omega
        have hY : (bs (wnt (aa n2 ak) 0 (ds.take k))).size ≤ 1700 := by
          have := wnt_len (aa n2 ak) 0 (ds.take k) h8.out
          rw [List.length_take] at this
          rw [bs_size]; omega
        have hnn := HN.out
        by_cases hlt : k < N
        · have gk : decide (k < N) = true := by simpa using hlt
          have gi : (k : Int) < (N : Int) := by omega
          obtain ⟨d, hd⟩ : ∃ d, ds[k]? = some d := ⟨_, List.getElem?_eq_getElem (by omega)⟩
          obtain ⟨b, off, rfl, hb, hc⟩ := H1.out k d hd
          have kc := (sAll.trans st).cell hc
          have hmem : d ∈ ds := List.mem_of_getElem? hd
          have hdl := HDM.out d hmem
          have htk : ds.take (k + 1) = ds.take k ++ [d] := by rw [List.take_add_one, hd]; rfl
          have hlk : (ds.take k).length = k := by rw [List.length_take]; omega
          by_cases h8d : d.size = 8
          · have gd : ((d.size : Int) != 8) = false := by simp; omega
            have g8 : ∀ e ∈ ds.take (k + 1), e.size = 8 := by
              intro e he
              rw [htk] at he
              rcases List.mem_append.1 he with he | he
              · exact h8.out e he
              · simp at he; rw [he]; exact h8d
            have hfl : bs ((prs (aa n2 ak) 0 (ds.take (k + 1))).flatMap frmBytes) = bs ((prs (aa n2 ak) 0 (ds.take k)).flatMap frmBytes) ++ bs (frmBytes (pF (aa n2 ak k) d)) ++ bs (frmBytes (uF k d)) := by
              rw [htk, prs_snoc, hlk, Nat.zero_add, List.flatMap_append, bs_append, bs_append]
              simp
            have hwn : bs (wnt (aa n2 ak) 0 (ds.take (k + 1))) = bs (wnt (aa n2 ak) 0 (ds.take k)) ++ bs (if aa n2 ak k then [] else frmBytes (aF d)) := by
              rw [htk, wnt_snoc, hlk, Nat.zero_add, bs_append]
            have G8 := Lib.hid g8
            have PP := fun (w' : World) (hf' : Fr w'.heap lab3) => refPrint_spec (pF (aa n2 ak k) d) w' lab3 hf' (pF_fits _ d h8d)
            have PU := fun (w' : World) (hf' : Fr w'.heap lab3) => refPrint_spec (uF k d) w' lab3 hf' (uF_fits k d h8d (by omega))
            have PA := fun (w' : World) (hf' : Fr w'.heap lab3) => refPrint_spec (aF d) w' lab3 hf' (aF_fits d h8d)
            have hs1 : (bs (frmBytes (pF (aa n2 ak k) d))).size = 17 := by rw [bs_size, frmBytes_len]; show 9 + d.size = 17; omega
            have hs2 : (bs (frmBytes (uF k d))).size = 17 := by rw [bs_size, frmBytes_len]; show 9 + d.size = 17; omega
            have hs3 : (bs (frmBytes (aF d))).size = 17 := by rw [bs_size, frmBytes_len]; show 9 + d.size = 17; omega
            have hwk : IntKind.u8.wrap (k : Int) = k := by rw [IntKind.wrap_u8]; omega
            have HFL := Lib.hid hfl
            have HWN := Lib.hid hwn
            generalize bs ((prs (aa n2 ak) 0 (ds.take k)).flatMap frmBytes) = X at *
            generalize bs (wnt (aa n2 ak) 0 (ds.take k)) = Y at *
            generalize bs (frmBytes (pF (aa n2 ak k) d)) = T1 at *
            generalize bs (frmBytes (uF k d)) = T2 at *
            generalize hT3 : bs (frmBytes (aF d)) = T3 at *
            have HT3 := Lib.hid hT3
            dsimp only [pF, uF, aF, frmV] at PP PU PA
            have q1 : ¬ 9223372036854775807 < X.size + T1.size := by omega
            have q2 : ¬ 9223372036854775807 < (X ++ T1).size + T2.size := by rw [ByteArray.size_append]; omega
            have q3 : ¬ 9223372036854775807 < Y.size + T3.size := by omega
            clear hT3 hfl hwn hs1 hs2 hs3 hX hY htk hlk hdl hmem hd hnn g8
            have hbx := Blk.at_new wr lab3 st.fresh #[.int .u8 6, .int .u8 0, .int .u32 0, .string d] 32
            have s0 := (Stp.refl 0 0 st.fresh).alloc (w1 := wr) (.cells #[.int .u8 6, .int .u8 0, .int .u32 0, .string d] 32)
            have kc0 := s0.cell kc
            by_cases hkn : k < n2
            · have gn : decide (k < n2) = true := by simpa using hkn
              have gni : (k : Int) < (n2 : Int) := by omega
              obtain ⟨b2, off2, rfl, hb2, hc2⟩ := H2.out k hkn
              have kc2 := s0.cell ((sAll.trans st).cell hc2)
              have haa : aa n2 ak k = ak k := by unfold aa; rw [gn, Bool.true_and]
              rw [haa] at PP HWN
              cases hak : ak k
              · rw [hak] at PP HWN kc2
                clear haa hak
                have PPH : Hid (∀ w' : World, Fr w'.heap lab3 → Calls Tryz.prog 15 #[.agg #[.int .u8 6, .int .u8 0, .int .u32 0, .string d]] w' (PostS w' lab3 (.tuple #[.string T1, .int .i64 0]))) := Lib.hid fun w' hf' => PP w' hf'
                have PUH : Hid (∀ w' : World, Fr w'.heap lab3 → Calls Tryz.prog 15 #[.agg #[.int .u8 200, .int .u8 k, .int .u32 0, .string d]] w' (PostS w' lab3 (.tuple #[.string T2, .int .i64 0]))) := Lib.hid fun w' hf' => PU w' hf'
                have PAH : Hid (∀ w' : World, Fr w'.heap lab3 → Calls Tryz.prog 15 #[.agg #[.int .u8 6, .int .u8 1, .int .u32 0, .string d]] w' (PostS w' lab3 (.tuple #[.string T3, .int .i64 0]))) := Lib.hid fun w' hf' => PA w' hf'
                clear PP PU PA
                go_wp2_with fail
                refine (PAH.out _ s0.fresh).mono ?_
                rintro e w5 ⟨rfl, s5⟩
                have sx := s0.trans s5
                have kx := s5.cell kc0
                obtain ⟨f0, f1, f2, f3⟩ := (hbx.kept s5 (by omega)).cells4
                go_wp2_with fail
                refine (PPH.out _ sx.fresh).mono ?_
                rintro e w6 ⟨rfl, s6⟩
                have kx6 := s6.cell kx
                go_wp2_with fail
                refine (PUH.out _ s6.fresh).mono ?_
                rintro e w7 ⟨rfl, s7⟩
                have sF := st.trans ((sx.trans s6).trans s7)
                go_wp2
                have hwn2 : bs (wnt (aa n2 ak) 0 (ds.take (k + 1))) = Y ++ T3 := by rw [HWN.out]; rw [← HT3.out]; rfl
                exact ⟨⟨k + 1, by omega, G8, by go_num, by rw [HFL.out], by rw [hwn2], sF⟩, by simp [intOf]; omega⟩
              · rw [hak] at PP HWN kc2
                clear haa hak
                have PPH : Hid (∀ w' : World, Fr w'.heap lab3 → Calls Tryz.prog 15 #[.agg #[.int .u8 6, .int .u8 1, .int .u32 0, .string d]] w' (PostS w' lab3 (.tuple #[.string T1, .int .i64 0]))) := Lib.hid fun w' hf' => PP w' hf'
                have PUH : Hid (∀ w' : World, Fr w'.heap lab3 → Calls Tryz.prog 15 #[.agg #[.int .u8 200, .int .u8 k, .int .u32 0, .string d]] w' (PostS w' lab3 (.tuple #[.string T2, .int .i64 0]))) := Lib.hid fun w' hf' => PU w' hf'
                have PAH : Hid (∀ w' : World, Fr w'.heap lab3 → Calls Tryz.prog 15 #[.agg #[.int .u8 6, .int .u8 1, .int .u32 0, .string d]] w' (PostS w' lab3 (.tuple #[.string T3, .int .i64 0]))) := Lib.hid fun w' hf' => PA w' hf'
                clear PP PU PA
                have hbx1 := Blk.at_new wr lab3 st.fresh #[.int .u8 6, .int .u8 1, .int .u32 0, .string d] 32
                have s01 := (Stp.refl 0 0 st.fresh).alloc (w1 := wr) (.cells #[.int .u8 6, .int .u8 1, .int .u32 0, .string d] 32)
                have kc1 := s01.cell kc
                go_wp2_with fail
                refine (PPH.out _ s01.fresh).mono ?_
                rintro e w6 ⟨rfl, s6⟩
                have kx6 := s6.cell kc1
                go_wp2_with fail
                refine (PUH.out _ s6.fresh).mono ?_
                rintro e w7 ⟨rfl, s7⟩
                have sF := st.trans ((s01.trans s6).trans s7)
                go_wp2
                have hwn2 : bs (wnt (aa n2 ak) 0 (ds.take (k + 1))) = Y := by rw [HWN.out]; exact bs_nil Y
                exact ⟨⟨k + 1, by omega, G8, by go_num, by rw [HFL.out], by rw [hwn2], sF⟩, by simp [intOf]; omega⟩
            · have gn : decide (k < n2) = false := by simpa using hkn
              have haa : aa n2 ak k = false := by unfold aa; rw [gn, Bool.false_and]
              rw [haa] at PP HWN
              clear haa
              have PPH : Hid (∀ w' : World, Fr w'.heap lab3 → Calls Tryz.prog 15 #[.agg #[.int .u8 6, .int .u8 0, .int .u32 0, .string d]] w' (PostS w' lab3 (.tuple #[.string T1, .int .i64 0]))) := Lib.hid fun w' hf' => PP w' hf'
              have PUH : Hid (∀ w' : World, Fr w'.heap lab3 → Calls Tryz.prog 15 #[.agg #[.int .u8 200, .int .u8 k, .int .u32 0, .string d]] w' (PostS w' lab3 (.tuple #[.string T2, .int .i64 0]))) := Lib.hid fun w' hf' => PU w' hf'
              have PAH : Hid (∀ w' : World, Fr w'.heap lab3 → Calls Tryz.prog 15 #[.agg #[.int .u8 6, .int .u8 1, .int .u32 0, .string d]] w' (PostS w' lab3 (.tuple #[.string T3, .int .i64 0]))) := Lib.hid fun w' hf' => PA w' hf'
              clear PP PU PA
              go_wp2_with fail
              refine (PAH.out _ s0.fresh).mono ?_
              rintro e w5 ⟨rfl, s5⟩
              have sx := s0.trans s5
              have kx := s5.cell kc0
              obtain ⟨f0, f1, f2, f3⟩ := (hbx.kept s5 (by omega)).cells4
              go_wp2_with fail
              refine (PPH.out _ sx.fresh).mono ?_
              rintro e w6 ⟨rfl, s6⟩
              have kx6 := s6.cell kx
              go_wp2_with fail
              refine (PUH.out _ s6.fresh).mono ?_
              rintro e w7 ⟨rfl, s7⟩
              have sF := st.trans ((sx.trans s6).trans s7)
              go_wp2
              have hwn2 : bs (wnt (aa n2 ak) 0 (ds.take (k + 1))) = Y ++ T3 := by rw [HWN.out]; rw [← HT3.out]; rfl
              exact ⟨⟨k + 1, by omega, G8, by go_num, by rw [HFL.out], by rw [hwn2], sF⟩, by simp [intOf]; omega⟩
          · have gd : ((d.size : Int) != 8) = true := by simp; omega
            clear htk hlk hX hY hnn hd hmem
            go_wp2
            go_ret
            exact ⟨rfl, _, sAll.trans st⟩
        · have gk : decide (k < N) = false := by simpa using hlt
          have hkN : k = N := by omega
          have htk : ds.take k = ds := List.take_of_length_le (by omega)
          have h8' := h8.out
          rw [htk] at h8' hX hY ⊢
          have hfit := prs_fits (aa n2 ak) 0 ds h8' (by omega)
          have hfl := flat_len (prs (aa n2 ak) 0 ds)
          rw [prs_flat _ _ _ h8'] at hfl
          have h4r := h4.kept st (by omega) (by omega)
          have TK := Lib.hid (take_run wr lab3 st.fresh B p hB g4 (stS c0 []) _ (bs ((prs (aa n2 ak) 0 ds).flatMap frmBytes)) (prs (aa n2 ak) 0 ds) ⟨bs [], false, false⟩ h4r (by cases c0 <;> rfl) (by show 0 + _ ≤ _; omega) (by omega) (add_plain _ hfit) (run_pings B p hB c0 (aa n2 ak) ds 0 [] h8' (by omega) (by simp; omega)))
          rw [List.nil_append] at TK
          clear hfl hfit h8' htk hX hY hnn
          generalize bs ((prs (aa n2 ak) 0 ds).flatMap frmBytes) = X at *
          generalize wnt (aa n2 ak) 0 ds = Y at *
          go_wp2_with fail
          refine TK.out.mono ?_
          rintro e w5 ⟨g5, lab5, v5, rfl, hev, h5, s5⟩
          obtain ⟨A5, c5, rfl⟩ := EvsAt.none hev
          go_wp2_with fail
          refine (out_fine w5 lab5 s5.fresh B p hB g5 _ h5).mono ?_
          rintro e w6 ⟨g6, rfl, h6, s6⟩
          have hY : (⟨({ stS c0 Y with events := [] } : CS).out.toArray⟩ : ByteArray) = bs Y := rfl
          rw [hY]
          go_wp2
          go_ret
          exact ⟨rfl, lab5, S1.out.trans ((((SA.out.trans (st.any _ _)).trans (s5.trans (s6.mono (by omega) (by omega)))).none HBK.out))⟩
end Go.Proofs.YtlbaiighiaanoaaGreatDoor

/- The closing of a law: what a row asks, out of a walk's contract. -/
namespace Go.Proofs.YtlbaiighiaanoaaGreatDoor
open Go Go.Proofs Go.RowKit Go.ChangeShapes Go.WideShapes Go.ChangeAt
set_option maxRecDepth 100000
set_option linter.unusedVariables false
set_option linter.unusedSimpArgs false
theorem zz_own : ownKnob Tryz.prog.godebug = none := by kernel_rfl
theorem zz_laidOut : laidOutB Tryz.prog = true := by kernel_rfl
theorem glob_of_shaped {W : World} (h : W.ShapedOpen Tryz.prog) : Glob W.heap := by
  obtain ⟨m, hm⟩ := cell_of_shapedOpen_int (g := 0) (t := 3) (zero := #[.int .i64 0]) (k := .i64) h (of_decide_eq_true (by kernel_rfl)) (by kernel_rfl) rfl (by kernel_rfl) (by kernel_rfl) Tryz.underlying3
  unfold World.cell? at hm
  cases hh : W.heap[0]? with
  | none => rw [hh] at hm; simp at hm
  | some o =>
    rw [hh] at hm
    cases o with
    | cells cs t fz => exact ⟨cs, t, fz, m, hh, by simpa using hm⟩
    | _ => simp at hm
/-- What turned nothing is Below. -/
theorem below_of_stp {W W' : World} {lab lab' : Nat → Nat} (h : Stp 0 0 W lab W' lab') : Below W.heap.size W W' :=
  ⟨by have := h.rest; simp only [wrest, Rest.mk.injEq] at this; exact this.1, by have := h.rest; simp only [wrest, Rest.mk.injEq] at this; exact this.2.1, by have := h.rest; simp only [wrest, Rest.mk.injEq] at this; exact this.2.2, h.size, fun k hk => h.block k hk (by omega)⟩
section
variable {H : Type} {enc : TypeId × Value → H}
/-- The wrap of a row that lists variables, the world's shape kept. -/
theorem returns_laid_shaped {a : Assume} {C : Checked} {os : Os} {f : FuncId} {fn : Func} {s : ChangeSpec} {conds : List PathCond} {apart fresh handsOn again : Bool} {X : World → Array Value → Prop}
    (hX : ∀ (w w' : World) (args : Array Value), w.heap = w'.heap → X w args → X w' args)
    (own : ownKnob C.prog.godebug = none) (started : os.Started) (noInit : C.prog.inits.idxOf? f = none) (hfn : C.prog.funcs[f]? = some fn)
    (witness : ∃ (w : World) (tape : Tape) (i : Input), w.os = os ∧ (w.forCall tape i).Shaped C.prog ∧ i.vars = [] ∧ Input.okWide C.prog (w.forCall tape i) .any w.heap.size f i ∧
      ((s.pre enc C.prog fn conds apart (w.forCall tape i).memory i.args ∧ X (w.forCall tape i).memory i.args) ∧ sizedMet enc C.prog fn (OpenSpec.ofChange s) apart (w.forCall tape i).memory i.args) ∧ a.holds C.prog (lone (Frame.enter C.prog f i.args .normal) [] (w.forCall tape i)))
    (contract : ∀ (W : World) (base : Nat) (args : Array Value) (ds gs : List (DataW H)) (before : List MemPlace),
      (∀ (j : Nat) t v, fn.params[j]? = some t → args[j]? = some v → Value.okWide C.prog W .any base t v) →
      DataW.Whole enc C.prog fn.params.toList s.vars apart W args.toList ds gs before →
      conds.all (PathCond.test C.prog ⟨fn.params.toList, ds, s.plain.varTypes C.prog, gs⟩) = true →
      (DataW.weightsEach C.prog (fn.params.toList ++ s.plain.varTypes C.prog) (ds ++ gs)).all (· ≤ reachBytes) = true → X W args → W.ShapedOpen C.prog →
      a.holds C.prog (lone (Frame.enter C.prog f args .normal) [] W) →
      Calls C.prog f args W fun e W' => ∃ v, e = .returned v ∧ s.post enc C.prog fn apart fresh handsOn again W args v W') :
    ReturnsInHanded a C os f .any (fun w args => (s.pre enc C.prog fn conds apart w args ∧ X w args) ∧ sizedMet enc C.prog fn (OpenSpec.ofChange s) apart w args) (s.post enc C.prog fn apart fresh handsOn again) := by
  refine returnsInHanded_of_calls own started noInit witness ?_
  intro w tape i _ hsh _ hok hpre hholds
  obtain ⟨_, _, _, fn', hfn', _, _, _, _, hval⟩ := hok
  have e : fn' = fn := Option.some.inj (hfn'.symm.trans hfn)
  subst e
  obtain ⟨⟨⟨ds, gs, before, hw, hc⟩, hx⟩, hz⟩ := hpre
  have hw' := DataW.Whole.of_heap (w' := w.forCall tape i) (by rfl) hw
  refine (contract (w.forCall tape i) w.heap.size i.args ds gs before hval hw' hc (hz.weights hw) (hX _ _ _ (by rfl) hx) hsh hholds).mono fun e W' ⟨v, he, hp⟩ => ?_
  subst he
  exact ChangeSpec.post_blind hp
end
theorem laid_witness (os : Os) (args : Array Value) : laidMetH Tryz.prog [("unicode/utf8.acceptRanges", Rows.laid_unicode_utf8_acceptRanges), ("unicode/utf8.first", Rows.laid_unicode_utf8_first)] ((World.laidAll Tryz.prog os [("unicode/utf8.acceptRanges", Rows.laid_unicode_utf8_acceptRanges), ("unicode/utf8.first", Rows.laid_unicode_utf8_first)]).forCall (fun _ _ => 0) ⟨#[], args, []⟩).memory := by
  rw [MakeChecks.laidMetH_plain _ _ _ (by kernel_rfl)]
  exact laidMet_laidAll _ (by kernel_rfl) (by kernel_rfl)
section
variable {H : Type} {enc : TypeId × Value → H}
theorem add_at (b off k : Nat) : (⟨b, off, none⟩ : Addr).add k = ⟨b, off + k, none⟩ := by unfold Addr.add; split <;> simp_all
/-- A slice of strings that came in, as the walks have it. -/
theorem open_strsAt {W : World} {v : Value} {d : DataW H} {p : List MemPlace} (hsh : ∃ A n c, v = .slice A n c) (h : DataW.Trod enc Tryz.prog W 0 (fun _ => true) true 22 v d p) (hlt : ∀ x ∈ p, x.block < W.heap.size) :
    ∃ A c ss, v = .slice A ss.length c ∧ StrsAt W A ss ∧ ss.length ≤ maxLen ∧ ∀ s ∈ ss, s.size ≤ maxLen := by
  obtain ⟨fuel, hf⟩ := h
  obtain ⟨A, n, c, rfl⟩ := hsh
  rcases open_strings Tryz.underlying22 Tryz.underlying9 (by kernel_rfl) hf with ⟨hcs, hx⟩ | ⟨a, len, cap, ss, hcs, _, hl, hm, hz, hx, hcell, hws⟩
  · simp [Value.cells] at hcs
    obtain ⟨rfl, rfl, rfl⟩ := hcs
    exact ⟨none, 0, [], rfl, by intro i s hs; simp at hs, by simp, by simp⟩
  · simp [Value.cells] at hcs
    obtain ⟨rfl, rfl, rfl⟩ := hcs
    simp only [Prod.mk.injEq] at hx
    obtain ⟨rfl, rfl⟩ := hx
    simp only [if_true] at hz
    refine ⟨some a, c, ss.take n, by rw [List.length_take, Nat.min_eq_left (by omega)], ?_, by rw [List.length_take]; omega, fun s hs => hws s (List.mem_of_mem_take hs)⟩
    intro i s hs
    obtain ⟨b, off, spot⟩ := a
    have hi : i < n := by
      have := (List.getElem?_eq_some_iff.1 hs).1
      rw [List.length_take] at this; omega
    have hspot : spot = none := by simpa [Addr.add] using World.cell?_spot (hcell 0 (by omega))
    subst hspot
    refine ⟨b, off, rfl, hlt (.cell b off) (MemPlace.mem_row.2 ⟨0, by omega, by simp⟩), ?_⟩
    rw [← add_at, hcell i (by omega)]
    rw [List.getElem?_take_of_lt hi] at hs
    simp [List.getD, hs]
theorem open_boolsAt {W : World} {v : Value} {d : DataW H} {p : List MemPlace} (hsh : ∃ A n c, v = .slice A n c) (h : DataW.Trod enc Tryz.prog W 0 (fun _ => true) true 23 v d p) (hlt : ∀ x ∈ p, x.block < W.heap.size) :
    ∃ A n c a, v = .slice A n c ∧ BoolsAt W A n a ∧ n ≤ maxLen := by
  obtain ⟨fuel, hf⟩ := h
  obtain ⟨A, n, c, rfl⟩ := hsh
  have hc : Tryz.prog.cellsOf 4 = 1 := by kernel_rfl
  rcases DataW.trod_slice Tryz.underlying23 hf with ⟨hcs, hx⟩ | ⟨a, len, cap, elems, rest, m, _, hcs, hx, _, hl, hm, hlen, hel, _, _⟩
  · simp [Value.cells] at hcs
    obtain ⟨rfl, rfl, rfl⟩ := hcs
    exact ⟨none, 0, 0, fun _ => false, rfl, by intro i hi; omega, by decide⟩
  · simp [Value.cells] at hcs
    obtain ⟨rfl, rfl, rfl⟩ := hcs
    simp only [Prod.mk.injEq, hc, Nat.mul_one] at hx hel
    obtain ⟨_, rfl⟩ := hx
    have hcell : ∀ i, i < n → ∃ b, W.cell? (a.add i) = some (.bool b) := by
      intro i hi
      have e := hel i hi
      rw [List.getElem?_eq_getElem (by omega), Option.bind_eq_some_iff] at e
      obtain ⟨cs', hcs', hy⟩ := e
      obtain ⟨b, rfl, _⟩ := DataW.trod_bool Tryz.underlying4 hy
      exact ⟨b, cell_of_cells?_one hcs'⟩
    refine ⟨some a, n, c, fun i => match W.cell? (a.add i) with | some (.bool b) => b | _ => false, rfl, ?_, by omega⟩
    intro i hi
    obtain ⟨b, off, spot⟩ := a
    have hspot : spot = none := by
      obtain ⟨x, hx⟩ := hcell 0 (by omega)
      simpa [Addr.add] using World.cell?_spot hx
    subst hspot
    refine ⟨b, off, rfl, hlt (.cell b off) (List.mem_append_left _ (MemPlace.mem_row.2 ⟨0, by omega, by simp⟩)), ?_⟩
    obtain ⟨x, hx⟩ := hcell i hi
    rw [← add_at, hx]
    simp only [hx]
end
end Go.Proofs.YtlbaiighiaanoaaGreatDoor
