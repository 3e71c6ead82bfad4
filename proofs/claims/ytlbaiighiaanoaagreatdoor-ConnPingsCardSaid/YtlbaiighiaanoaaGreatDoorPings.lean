/- 'ConnPings' returns true for every input, and its input reads as it did: the row, and the tied card. Conditions: the row's own (the two listed tables of unicode/utf8 read as Go's text lays them, tied by the card). -/
import Derived.Test.YtlbaiighiaanoaaGreatDoorK14
namespace Go.Proofs.YtlbaiighiaanoaaGreatDoor
open Go Go.Proofs Go.RowKit Go.ChangeShapes Go.WideShapes Go.ChangeAt
set_option maxRecDepth 100000
set_option linter.unusedVariables false
set_option linter.unusedSimpArgs false
theorem pings_lifted (os : Os) (started : os.Started) (H : Type) (enc : TypeId × Value → H) :
    ReturnsInHanded {} Tryz.checked os 3 .any (fun w args => (Rows.connPingsSpec.pre enc Tryz.prog Tryz.f3 Rows.connPingsRow.domain false w args ∧ laidMetH Tryz.prog Rows.connPingsRow.laid w) ∧ sizedMet enc Tryz.prog Tryz.f3 (OpenSpec.ofChange Rows.connPingsSpec) false w args)
      (Rows.connPingsSpec.post enc Tryz.prog Tryz.f3 false true false false) := by
  refine returns_laid_shaped (C := Tryz.checked) (X := fun w _ => laidMetH Tryz.prog Rows.connPingsRow.laid w) (fun _ _ _ hh h => h.of_heap hh) zz_own started (by kernel_rfl) Tryz.func3
    (ChangeSpec.witness_shaped (enc := enc) (C := Tryz.checked) (os := os) (X := fun w _ => laidMetH Tryz.prog Rows.connPingsRow.laid w) false (World.laidAll Tryz.prog os Rows.connPingsRow.laid) #[.bool false, .slice none 0 0, .slice none 0 0] 8 (World.laidAll_os _ _ _)
      (World.shaped_of_ZipB (by kernel_rfl) (by kernel_rfl)) (by kernel_rfl) (by kernel_rfl) (by kernel_rfl) (laid_witness os _)) ?_
  intro W base args ds gs before hval0 hW _ _ _ hsh _
  have hval : ∀ (j : Nat) t v, Tryz.f3.params[j]? = some t → args[j]? = some v → Value.okWide Tryz.prog W .any base t v := hval0
  have hW' := hW
  obtain ⟨p, q, hA0, hV, rfl, _, _⟩ := hW
  have hA : DataW.TrodAll enc Tryz.prog W 0 (fun _ => true) true Tryz.f3.params.toList args.toList ds p := hA0
  rw [Tryz.params3] at hA hval
  obtain ⟨v0, v1, v2, d0, d1, d2, p0, p1, p2, rfl, rfl, rfl, h0, h1, h2⟩ := trodAll_three hA
  obtain ⟨rfl, rfl⟩ := trodVars_none hV
  have h0k := h0
  have h1k := h1
  have h2k := h2
  clear hA0 hval0 hA
  simp only [List.append_nil] at hW'
  have hlt : ∀ x ∈ p0 ++ p1 ++ p2, x.block < W.heap.size := fun x hx => by simpa using hW'.lt x hx
  have fin : ∀ W' : World, Below W.heap.size W W' → Rows.connPingsSpec.post enc Tryz.checked.prog Tryz.f3 false true false false W #[v0, v1, v2] (.bool true) W' := by
    intro W' hnx
    refine ⟨_, _, _, [] ++ [], p0 ++ p1 ++ p2, [], hW', ?_, ?_, rfl, hnx.frame _, fun h => by cases h⟩
    · exact trodAll_mk1 (shut_bool Tryz.underlying4 true)
    · rw [List.append_assoc]
      exact trodAll_mk3 (Below.trod zz_laidOut (by kernel_rfl) (of_decide_eq_true (by kernel_rfl)) h0k hnx (fun x hx => hlt x (by simp [hx])))
        (Below.trod zz_laidOut (by kernel_rfl) (of_decide_eq_true (by kernel_rfl)) h1k hnx (fun x hx => hlt x (by simp [hx])))
        (Below.trod zz_laidOut (by kernel_rfl) (of_decide_eq_true (by kernel_rfl)) h2k hnx (fun x hx => hlt x (by simp [hx])))
  obtain ⟨c, rfl, rfl, rfl⟩ := open_bool Tryz.underlying4 (hval 0 4 v0 rfl rfl) h0
  obtain ⟨A1, c1, ss, rfl, hs1, hs2, hs3⟩ := open_strsAt (let ⟨a, l, c, e⟩ := okWide_slice Tryz.underlying22 (hval 1 22 v1 rfl rfl); ⟨a, l, c, e⟩) h1 (fun x hx => hlt x (by simp [hx]))
  obtain ⟨A2, n2, c2, ak, rfl, hk1, hk2⟩ := open_boolsAt (let ⟨a, l, c, e⟩ := okWide_slice Tryz.underlying23 (hval 2 23 v2 rfl rfl); ⟨a, l, c, e⟩) h2 (fun x hx => hlt x (by simp [hx]))
  refine (pings_walk W (glob_of_shaped hsh) c A1 A2 c1 c2 n2 ss ak hs1 hk1 hk2 hs2 hs3).mono fun e W' ⟨he, lab', st⟩ => ?_
  subst he
  exact ⟨_, rfl, fin W' (below_of_stp st)⟩
theorem pings_holds : Rows.ConnPingsSaid :=
  OpenClaim.holds_of_wide 3 Tryz.f3 rfl rfl rfl rfl rfl rfl rfl ⟨rfl, rfl, rfl, rfl, rfl⟩ rfl rfl rfl rfl rfl (by kernel_rfl) Tryz.func3 (by kernel_rfl)
    (of_decide_eq_true (by kernel_rfl)) (by unfold Func.isWrapper; first | (rw [if_pos (by decide +kernel)]; kernel_rfl) | (rw [if_neg (by decide +kernel)]; exact ⟨rfl, rfl⟩))
    (fun os started H enc _ => pings_lifted os started H enc)
theorem pings_card : Rows.ConnPingsCardSaid :=
  Claim7.holds_tied_plain_at .later [] [.data, .pinned] true (true, "ea11bafcabe3cec8c1524ad1eb1d6512bc8b7e321a2eef7880fe75000037c6ac") true pings_holds (fun _ h => by cases h) (by kernel_rfl) (fun _ h => by cases h) connPings_row_tie rfl ⟨rfl, rfl⟩ (by kernel_rfl) rfl
    (fun f fn hf hfn => by
      obtain rfl : f = 3 := Option.some.inj ((show Tryz.prog.funcNamed "nuncio/nunciolaw19.ConnPings" = some 3 by kernel_rfl).symm.trans hf) |>.symm
      obtain rfl : fn = Tryz.f3 := (Option.some.inj (Tryz.func3.symm.trans hfn)).symm
      exact ⟨by kernel_rfl, fun j t ht => by
        rw [Tryz.params3] at ht
        have hm : t ∈ [4, 22, 23] := by simpa using Array.mem_of_getElem? ht
        have hall : ([4, 22, 23].all fun u => !Tryz.prog.wantsStandIn u) = true := by kernel_rfl
        exact (show Tryz.prog.wantsStandIn t = false by simpa using List.all_eq_true.1 hall t hm)⟩)
    (by kernel_rfl)
#print axioms pings_card
end Go.Proofs.YtlbaiighiaanoaaGreatDoor
