/- Contracts and plain laws for Pings, part 4; no conditions but those that each theorem states. -/
import Derived.Test.YtlbaiighiaanoaaGreatDoorK3
import Derived.BigRegion
/- Contracts of package frame: Wrong, Content. -/
namespace Go.Proofs.YtlbaiighiaanoaaGreatDoor
open Go Go.Proofs Go.RowKit
set_option maxRecDepth 100000
set_option linter.unusedVariables false
set_option linter.unusedSimpArgs false
theorem Blk.cells4 {w : World} {lab : Nat → Nat} {p l : Nat} {x0 x1 x2 x3 : Value} {t : TypeId} (h : Blk w.heap lab p l #[x0, x1, x2, x3] t) :
    w.cell? ⟨p, 0, none⟩ = some x0 ∧ w.cell? ⟨p, 1, none⟩ = some x1 ∧ w.cell? ⟨p, 2, none⟩ = some x2 ∧ w.cell? ⟨p, 3, none⟩ = some x3 := ⟨h.cell 0 rfl, h.cell 1 rfl, h.cell 2 rfl, h.cell 3 rfl⟩
def wrongF (f : Frm) : Nat × Nat :=
  if placeF f = false then (2, 1)
  else if ((sizeF f).1 != 0) = true then sizeF f
  else if f.type = 0 ∨ f.type = 1 then paddedF f
  else if f.type = 2 then (if ((num31 f.data 0 : Int) == f.stream) = true then (1, 1) else (0, 0))
  else if f.type = 8 then (if ((num31 f.data 0 : Int) == 0) = true then (if (f.stream == 0) = true then (2, 1) else (1, 1)) else (0, 0))
  else (0, 0)
/-- A frame as Go has it. -/
structure Frm.Ok (f : Frm) : Prop where
  ty : f.type < 256
  fl : f.flags < 256
  st0 : 0 ≤ f.stream
  st1 : f.stream < 4294967296
  len : f.data.size ≤ 9223372036854775807
theorem size2 {f : Frm} (h : f.type = 2) (hs : ((sizeF f).1 != 0) = false) : f.data.size = 5 := by
  unfold sizeF at hs
  rw [if_pos h] at hs
  split at hs <;> simp_all
theorem size8 {f : Frm} (h : f.type = 8) (hs : ((sizeF f).1 != 0) = false) : f.data.size = 4 := by
  unfold sizeF at hs
  rw [if_neg (by omega), if_pos (.inr h)] at hs
  split at hs <;> simp_all
set_option maxHeartbeats 1000000 in
theorem wrong_spec (f : Frm) (w : World) (lab : Nat → Nat) (hf : Fr w.heap lab) (ok : f.Ok) :
    Calls Tryz.prog 73 #[frmV f] w (PostS w lab (.tuple #[.int .i64 (wrongF f).1, .int .u32 (wrongF f).2])) := by
  have hw : wrongF f = (if placeF f = false then (2, 1)
    else if ((sizeF f).1 != 0) = true then sizeF f
    else if f.type = 0 ∨ f.type = 1 then paddedF f
    else if f.type = 2 then (if ((num31 f.data 0 : Int) == f.stream) = true then (1, 1) else (0, 0))
    else if f.type = 8 then (if ((num31 f.data 0 : Int) == 0) = true then (if (f.stream == 0) = true then (2, 1) else (1, 1)) else (0, 0))
    else (0, 0)) := rfl
  have h2 := @size2 f
  have h8 := @size8 f
  have HPL := Lib.hid fun w' hf' => place_spec f w' lab hf'
  have HSZ := Lib.hid fun w' hf' => size_spec f w' lab hf' ok.fl ok.len
  have HPD := Lib.hid fun w' hf' => padded_spec f w' lab hf' ok.fl ok.ty ok.st0 ok.st1 ok.len
  obtain ⟨ty, fl, st, d⟩ := f
  obtain ⟨ht, hfl, hs0, hs1, hd⟩ := ok
  dsimp only [frmV] at *
  have NS := fun (h4 : 4 ≤ d.size) (w' : World) (hf' : Fr w'.heap lab) => number_spec d 0 w' lab hf' (by omega) (by omega) hd
  rw [show (0 : Int).toNat = 0 from rfl] at NS
  generalize placeF _ = pb at *
  generalize sizeF _ = sz at *
  generalize paddedF _ = pd at *
  generalize wrongF _ = r at *
  generalize num31 d 0 = N at *
  have HNS := Lib.hid NS
  clear NS
  obtain ⟨z1, z2⟩ := sz
  have hbx := Blk.at_new w lab hf #[.int .u8 ty, .int .u8 fl, .int .u32 st, .string d] 32
  have hst0 := (Stp.refl 0 0 hf).alloc (.cells #[.int .u8 ty, .int .u8 fl, .int .u32 st, .string d] 32)
  cases pb
  · rw [if_pos rfl] at hw
    subst hw
    go_enter Tryz.func73, Tryz.ntmps73
    go_wp2_with fail
    refine (HPL.out _ (hf.alloc _)).mono ?_
    rintro e w1 ⟨rfl, s1⟩
    go_wp2
    go_ret2
    exact ⟨rfl, hst0.trans s1⟩
  rw [if_neg (by decide)] at hw
  cases gz : (z1 != 0)
  case true =>
    have hz : ((z1 : Int) != 0) = true := bneI gz
    rw [if_pos gz] at hw
    subst hw
    go_enter Tryz.func73, Tryz.ntmps73
    go_wp2_with fail
    refine (HPL.out _ (hf.alloc _)).mono ?_
    rintro e w1 ⟨rfl, s1⟩
    obtain ⟨c0, c1, c2, c3⟩ := (hbx.kept s1 (by omega)).cells4
    go_wp2_with fail
    refine (HSZ.out _ s1.fresh).mono ?_
    rintro e w2 ⟨rfl, s2⟩
    go_wp2
    go_ret2
    exact ⟨rfl, (hst0.trans s1).trans s2⟩
  case false =>
    have hz : ((z1 : Int) != 0) = false := bneI gz
    rw [if_neg (by rw [gz]; decide)] at hw
    rw [gz] at h2 h8
    rcases (show ty = 0 ∨ ty = 1 ∨ ty = 2 ∨ ty = 8 ∨ (ty ≠ 0 ∧ ty ≠ 1 ∧ ty ≠ 2 ∧ ty ≠ 8) by omega) with rfl | rfl | rfl | rfl | ⟨n0, n1, n2, n8⟩
    · rw [if_pos (by decide)] at hw
      subst hw
      go_enter Tryz.func73, Tryz.ntmps73
      go_wp2_with fail
      refine (HPL.out _ (hf.alloc _)).mono ?_
      rintro e w1 ⟨rfl, s1⟩
      obtain ⟨c0, c1, c2, c3⟩ := (hbx.kept s1 (by omega)).cells4
      go_wp2_with fail
      refine (HSZ.out _ s1.fresh).mono ?_
      rintro e w2 ⟨rfl, s2⟩
      have s12 := s1.trans s2
      clear c0 c1 c2 c3
      obtain ⟨c0, c1, c2, c3⟩ := (hbx.kept s12 (by omega)).cells4
      go_wp2_with fail
      refine (HPD.out _ s12.fresh).mono ?_
      rintro e w3 ⟨rfl, s3⟩
      go_wp2
      go_ret2
      exact ⟨rfl, (hst0.trans s12).trans s3⟩
    · rw [if_pos (by decide)] at hw
      subst hw
      go_enter Tryz.func73, Tryz.ntmps73
      go_wp2_with fail
      refine (HPL.out _ (hf.alloc _)).mono ?_
      rintro e w1 ⟨rfl, s1⟩
      obtain ⟨c0, c1, c2, c3⟩ := (hbx.kept s1 (by omega)).cells4
      go_wp2_with fail
      refine (HSZ.out _ s1.fresh).mono ?_
      rintro e w2 ⟨rfl, s2⟩
      have s12 := s1.trans s2
      clear c0 c1 c2 c3
      obtain ⟨c0, c1, c2, c3⟩ := (hbx.kept s12 (by omega)).cells4
      go_wp2_with fail
      refine (HPD.out _ s12.fresh).mono ?_
      rintro e w3 ⟨rfl, s3⟩
      go_wp2
      go_ret2
      exact ⟨rfl, (hst0.trans s12).trans s3⟩
    · rw [if_neg (by decide), if_pos rfl] at hw
      have hd5 := h2 rfl rfl
      have hd4 : 4 ≤ d.size := by omega
      clear h2 h8
      have HN := Lib.hid (HNS.out hd4)
      cases g6 : ((N : Int) == st)
      all_goals
        rw [g6] at hw
        subst hw
        go_enter Tryz.func73, Tryz.ntmps73
        go_wp2_with fail
        refine (HPL.out _ (hf.alloc _)).mono ?_
        rintro e w1 ⟨rfl, s1⟩
        obtain ⟨c0, c1, c2, c3⟩ := (hbx.kept s1 (by omega)).cells4
        go_wp2_with fail
        refine (HSZ.out _ s1.fresh).mono ?_
        rintro e w2 ⟨rfl, s2⟩
        have s12 := s1.trans s2
        clear c0 c1 c2 c3
        obtain ⟨c0, c1, c2, c3⟩ := (hbx.kept s12 (by omega)).cells4
        go_wp2
        go_region_held3 (fun w' => w'.cell? ⟨w.heap.size, 0, none⟩ = some (.int .u8 (2 : Nat)) ∧ w'.cell? ⟨w.heap.size, 1, none⟩ = some (.int .u8 fl) ∧ w'.cell? ⟨w.heap.size, 2, none⟩ = some (.int .u32 st) ∧ w'.cell? ⟨w.heap.size, 3, none⟩ = some (.string d))
          (first | (refine ⟨s3.cell ?_, s3.cell ?_, s3.cell ?_, s3.cell ?_⟩ <;> (first | assumption | (go_keep; done) | simp)) | go_keep)
          (first | (go_at_call 99; refine (HN.out _ ?_).mono ?_; exact s12.fresh; rintro e w3 ⟨rfl, s3⟩))
        all_goals
          go_wp2
          go_ret2
          exact ⟨rfl, (hst0.trans s12).trans s3⟩
    · rw [if_neg (by decide), if_neg (by decide), if_pos rfl] at hw
      have hd5 := h8 rfl rfl
      have hd4 : 4 ≤ d.size := by omega
      clear h2 h8
      have HN := Lib.hid (HNS.out hd4)
      cases g6 : ((N : Int) == 0) <;> cases g7 : (st == 0)
      all_goals
        rw [g6] at hw
        simp only [g7, if_true, if_false, Bool.false_eq_true] at hw
        subst hw
        go_enter Tryz.func73, Tryz.ntmps73
        go_wp2_with fail
        refine (HPL.out _ (hf.alloc _)).mono ?_
        rintro e w1 ⟨rfl, s1⟩
        obtain ⟨c0, c1, c2, c3⟩ := (hbx.kept s1 (by omega)).cells4
        go_wp2_with fail
        refine (HSZ.out _ s1.fresh).mono ?_
        rintro e w2 ⟨rfl, s2⟩
        have s12 := s1.trans s2
        clear c0 c1 c2 c3
        obtain ⟨c0, c1, c2, c3⟩ := (hbx.kept s12 (by omega)).cells4
        go_wp2_with fail
        refine (HN.out _ s12.fresh).mono ?_
        rintro e w3 ⟨rfl, s3⟩
        clear c0 c1 c2 c3
        obtain ⟨c0, c1, c2, c3⟩ := (hbx.kept (s12.trans s3) (by omega)).cells4
        go_wp2
        go_ret2
        exact ⟨rfl, (hst0.trans s12).trans s3⟩
    · rw [if_neg (by simp; omega), if_neg n2, if_neg n8] at hw
      subst hw
      have m0 : ((ty : Int) == 0) = false := by rw [beq_eq_false_iff_ne]; omega
      have m1 : ((ty : Int) == 1) = false := by rw [beq_eq_false_iff_ne]; omega
      have m2 : ((ty : Int) == 2) = false := by rw [beq_eq_false_iff_ne]; omega
      have m8 : ((ty : Int) == 8) = false := by rw [beq_eq_false_iff_ne]; omega
      go_enter Tryz.func73, Tryz.ntmps73
      go_wp2_with fail
      refine (HPL.out _ (hf.alloc _)).mono ?_
      rintro e w1 ⟨rfl, s1⟩
      obtain ⟨c0, c1, c2, c3⟩ := (hbx.kept s1 (by omega)).cells4
      go_wp2_with fail
      refine (HSZ.out _ s1.fresh).mono ?_
      rintro e w2 ⟨rfl, s2⟩
      have s12 := s1.trans s2
      clear c0 c1 c2 c3
      obtain ⟨c0, c1, c2, c3⟩ := (hbx.kept s12 (by omega)).cells4
      go_wp2
      go_ret2
      exact ⟨rfl, hst0.trans s12⟩
/-- The content of data and headers. -/
def contentF (f : Frm) : ByteArray :=
  if (wrongF f).1 = 2 ∨ (f.type ≠ 0 ∧ f.type ≠ 1) then f.data
  else f.data.extract (extraF f) (f.data.size - (if flg f.flags 3 then byteAt f.data 0 else 0))
end Go.Proofs.YtlbaiighiaanoaaGreatDoor

/- The contract of frame.Content. -/
namespace Go.Proofs.YtlbaiighiaanoaaGreatDoor
open Go Go.Proofs Go.RowKit
set_option maxRecDepth 100000
set_option linter.unusedVariables false
set_option linter.unusedSimpArgs false
theorem content_fits {f : Frm} (h : (wrongF f).1 ≠ 2) (ht : f.type = 0 ∨ f.type = 1) : extraF f ≤ f.data.size ∧ (flg f.flags 3 = true → byteAt f.data 0 ≤ f.data.size - extraF f) := by
  have hs : sizeF f = (0, 0) := by unfold sizeF; rw [if_neg (by omega), if_neg (by omega), if_neg (by omega), if_neg (by omega), if_neg (by omega)]
  unfold wrongF at h
  rw [hs, if_pos ht] at h
  have hp : (paddedF f).1 ≠ 2 := by
    intro hp
    apply h
    split
    · rfl
    · simp [hp]
  unfold paddedF at hp
  by_cases h1 : f.data.size < extraF f
  · simp [h1] at hp
  · refine ⟨by omega, fun h3 => ?_⟩
    by_cases h2 : f.data.size - extraF f < byteAt f.data 0
    · simp [h1, h3, h2] at hp
    · omega
theorem byte_get (s : ByteArray) (h : 0 < s.size) : s[0].toNat = byteAt s 0 := byteAt_eq s 0 h
theorem wrap_i64 (x : Int) (h0 : -9223372036854775808 ≤ x) (h1 : x ≤ 9223372036854775807) : IntKind.i64.wrap x = x := by
  rw [IntKind.wrap_i64]; omega
set_option maxHeartbeats 1000000 in
theorem content_spec (f : Frm) (w : World) (lab : Nat → Nat) (hf : Fr w.heap lab) (ok : f.Ok) :
    Calls Tryz.prog 134 #[frmV f] w (PostS w lab (.string (contentF f))) := by
  have hc : contentF f = (if (wrongF f).1 = 2 ∨ (f.type ≠ 0 ∧ f.type ≠ 1) then f.data else f.data.extract (extraF f) (f.data.size - (if flg f.flags 3 then byteAt f.data 0 else 0))) := rfl
  have hfit := @content_fits f
  have hxe : extraF f = (if flg f.flags 3 then 1 else 0) + (if f.type == 1 && flg f.flags 5 then 5 else 0) := rfl
  have HW := Lib.hid fun w' hf' => wrong_spec f w' lab hf' ok
  have HX := Lib.hid fun w' hf' => extra_spec f w' lab hf' ok.fl ok.ty
  obtain ⟨ty, fl, st, d⟩ := f
  obtain ⟨ht, hfl, hs0, hs1, hd⟩ := ok
  dsimp only [frmV] at *
  generalize wrongF _ = sz at *
  generalize extraF _ = x at *
  generalize contentF _ = r at *
  obtain ⟨z1, z2⟩ := sz
  have hbx := Blk.at_new w lab hf #[.int .u8 ty, .int .u8 fl, .int .u32 st, .string d] 32
  have hst0 := (Stp.refl 0 0 hf).alloc (.cells #[.int .u8 ty, .int .u8 fl, .int .u32 st, .string d] 32)
  cases gz : (z1 == 2)
  case true =>
    have hz : ((z1 : Int) == 2) = true := beqI gz
    rw [if_pos (.inl (by simpa using gz))] at hc
    subst hc
    go_enter Tryz.func134, Tryz.ntmps134
    go_wp2_with fail
    refine (HW.out _ (hf.alloc _)).mono ?_
    rintro e w1 ⟨rfl, s1⟩
    obtain ⟨c0, c1, c2, c3⟩ := (hbx.kept s1 (by omega)).cells4
    go_wp2
    go_ret
    exact ⟨rfl, hst0.trans s1⟩
  case false =>
    have hz : ((z1 : Int) == 2) = false := beqI gz
    have hz2 : z1 ≠ 2 := by simpa using gz
    by_cases hty : ty = 0 ∨ ty = 1
    · obtain ⟨q1, q2⟩ := hfit hz2 hty
      rw [if_neg (by omega)] at hc
      have hm : (((ty : Int) != 0) = false ∧ True) ∨ (((ty : Int) != 0) = true ∧ ((ty : Int) != 1) = false) := by
        rcases hty with rfl | rfl <;> simp
      clear hfit hty
      cases g3 : flg fl 3
      · have b8 := bit8_at hfl 3 (by omega) g3
        simp at b8
        rw [g3] at hc
        have HC := Lib.hid hc
        clear q2 hxe hc
        have hl2 : (x : Int) ≤ (d.size : Int) := by omega
        rcases hm with ⟨m0, -⟩ | ⟨m0, m1⟩
        all_goals
          go_enter Tryz.func134, Tryz.ntmps134
          go_wp2_with fail
          refine (HW.out _ (hf.alloc _)).mono ?_
          rintro e w1 ⟨rfl, s1⟩
          obtain ⟨c0, c1, c2, c3⟩ := (hbx.kept s1 (by omega)).cells4
          go_wp2
          go_region_held3 (fun w' => w'.cell? ⟨w.heap.size, 0, none⟩ = some (.int .u8 ty) ∧ w'.cell? ⟨w.heap.size, 1, none⟩ = some (.int .u8 fl) ∧ w'.cell? ⟨w.heap.size, 2, none⟩ = some (.int .u32 st) ∧ w'.cell? ⟨w.heap.size, 3, none⟩ = some (.string d))
            (first | (refine ⟨s3.cell ?_, s3.cell ?_, s3.cell ?_, s3.cell ?_⟩ <;> (first | assumption | (go_keep; done) | simp)) | go_keep)
            (first | (go_at_call 133; refine (HX.out _ ?_).mono ?_; exact s1.fresh; rintro e w3 ⟨rfl, s3⟩))
          all_goals
            go_wp2
            go_ret
            exact ⟨by rw [HC.out]; rfl, (hst0.trans s1).trans s3⟩
      · have b8 := bit8_at hfl 3 (by omega) g3
        simp at b8
        rw [g3] at hc
        simp only [if_true] at hc
        have h1x : 1 ≤ x := by rw [hxe]; simp [g3]
        have hq2 := q2 g3
        have h0d : 0 < d.size := by omega
        have h0i : (0 : Int) < (d.size : Int) := by omega
        have hby := byteAt_eq d 0 h0d
        have hblt := byteAt_lt d 0
        generalize byteAt d 0 = y at *
        have hwr : IntKind.i64.wrap ((d.size : Int) - y) = (d.size : Int) - y := wrap_i64 _ (by omega) (by omega)
        have hnat : ((d.size : Int) - y).toNat = d.size - y := by omega
        have hl1 : (x : Int) ≤ (d.size : Int) - y := by omega
        have hl2 : (d.size : Int) - y ≤ d.size := by omega
        have HC := Lib.hid hc
        clear q2 hxe hc
        rcases hm with ⟨m0, -⟩ | ⟨m0, m1⟩
        all_goals
          go_enter Tryz.func134, Tryz.ntmps134
          go_wp2_with fail
          refine (HW.out _ (hf.alloc _)).mono ?_
          rintro e w1 ⟨rfl, s1⟩
          obtain ⟨c0, c1, c2, c3⟩ := (hbx.kept s1 (by omega)).cells4
          go_wp2
          go_region_held3 (fun w' => w'.cell? ⟨w.heap.size, 0, none⟩ = some (.int .u8 ty) ∧ w'.cell? ⟨w.heap.size, 1, none⟩ = some (.int .u8 fl) ∧ w'.cell? ⟨w.heap.size, 2, none⟩ = some (.int .u32 st) ∧ w'.cell? ⟨w.heap.size, 3, none⟩ = some (.string d))
            (first | (refine ⟨s3.cell ?_, s3.cell ?_, s3.cell ?_, s3.cell ?_⟩ <;> (first | assumption | (go_keep; done) | simp)) | go_keep)
            (first | (go_at_call 133; refine (HX.out _ ?_).mono ?_; exact s1.fresh; rintro e w3 ⟨rfl, s3⟩))
          all_goals
            go_wp2
            go_ret
            exact ⟨by rw [HC.out]; rfl, (hst0.trans s1).trans s3⟩
    · rw [if_pos (.inr (by omega))] at hc
      subst hc
      have m0 : ((ty : Int) != 0) = true := by rw [bne_iff_ne]; omega
      have m1 : ((ty : Int) != 1) = true := by rw [bne_iff_ne]; omega
      go_enter Tryz.func134, Tryz.ntmps134
      go_wp2_with fail
      refine (HW.out _ (hf.alloc _)).mono ?_
      rintro e w1 ⟨rfl, s1⟩
      obtain ⟨c0, c1, c2, c3⟩ := (hbx.kept s1 (by omega)).cells4
      go_wp2
      go_ret
      exact ⟨rfl, hst0.trans s1⟩
end Go.Proofs.YtlbaiighiaanoaaGreatDoor

/- The contract of frame.Parse. -/
namespace Go.Proofs.YtlbaiighiaanoaaGreatDoor
open Go Go.Proofs Go.RowKit
set_option maxRecDepth 100000
set_option linter.unusedVariables false
set_option linter.unusedSimpArgs false
def zeroF : Frm := { type := 0, flags := 0, stream := 0, data := ⟨#[]⟩ }
/-- The frame that bytes begin with, its size, an error's number. -/
def parseF (s : ByteArray) : Frm × Nat × Nat :=
  if decide (s.size < 9) then (zeroF, 0, 2)
  else if decide (16384 < getN (s.extract 0 9) 0 3) then (zeroF, 0, 3)
  else if decide (s.size < 9 + getN (s.extract 0 9) 0 3) then (zeroF, 0, 2)
  else ({ type := byteAt (s.extract 0 9) 3, flags := byteAt (s.extract 0 9) 4, stream := ((getN (s.extract 0 9) 5 4 % 2147483648 : Nat) : Int), data := s.extract 9 (9 + getN (s.extract 0 9) 0 3) }, 9 + getN (s.extract 0 9) 0 3, 0)

set_option maxHeartbeats 1000000 in
theorem parse_spec (s : ByteArray) (w : World) (lab : Nat → Nat) (hf : Fr w.heap lab) (hs : s.size ≤ 9223372036854775807) :
    Calls Tryz.prog 71 #[.string s] w (PostS w lab (.tuple #[frmV (parseF s).1, .int .i64 (parseF s).2.1, .int .i64 (parseF s).2.2])) := by
  cases g : decide (s.size < 9)
  case true =>
    have hr : parseF s = (zeroF, 0, 2) := by unfold parseF; rw [g]; rfl
    rw [hr]
    clear hr
    have HP := Lib.hid fun w' => part_no s 0 9 w' (by simp at g; omega) hs (by omega) (by omega)
    go_enter Tryz.func71, Tryz.ntmps71
    go_wp2_with fail
    refine (HP.out _).mono ?_
    rintro e w1 ⟨rfl, rfl⟩
    go_wp2
    obtain ⟨c0, c1, c2, c3⟩ := Blk.cells4 (Blk.at_new w lab hf #[.int .u8 0, .int .u8 0, .int .u32 0, .string ⟨#[]⟩] 32)
    refine bodyPost_ret (v := .tuple #[frmV zeroF, .int .i64 0, .int .i64 2]) ?_ rfl ⟨rfl, (Stp.refl 0 0 hf).alloc _⟩
    simp [results, Tryz.results71, go_sem, frmV, zeroF, c0, c1, c2, c3]
  case false =>
  have HP := fun w' => part_yes s 0 9 w' (by omega) (by omega) (by simp at g; omega) hs
  rw [show (0 : Int).toNat = 0 from rfl, show ((0 : Int) + 9).toNat = 9 from rfl] at HP
  have hhs : (s.extract 0 9).size = 9 := by simp at g ⊢; omega
  have hr : parseF s = (if decide (16384 < getN (s.extract 0 9) 0 3) then (zeroF, 0, 3)
    else if decide (s.size < 9 + getN (s.extract 0 9) 0 3) then (zeroF, 0, 2)
    else ({ type := byteAt (s.extract 0 9) 3, flags := byteAt (s.extract 0 9) 4, stream := ((getN (s.extract 0 9) 5 4 % 2147483648 : Nat) : Int), data := s.extract 9 (9 + getN (s.extract 0 9) 0 3) }, 9 + getN (s.extract 0 9) 0 3, 0)) := by unfold parseF; rw [g]; rfl
  generalize s.extract 0 9 = h at *
  have HP := Lib.hid HP
  have HG := fun w' hf' => get_yes h 0 3 w' lab hf' (by omega) (by omega) (by omega) (by omega) (by omega)
  rw [show (0 : Int).toNat = 0 from rfl, show (3 : Int).toNat = 3 from rfl] at HG
  have HG5 := fun w' hf' => get_yes h 5 4 w' lab hf' (by omega) (by omega) (by omega) (by omega) (by omega)
  rw [show (5 : Int).toNat = 5 from rfl, show (4 : Int).toNat = 4 from rfl] at HG5
  have hn3 := getN_lt h 0 3
  have hn5 := getN_lt h 5 4
  generalize getN h 0 3 = n at *
  generalize getN h 5 4 = q at *
  have HG := Lib.hid HG
  have HG5 := Lib.hid HG5
  have hwn : IntKind.i64.wrap (n : Int) = n := wrap_i64 _ (by omega) (by omega)
  have hb0 := Blk.at_new w lab hf #[.int .u8 0, .int .u8 0, .int .u32 0, .string ⟨#[]⟩] 32
  have hst0 := (Stp.refl 0 0 hf).alloc (.cells #[.int .u8 0, .int .u8 0, .int .u32 0, .string ⟨#[]⟩] 32)
  cases g1 : decide (16384 < n)
  case true =>
    have g1' : decide ((16384 : Int) < n) = true := by simp at g1 ⊢; omega
    rw [g1, if_pos rfl] at hr
    rw [hr]
    clear hr
    go_enter Tryz.func71, Tryz.ntmps71
    go_wp2_with fail
    refine (HP.out _).mono ?_
    rintro e w1 ⟨rfl, rfl⟩
    go_wp2_with fail
    refine (HG.out _ (hf.alloc _)).mono ?_
    rintro e w1 ⟨rfl, s1⟩
    have hb1 := hb0.kept s1 (by omega)
    have f0 := hb1.free 0
    have f1 := hb1.free 1
    have f2 := hb1.free 2
    have f3 := hb1.free 3
    obtain ⟨c0, c1, c2, c3⟩ := hb1.cells4
    go_wp2
    refine bodyPost_ret (v := .tuple #[frmV zeroF, .int .i64 0, .int .i64 3]) ?_ rfl ⟨rfl, ((((hst0.trans s1).setCell _ (.inl (Nat.le_refl _))).setCell _ (.inl (Nat.le_refl _))).setCell _ (.inl (Nat.le_refl _))).setCell _ (.inl (Nat.le_refl _))⟩
    simp [results, Tryz.results71, go_sem, frmV, zeroF, c0, c1, c2, c3]
  case false =>
  have g1' : decide ((16384 : Int) < n) = false := by simp at g1 ⊢; omega
  rw [g1, if_neg (by decide)] at hr
  cases g2 : decide (s.size < 9 + n)
  case true =>
    rw [g2, if_pos rfl] at hr
    rw [hr]
    clear hr
    have HP2 := Lib.hid fun w' => part_no s 9 n w' (by simp at g2; omega) hs (by omega) (by omega)
    go_enter Tryz.func71, Tryz.ntmps71
    go_wp2_with fail
    refine (HP.out _).mono ?_
    rintro e w1 ⟨rfl, rfl⟩
    go_wp2_with fail
    refine (HG.out _ (hf.alloc _)).mono ?_
    rintro e w1 ⟨rfl, s1⟩
    go_wp2_with fail
    refine (HG5.out _ s1.fresh).mono ?_
    rintro e w2 ⟨rfl, s2⟩
    have s12 := s1.trans s2
    go_wp2_with fail
    refine (HP2.out _).mono ?_
    rintro e w3 ⟨rfl, rfl⟩
    have hb1 := hb0.kept s12 (by omega)
    have f0 := hb1.free 0
    have f1 := hb1.free 1
    have f2 := hb1.free 2
    have f3 := hb1.free 3
    obtain ⟨c0, c1, c2, c3⟩ := hb1.cells4
    go_wp2
    refine bodyPost_ret (v := .tuple #[frmV zeroF, .int .i64 0, .int .i64 2]) ?_ rfl ⟨rfl, ((((hst0.trans s12).setCell _ (.inl (Nat.le_refl _))).setCell _ (.inl (Nat.le_refl _))).setCell _ (.inl (Nat.le_refl _))).setCell _ (.inl (Nat.le_refl _))⟩
    simp [results, Tryz.results71, go_sem, frmV, zeroF, c0, c1, c2, c3]
  case false =>
    rw [g2, if_neg (by decide)] at hr
    have hs9 : 9 + n ≤ s.size := by simpa using g2
    have HP2 := fun w' => part_yes s 9 n w' (by omega) (by omega) (by omega) hs
    rw [show (9 : Int).toNat = 9 from rfl, show ((9 : Int) + n).toNat = 9 + n by omega] at HP2
    have HP2 := Lib.hid HP2
    rw [hr]
    clear hr g g2
    have b3 := byteAt_eq h 3 (by omega)
    have b4 := byteAt_eq h 4 (by omega)
    have i3 : (3 : Int) < (h.size : Int) := by omega
    have i4 : (4 : Int) < (h.size : Int) := by omega
    have hq : IntKind.u32.wrap (q : Int) = q := wraps_u32 _ (by omega) (by omega)
    have hm := and31 q (by omega)
    have hadd : IntKind.i64.wrap (9 + (n : Int)) = 9 + n := wrap_i64 _ (by omega) (by omega)
    generalize byteAt h 3 = ty at *
    generalize byteAt h 4 = fl at *
    generalize s.extract 9 (9 + n) = d at *
    go_enter Tryz.func71, Tryz.ntmps71
    go_wp2_with fail
    refine (HP.out _).mono ?_
    rintro e w1 ⟨rfl, rfl⟩
    go_wp2_with fail
    refine (HG.out _ (hf.alloc _)).mono ?_
    rintro e w1 ⟨rfl, s1⟩
    go_wp2_with fail
    refine (HG5.out _ s1.fresh).mono ?_
    rintro e w2 ⟨rfl, s2⟩
    have s12 := s1.trans s2
    go_wp2_with fail
    refine (HP2.out _).mono ?_
    rintro e w3 ⟨rfl, rfl⟩
    have hb1 := hb0.kept s12 (by omega)
    have f0 := hb1.free 0
    have f1 := hb1.free 1
    have f2 := hb1.free 2
    have f3 := hb1.free 3
    obtain ⟨c0, c1, c2, c3⟩ := hb1.cells4
    go_wp2
    go_region
    all_goals
      go_wp2
      refine bodyPost_ret (v := .tuple #[frmV { type := ty, flags := fl, stream := ((q % 2147483648 : Nat) : Int), data := d }, .int .i64 ((9 + n : Nat) : Int), .int .i64 0]) ?_ rfl ⟨rfl, ((((hst0.trans s12).setCell _ (.inl (Nat.le_refl _))).setCell _ (.inl (Nat.le_refl _))).setCell _ (.inl (Nat.le_refl _))).setCell _ (.inl (Nat.le_refl _))⟩
      simp [results, Tryz.results71, go_sem, frmV, zeroF, c0, c1, c2, c3]
end Go.Proofs.YtlbaiighiaanoaaGreatDoor

/- Contracts of strings.HasPrefix, CutPrefix; of feed.begin, fail. -/
namespace Go.Proofs.YtlbaiighiaanoaaGreatDoor
open Go Go.Proofs Go.RowKit
set_option maxRecDepth 100000
set_option linter.unusedVariables false
set_option linter.unusedSimpArgs false
/-- Does t begin with p? -/
def begins (t p : ByteArray) : Bool := decide (p.size ≤ t.size) && ((t.extract 0 p.size).toList == p.toList)
theorem hasPrefix_spec (t p : ByteArray) (w : World) (ht : t.size ≤ 9223372036854775807) (hp : p.size ≤ 9223372036854775807) :
    Calls Tryz.prog 92 #[.string t, .string p] w (PostV w (.bool (begins t p))) := by
  cases g : decide (p.size ≤ t.size)
  · have hb : begins t p = false := by unfold begins; rw [g]; rfl
    rw [hb]
    have g' : decide ((p.size : Int) ≤ t.size) = false := by simp at g ⊢; omega
    go_enter Tryz.func92, Tryz.ntmps92
    go_wp2
    go_ret
    exact ⟨rfl, rfl⟩
  · have hb : begins t p = ((t.extract 0 p.size).toList == p.toList) := by unfold begins; rw [g]; rfl
    rw [hb]
    have g' : decide ((p.size : Int) ≤ t.size) = true := by simp at g ⊢; omega
    have g2 : (p.size : Int) ≤ t.size := by simp at g; omega
    go_enter Tryz.func92, Tryz.ntmps92
    go_wp2
    go_ret
    exact ⟨rfl, rfl⟩
/-- What is left behind a beginning. -/
def cutF (t p : ByteArray) : ByteArray := if begins t p then t.extract p.size t.size else t
theorem cutPrefix_spec (t p : ByteArray) (w : World) (ht : t.size ≤ 9223372036854775807) (hp : p.size ≤ 9223372036854775807) :
    Calls Tryz.prog 91 #[.string t, .string p] w (PostV w (.tuple #[.string (cutF t p), .bool (begins t p)])) := by
  cases g : decide (p.size ≤ t.size)
  · have hb : begins t p = false := by unfold begins; rw [g]; rfl
    have hc : cutF t p = t := by unfold cutF; rw [hb]; rfl
    rw [hb, hc]
    have g' : decide ((p.size : Int) ≤ t.size) = false := by simp at g ⊢; omega
    go_enter Tryz.func91, Tryz.ntmps91
    go_wp2
    go_ret2
    exact ⟨rfl, rfl⟩
  · have hb : begins t p = ((t.extract 0 p.size).toList == p.toList) := by unfold begins; rw [g]; rfl
    have hc : cutF t p = if begins t p then t.extract p.size t.size else t := rfl
    have g' : decide ((p.size : Int) ≤ t.size) = true := by simp at g ⊢; omega
    have g2 : (p.size : Int) ≤ t.size := by simp at g; omega
    cases ge : ((t.extract 0 p.size).toList == p.toList)
    all_goals
      rw [hb, ge] at hc
      rw [hb, ge, hc]
      go_enter Tryz.func91, Tryz.ntmps91
      go_wp2
      go_ret2
      first | exact ⟨rfl, rfl⟩ | exact ⟨by simp; done, rfl⟩ | (refine ⟨?_, rfl⟩; trace_state; simp)
def prefaceB : ByteArray := ⟨#[80, 82, 73, 32, 42, 32, 72, 84, 84, 80, 47, 50, 46, 48, 13, 10, 13, 10, 83, 77, 13, 10, 13, 10]⟩
/-- 'begin': the feed behind it, and whether the preface may be there. -/
def beginF (s : Feed) : Feed × Bool :=
  if s.want = false then (s, true)
  else if begins s.held prefaceB then ({ s with held := s.held.extract 24 s.held.size, want := false }, true)
  else (s, begins prefaceB s.held)
def PostFeed (w : World) (lab : Nat → Nat) (m p : Nat) (s : Feed) (v : Value) (e : Ending) (w' : World) : Prop := e = .returned v ∧ FeedAt w'.heap lab m p s ∧ Stp m (m + 1) w lab w' lab
theorem feedFail_spec (w : World) (lab : Nat → Nat) (hf : Fr w.heap lab) (m p : Nat) (s : Feed) (code : Int) (h : FeedAt w.heap lab m p s) :
    Calls Tryz.prog 70 #[ptr p, .int .u32 code] w (PostFeed w lab m p { s with held := ⟨#[]⟩, down := true } (.int .u32 code)) := by
  have c0 := h.cell 0 rfl
  have c1 := h.cell 1 rfl
  have c2 := h.cell 2 rfl
  have f0 := h.free 0
  have f1 := h.free 1
  have f2 := h.free 2
  have h1 := h.store 0 (.string ⟨#[]⟩)
  have h2 := h1.store 2 (.bool true)
  have s1 := h.storeStp hf 0 (.string ⟨#[]⟩)
  have s2 := s1.trans (h1.storeStp s1.fresh 2 (.bool true))
  go_enter Tryz.func70, Tryz.ntmps70
  go_wp2
  go_ret
  exact ⟨rfl, h2, s2⟩
theorem feedBegin_spec (w : World) (lab : Nat → Nat) (hf : Fr w.heap lab) (m p : Nat) (s : Feed) (h : FeedAt w.heap lab m p s) (hl : s.held.size ≤ 9223372036854775807) :
    Calls Tryz.prog 69 #[ptr p] w (PostFeed w lab m p (beginF s).1 (.bool (beginF s).2)) := by
  obtain ⟨held, want, down⟩ := s
  have c0 := h.cell 0 rfl
  have c1 := h.cell 1 rfl
  have f0 := h.free 0
  have f1 := h.free 1
  have hps : prefaceB.size = 24 := rfl
  cases want
  · go_enter Tryz.func69, Tryz.ntmps69
    go_wp2
    go_ret
    exact ⟨rfl, h, Stp.refl _ _ hf⟩
  · have HC := Lib.hid fun w' => cutPrefix_spec held prefaceB w' hl (by omega)
    have HH := Lib.hid fun w' => hasPrefix_spec prefaceB held w' (by omega) hl
    cases g : begins held prefaceB
    · have hr : beginF ⟨held, true, down⟩ = (⟨held, true, down⟩, begins prefaceB held) := by show (if true = false then _ else _) = _; rw [if_neg (by decide), if_neg (by rw [g]; decide)]
      have hc : cutF held prefaceB = held := by unfold cutF; rw [g]; rfl
      rw [hr]
      rw [g, hc] at HC
      generalize begins prefaceB held = bb at *
      have s1 := h.storeStp hf 0 (.string held)
      go_enter Tryz.func69, Tryz.ntmps69
      go_wp2_with fail
      refine (HC.out _).mono ?_
      rintro e w1 ⟨rfl, rfl⟩
      go_wp2_with fail
      refine (HH.out _).mono ?_
      rintro e w1 ⟨rfl, rfl⟩
      go_wp2
      go_ret
      exact ⟨rfl, h, Stp.refl _ _ hf⟩
    · have hr : beginF ⟨held, true, down⟩ = (⟨held.extract 24 held.size, false, down⟩, true) := by show (if true = false then _ else _) = _; rw [if_neg (by decide), if_pos g]
      have hc : cutF held prefaceB = held.extract 24 held.size := by unfold cutF; rw [g]; rfl
      rw [hr]
      rw [g, hc] at HC
      generalize held.extract 24 held.size = r at *
      have h1 := h.store 0 (.string r)
      have h2 := h1.store 1 (.bool false)
      have s1 := h.storeStp hf 0 (.string r)
      have s2 := s1.trans (h1.storeStp s1.fresh 1 (.bool false))
      go_enter Tryz.func69, Tryz.ntmps69
      go_wp2_with fail
      refine (HC.out _).mono ?_
      rintro e w1 ⟨rfl, rfl⟩
      go_wp2
      go_ret
      exact ⟨rfl, h2, s2⟩
end Go.Proofs.YtlbaiighiaanoaaGreatDoor

/- The contract of feed.Add. -/
namespace Go.Proofs.YtlbaiighiaanoaaGreatDoor
open Go Go.Proofs Go.RowKit
set_option maxRecDepth 100000
set_option linter.unusedVariables false
set_option linter.unusedSimpArgs false
theorem Owns.alloc {w : World} {base : Nat} {e : TypeId} {size : Nat} {v : Value} {n : Nat} {xs : List Value} (h : Owns w.heap base e size v n xs) (o : Obj) : Owns (w.alloc o).heap base e size v n xs := h.keep fun k hk => Below.heap_alloc _ _ _ (h.lt k hk).2
def frmCells (f : Frm) : List Value := [.int .u8 f.type, .int .u8 f.flags, .int .u32 f.stream, .string f.data]
theorem EFrm : ElemI Tryz.prog 40 32 4 24 (.agg #[.int .u8 0, .int .u8 0, .int .u32 0, .string ⟨#[]⟩]) := ⟨Tryz.underlying40, info_parts (by kernel_rfl), rfl, by decide⟩
/-- The frames of bytes: those that are whole; 6 where one is too long; what is left. -/
def framesF : Nat → ByteArray → List Frm × Nat × ByteArray
  | 0, h => ([], 0, h)
  | n + 1, h =>
    if ((parseF h).2.2 == 3) = true then ([], 6, h)
    else if ((parseF h).2.2 != 0) = true then ([], 0, h)
    else ((parseF h).1 :: (framesF n (h.extract (parseF h).2.1 h.size)).1, (framesF n (h.extract (parseF h).2.1 h.size)).2)
def feedDown (s : Feed) : Feed := { s with held := ⟨#[]⟩, down := true }
def addEnd (s : Feed) : List Frm × Nat × Feed :=
  if (framesF (s.held.size + 1) s.held).2.1 = 6 then ((framesF (s.held.size + 1) s.held).1, 6, feedDown s)
  else ((framesF (s.held.size + 1) s.held).1, 0, { s with held := (framesF (s.held.size + 1) s.held).2.2 })
/-- 'Add': the frames, the code, the feed. -/
def addF (s : Feed) (b : ByteArray) : List Frm × Nat × Feed :=
  if s.down then ([], 0, s)
  else if (beginF { s with held := s.held ++ b }).2 then
    (if (beginF { s with held := s.held ++ b }).1.want then ([], 0, (beginF { s with held := s.held ++ b }).1) else addEnd (beginF { s with held := s.held ++ b }).1)
  else ([], 1, feedDown (beginF { s with held := s.held ++ b }).1)
theorem parse_size (s : ByteArray) (h : ((parseF s).2.2 != 0) = false) : 9 ≤ (parseF s).2.1 ∧ (parseF s).2.1 ≤ s.size := by
  unfold parseF at h ⊢
  split
  · simp_all
  · split
    · simp_all
    · split
      · simp_all
      · simp_all
def PostAdd (w : World) (lab : Nat → Nat) (m p : Nat) (r : List Frm × Nat × Feed) (e : Ending) (w' : World) : Prop :=
  ∃ A cap, e = .returned (.tuple #[.slice A r.1.length cap, .int .u32 r.2.1]) ∧ Owns w'.heap w.heap.size 32 4 (.slice A r.1.length cap) r.1.length (r.1.flatMap frmCells) ∧ FeedAt w'.heap lab m p r.2.2 ∧ Stp m (m + 1) w lab w' lab
def strLen (w : World) (p : Nat) : Nat := match w.cell? ⟨p, 0, none⟩ with | some (.string h) => h.size | _ => 0
theorem strLen_of {w : World} {p : Nat} {h : ByteArray} (hc : w.cell? ⟨p, 0, none⟩ = some (.string h)) : strLen w p = h.size := by unfold strLen; rw [hc]
set_option maxHeartbeats 1000000 in
theorem feedAdd_spec (w : World) (lab : Nat → Nat) (hf : Fr w.heap lab) (m p : Nat) (hm : 0 < m) (s : Feed) (b : ByteArray) (h : FeedAt w.heap lab m p s) (hl : s.held.size + b.size ≤ 1099511627776) :
    Calls Tryz.prog 43 #[ptr p, .string b] w (PostAdd w lab m p (addF s b)) := by
  obtain ⟨held, want, down⟩ := s
  have c0 := h.cell 0 rfl
  have c2 := h.cell 2 rfl
  have f0 := h.free 0
  have ho : Owns w.heap w.heap.size 32 4 (.slice none 0 0) 0 [] := ⟨rfl, .inl ⟨rfl, rfl⟩⟩
  cases down
  case true =>
    show Calls _ _ _ _ (PostAdd w lab m p ([], 0, ⟨held, want, true⟩))
    go_enter Tryz.func43, Tryz.ntmps43
    go_wp2
    go_ret2
    exact ⟨none, 0, rfl, ho, h, Stp.refl _ _ hf⟩
  case false =>
  have hr : addF ⟨held, want, false⟩ b = (if (beginF ⟨held ++ b, want, false⟩).2 then
    (if (beginF ⟨held ++ b, want, false⟩).1.want then ([], 0, (beginF ⟨held ++ b, want, false⟩).1) else addEnd (beginF ⟨held ++ b, want, false⟩).1)
    else ([], 1, feedDown (beginF ⟨held ++ b, want, false⟩).1)) := rfl
  dsimp only at hl
  have hsz : (held ++ b).size = held.size + b.size := by simp
  have h1 := h.store 0 (.string (held ++ b))
  have hF1 : FeedAt (w.setCell ⟨p, 0, none⟩ (.string (held ++ b))).heap lab m p ⟨held ++ b, want, false⟩ := h1
  have s1 := h.storeStp hf 0 (.string (held ++ b))
  have HB := feedBegin_spec _ lab s1.fresh m p _ hF1 (by simp; omega)
  have hbs : (beginF ⟨held ++ b, want, false⟩).1.held.size ≤ 1099511627776 := by
    unfold beginF
    split
    · simp; omega
    · split
      · simp; omega
      · simp; omega
  generalize beginF ⟨held ++ b, want, false⟩ = q at *
  obtain ⟨s2, ok⟩ := q
  dsimp only at hr HB hbs
  rw [hr]
  have HB := Lib.hid HB
  cases ok
  case false =>
    rw [if_neg (by decide)]
    go_enter Tryz.func43, Tryz.ntmps43
    go_wp2_with fail
    refine HB.out.mono ?_
    rintro e w2 ⟨rfl, hF2, s2'⟩
    go_wp2_with fail
    refine (feedFail_spec w2 lab s2'.fresh m p s2 1 hF2).mono ?_
    rintro e w3 ⟨rfl, hF3, s3⟩
    go_wp2
    go_ret2
    have s4 := (s1.trans s2').trans s3
    exact ⟨none, 0, rfl, ⟨rfl, .inl ⟨rfl, rfl⟩⟩, hF3, s4⟩
  case true =>
  rw [if_pos rfl]
  obtain ⟨held2, want2, down2⟩ := s2
  cases want2
  case true =>
    rw [if_pos rfl]
    go_enter Tryz.func43, Tryz.ntmps43
    go_wp2_with fail
    refine HB.out.mono ?_
    rintro e w2 ⟨rfl, hF2, s2'⟩
    have d1 := hF2.cell 1 rfl
    go_wp2
    go_loopw [6] (fun v wr => v = .slice none 0 0 ∧ wr = w2) (fun _ _ => 0)
    case atStart => exact ⟨rfl, rfl⟩
    case round =>
      obtain ⟨rfl, rfl⟩ := hrel
      go_wp2
      go_ret2
      exact ⟨none, 0, rfl, ⟨rfl, .inl ⟨rfl, rfl⟩⟩, hF2, s1.trans s2'⟩
  case false =>
    show Calls _ _ _ _ (PostAdd w lab m p (addEnd ⟨held2, false, down2⟩))
    have hae : addEnd ⟨held2, false, down2⟩ = (if (framesF (held2.size + 1) held2).2.1 = 6 then ((framesF (held2.size + 1) held2).1, 6, feedDown ⟨held2, false, down2⟩)
      else ((framesF (held2.size + 1) held2).1, 0, ⟨(framesF (held2.size + 1) held2).2.2, false, down2⟩)) := rfl
    generalize addEnd ⟨held2, false, down2⟩ = R at *
    obtain ⟨FR, hFR⟩ : ∃ FR, framesF (held2.size + 1) held2 = FR := ⟨_, rfl⟩
    rw [hFR] at hae
    have HFR := Lib.hid hFR.symm
    have HAE := Lib.hid hae
    clear hae hFR
    have hB := Lib.hid h1
    clear h1
    go_enter Tryz.func43, Tryz.ntmps43
    go_wp2_with fail
    refine HB.out.mono ?_
    rintro e w2 ⟨rfl, hF2, s2'⟩
    have s12 := s1.trans s2'
    clear s1 s2'
    go_wp2
    go_loopw [6] (fun v wr => ∃ (k : Nat) (done : List Frm) (hh : ByteArray), FR = (done ++ (framesF (k + 1) hh).1, (framesF (k + 1) hh).2) ∧ hh.size ≤ k ∧ done.length + hh.size ≤ held2.size ∧ FeedAt wr.heap lab m p ⟨hh, false, down2⟩ ∧
      (∃ A cap, v = .slice A done.length cap) ∧ Owns wr.heap w.heap.size 32 4 v done.length (done.flatMap frmCells) ∧ Stp m (m + 1) w lab wr lab) (fun _ wr => strLen wr p)
    case atStart => exact ⟨held2.size, [], held2, HFR.out, Nat.le_refl _, by simp, hF2, ⟨none, 0, rfl⟩, ⟨rfl, .inl ⟨rfl, rfl⟩⟩, s12⟩
    case round =>
      obtain ⟨k, done, hh, hfr, hk, hdn, hF, ⟨A, cap, rfl⟩, ho, st⟩ := hrel
      have hun : framesF (k + 1) hh = (if ((parseF hh).2.2 == 3) = true then ([], 6, hh) else if ((parseF hh).2.2 != 0) = true then ([], 0, hh)
        else ((parseF hh).1 :: (framesF k (hh.extract (parseF hh).2.1 hh.size)).1, (framesF k (hh.extract (parseF hh).2.1 hh.size)).2)) := rfl
      rw [hun] at hfr
      clear hun
      have HP := Lib.hid fun w' hf' => parse_spec hh w' lab hf' (by omega)
      have hps := parse_size hh
      have hmu := strLen_of (hF.cell 0 rfl)
      generalize parseF hh = pr at *
      obtain ⟨⟨ty, fl, sm, d⟩, n, e⟩ := pr
      dsimp only [frmV] at *
      have d0 := hF.cell 0 rfl
      have d1 := hF.cell 1 rfl
      have HFR := Lib.hid hfr
      clear hfr
      cases g3 : (e == 3)
      case true =>
        have e3 : ((e : Int) == 3) = true := beqI g3
        go_wp2_with fail
        refine (HP.out _ st.fresh).mono ?_
        rintro e' w3 ⟨rfl, s3⟩
        have hF3 := FeedAt.kept hF s3 (by omega)
        have st3 := st.thenAny s3
        have ho3 := ho.kept s3 (fun _ _ _ => by omega)
        go_wp2_with fail
        refine (feedFail_spec _ lab (st3.fresh.alloc _) m p ⟨hh, false, down2⟩ 6 (Blk.alloc hF3 _)).mono ?_
        rintro e' w4 ⟨rfl, hF4, s4⟩
        go_wp2
        go_ret2
        have hR : R = (done, 6, feedDown ⟨hh, false, down2⟩) := by
          rw [HAE.out, HFR.out]; simp only [g3, if_true, List.append_nil]; rfl
        rw [hR]
        exact ⟨A, cap, rfl, (ho3.keep fun k hk => Below.heap_alloc _ _ _ (ho3.lt k hk).2).kept s4 (fun k h1 _ => by rw [hf k h1]; omega), hF4, (st3.alloc _).trans s4⟩
      case false =>
        have e3 : ((e : Int) == 3) = false := beqI g3
        cases g0 : (e != 0)
        case true =>
          have e0 : ((e : Int) != 0) = true := bneI g0
          go_wp2_with fail
          refine (HP.out _ st.fresh).mono ?_
          rintro e' w3 ⟨rfl, s3⟩
          have hF3 := FeedAt.kept hF s3 (by omega)
          have st3 := st.thenAny s3
          have ho3 := ho.kept s3 (fun _ _ _ => by omega)
          go_wp2
          go_ret2
          have hR : R = (done, 0, ⟨hh, false, down2⟩) := by
            rw [HAE.out, HFR.out]; simp [g3, g0]
          rw [hR]
          exact ⟨A, cap, rfl, ho3.keep fun k hk => Below.heap_alloc _ _ _ (ho3.lt k hk).2, Blk.alloc hF3 _, st3.alloc _⟩
        case false =>
          have e0 : ((e : Int) != 0) = false := bneI g0
          obtain ⟨hn9, hnh⟩ := hps g0
          obtain ⟨k, rfl⟩ : ∃ j, k = j + 1 := ⟨k - 1, by omega⟩
          have hni : (n : Int) ≤ (hh.size : Int) := by omega
          go_wp2_with fail
          refine (HP.out _ st.fresh).mono ?_
          rintro e' w3 ⟨rfl, s3⟩
          have hF3 := FeedAt.kept hF s3 (by omega)
          have st3 := st.thenAny s3
          have ho3 := ho.kept s3 (fun _ _ _ => by omega)
          have hone : ∀ u ∈ (#[Value.int .u8 (ty : Int), Value.int .u8 (fl : Int), Value.int .u32 sm, Value.string d] : Array Value).toList, u.oneCell' = true := by intro u hu; simp at hu; rcases hu with rfl | rfl | rfl | rfl <;> rfl
          have hmx : done.length + 1 ≤ maxLen := by unfold maxLen; omega
          go_wp2_with (refine wp_appOwn rfl _ _ 40 40 rfl EFrm (.inr ⟨_, Tryz.underlying40⟩) rfl ((ho3.alloc _).alloc _) rfl (Src.ofBlock Tryz.prog (heap_new_at ?_) (m := 1) rfl hone) hmx ?_ ?_ ?_; exact (World.size_alloc _ _).symm; omega; (refine Nat.le_trans st3.size ?_; simp only [World.size_alloc]; omega); intro A2 cap2 w4 ho4 hgr4; have s34 := (((Stp.refl 0 1 st3.fresh).alloc _).alloc _).grown hgr4 (fun k hk => .inr ⟨Nat.zero_le _, (by rw [hf k (ho3.lt k hk).1]; exact Nat.one_pos)⟩); have hF4 := Blk.kept hF3 s34 (by omega); have d40 := hF4.cell 0 rfl; have fz40 := hF4.free 0)
          have st4 := ((st3.alloc _).alloc _).grown hgr4 (fun k hk => .inl (ho3.lt k hk).1)
          go_roundw
          case rel =>
            refine ⟨k, done ++ [⟨ty, fl, sm, d⟩], hh.extract n hh.size, ?_, ?_, ?_, hF4.store 0 (.string (hh.extract n hh.size)), ⟨A2, cap2, by rw [List.length_append]; rfl⟩, ?_, (st4.trans (hF4.storeStp st4.fresh 0 _))⟩
            · rw [HFR.out]; simp [g3, g0]
            · simp; omega
            · simp; omega
            · rw [List.length_append, List.flatMap_append]
              refine (Owns.keep ho4 fun k hk => Below.heap_setCell _ _ _ _ ?_)
              intro he
              have h5 := (ho4.lt k hk).1
              have h6 := Blk.lt h
              simp only [] at he
              omega
          case measure =>
            rw [hmu, strLen_of ((hF4.store 0 (.string (hh.extract n hh.size))).cell 0 rfl)]
            simp; omega
end Go.Proofs.YtlbaiighiaanoaaGreatDoor
