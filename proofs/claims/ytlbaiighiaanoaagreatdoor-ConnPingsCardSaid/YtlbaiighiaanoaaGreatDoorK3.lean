/- Contracts and plain laws for Pings, part 3; no conditions but those that each theorem states. -/
import Derived.Test.YtlbaiighiaanoaaGreatDoorK2
import Derived.Deep.RegionHeld3
import Derived.Deep.RegionLaw
import Derived.Deep.DeepCutAuto
import Derived.Deep.QuietTactic
import Derived.BigQuiet
/- The contract of num.Put. -/
namespace Go.Proofs.YtlbaiighiaanoaaGreatDoor
open Go Go.Proofs Go.RowKit
set_option maxRecDepth 100000
set_option linter.unusedVariables false
set_option linter.unusedSimpArgs false
theorem E46 : ElemI Tryz.prog 46 5 1 1 (.int .u8 0) := ⟨Tryz.underlying46, info_parts (by kernel_rfl), rfl, by decide⟩
theorem byteV_one (l : List UInt8) : ∀ u ∈ l.map byteV, u.oneCell' = true := by
  intro u hu
  obtain ⟨c, _, rfl⟩ := List.mem_map.1 hu
  rfl
/-- The result is a new list of bytes. -/
def PostBytes (w : World) (lab : Nat → Nat) (l : List UInt8) (e : Ending) (w' : World) : Prop :=
  ∃ A cap, e = .returned (.slice A l.length cap) ∧ Owns w'.heap w.heap.size 5 1 (.slice A l.length cap) l.length (l.map byteV) ∧ Stp 0 0 w lab w' lab
theorem byte_at (n j : Nat) : ((n : Int) / 2 ^ (8 * j) % 256) = ((UInt8.ofNat (n / 256 ^ j)).toNat : Int) := by
  have h : (2 : Int) ^ (8 * j) = ((256 ^ j : Nat) : Int) := by
    rw [show (256 : Nat) = 2 ^ 8 from rfl, ← Nat.pow_mul]
    simp
  rw [UInt8.toNat_ofNat', h]
  omega
theorem front_le {front l : List UInt8} {k sz n : Nat} (h : front ++ beBytes k n = l ++ beBytes sz n) : front.length + k = l.length + sz := by
  have := congrArg List.length h
  simpa [beBytes_length] using this
theorem put_spec (b : Value) (l : List UInt8) (n : Nat) (size : Int) (w : World) (lab : Nat → Nat) (hf : Fr w.heap lab) (hb : Owns w.heap 0 5 1 b l.length (l.map byteV)) (hl : l.length ≤ 140737488355000)
    (hn : n < 18446744073709551616) (h0 : 0 ≤ size) (h8 : size ≤ 8) :
    Calls Tryz.prog 68 #[b, .int .u64 n, .int .i64 size] w (PostBytes w lab (l ++ beBytes size.toNat n)) := by
  obtain ⟨sz, rfl⟩ := Int.eq_ofNat_of_zero_le h0
  rw [Int.toNat_natCast]
  have hshape : ∃ A c, b = .slice A l.length c := by
    rcases hb.2 with ⟨rfl, h⟩ | ⟨g, cap, cur, rfl, _⟩
    · exact ⟨none, 0, by rw [h]⟩
    · exact ⟨_, _, rfl⟩
  obtain ⟨A, c, rfl⟩ := hshape
  have a1 : max (sz : Int) 0 = sz := by omega
  have a2 : min (sz : Int) 8 = sz := by omega
  generalize hL : l.length = L at *
  have HL := Lib.hid hL
  clear hL
  go_enter Tryz.func68, Tryz.ntmps68
  go_wp2_with (first | (refine wp_make rfl _ _ 46 rfl E46 (n := L) (m := L + 8) rfl rfl rfl (by omega) (by omega) (by omega) (by unfold maxLen; omega) w.heap.size (Nat.le_refl _) ?_; intro g w1 hg ho hgr hlt) | (at_builtin; fail) | (refine wp_copy rfl _ _ 46 46 rfl E46 (n := L) rfl ho rfl (Src.ofRow Tryz.prog (Owns.to (hb.keep fun k hk => hgr.block k (hb.lt k hk).2 (by simp))) (byteV_one l)) (Nat.le_refl _) ?_; intro w2 ho2 hgr2))
  have hst : Stp 0 0 w lab w2 lab := ((Stp.refl 0 0 hf).grown hgr (by simp)).grown hgr2 (fun k hk => .inl (by cases hk; exact hg))
  rw [List.drop_of_length_le (by rw [ho.1, List.length_map, HL.out]; omega), List.append_nil] at ho2
  go_loopw [7, 8] (fun v i wr => ∃ (k : Nat) (front : List UInt8), k ≤ sz ∧ i = .int .i64 ((k : Int) - 1) ∧ front ++ beBytes k n = l ++ beBytes sz n ∧ (∃ A cap, v = .slice A front.length cap) ∧ Owns wr.heap w.heap.size 5 1 v front.length (front.map byteV) ∧ Stp 0 0 w lab wr lab) (fun _ i _ => (intOf i + 1).toNat)
  case atStart => exact ⟨sz, l, Nat.le_refl _, rfl, rfl, ⟨_, _, by rw [HL.out]⟩, by rw [HL.out]; exact ho2, hst⟩
  case round =>
    obtain ⟨k, front, hk, rfl, hfr, ⟨A', cap', rfl⟩, ho, hst⟩ := hrel
    have hfl := front_le hfr
    have hfb : front.length ≤ 140737488355010 := by have := HL.out; omega
    clear hfl
    rcases Nat.eq_zero_or_pos k with rfl | hpos
    · rw [show (((0 : Nat) : Int) - 1) = -1 from rfl]
      go_wp2
      go_ret
      have he : front = l ++ beBytes sz n := by simpa [beBytes] using hfr
      subst he
      exact ⟨A', cap', rfl, ho, hst⟩
    · obtain ⟨j, rfl⟩ : ∃ j, k = j + 1 := ⟨k - 1, by omega⟩
      rw [show (((j + 1 : Nat) : Int) - 1) = (j : Int) by omega]
      have HF := Lib.hid hfr
      clear hfr
      go_wp2_with (refine wp_appOwn rfl _ _ 46 46 rfl E46 (.inr ⟨_, Tryz.underlying46⟩) rfl (ho.keep fun k hk => Below.heap_alloc _ _ _ (ho.lt k hk).2) rfl (Src.ofBlock Tryz.prog (heap_alloc_new _ _) (m := 1) rfl (by intro u hu; simp at hu; subst hu; rfl)) (by unfold maxLen; omega) (by omega) (by have := hst.size; simp; omega) ?_; intro A2 cap2 w3 ho3 hgr3)
      have hst3 : Stp 0 0 w lab w3 lab := (hst.alloc _).grown hgr3 (fun k hk => .inl (ho.lt k hk).1)
      go_roundw
      case rel =>
        refine ⟨j, front ++ [UInt8.ofNat (n / 256 ^ j)], by omega, by go_num, ?_, ⟨A2, cap2, by rw [List.length_append]; rfl⟩, ?_, hst3⟩
        · rw [← HF.out]; simp [beBytes]
        · rw [List.length_append, List.map_append]
          simpa [byteV, byte_at] using ho3
      case measure => simp [intOf]
/-- 'Put' with the length and the base that the caller names. -/
def PostPut (w : World) (lab : Nat → Nat) (base N : Nat) (l : List UInt8) (e : Ending) (w' : World) : Prop :=
  ∃ A cap, e = .returned (.slice A N cap) ∧ Owns w'.heap base 5 1 (.slice A N cap) N (l.map byteV) ∧ Stp 0 0 w lab w' lab
theorem Owns.down {H : Array Obj} {base base' : Nat} {e : TypeId} {size : Nat} {v : Value} {n : Nat} {xs : List Value} (h : Owns H base e size v n xs) (hb : base' ≤ base) : Owns H base' e size v n xs := by
  refine ⟨h.1, ?_⟩
  rcases h.2 with h2 | ⟨g, cap, cur, rfl, hg, r⟩
  · exact .inl h2
  · exact .inr ⟨g, cap, cur, rfl, Nat.le_trans hb hg, r⟩
theorem heap_new_at {w : World} {o : Obj} {n : Nat} (hn : n = w.heap.size) : (w.alloc o).heap[n]? = some o := by subst hn; exact heap_alloc_new w o
theorem Owns.cellOld {w w' : World} {base : Nat} {e : TypeId} {size : Nat} {v : Value} {n : Nat} {xs : List Value} (h : Owns w.heap base e size v n xs) (hg : w.grownBy w' v.ownBlock) {p : Addr} {u : Value} (hc : w.cell? p = some u) (hp : p.block < base) : w'.cell? p = some u :=
  hg.cell hc (fun e => by have := (h.lt _ e.symm).1; omega)
theorem put_at (base N : Nat) (b : Value) (l : List UInt8) (n : Nat) (size : Int) (w : World) (lab : Nat → Nat) (hf : Fr w.heap lab) (hbase : base ≤ w.heap.size) {k : Nat} (hb : Owns w.heap 0 5 1 b k (l.map byteV)) (hl : l.length ≤ 140737488355000)
    (hn : n < 18446744073709551616) (h0 : 0 ≤ size) (h8 : size ≤ 8) (hN : N = l.length + size.toNat) :
    Calls Tryz.prog 68 #[b, .int .u64 n, .int .i64 size] w (PostPut w lab base N (l ++ beBytes size.toNat n)) := by
  have hk : k = l.length := by have := hb.1; simpa using this.symm
  subst hk
  refine (put_spec b l n size w lab hf hb hl hn h0 h8).mono ?_
  rintro e w' ⟨A, cap, rfl, ho, hs⟩
  have : (l ++ beBytes size.toNat n).length = N := by rw [hN, List.length_append, beBytes_length]
  rw [this] at ho ⊢
  exact ⟨A, cap, rfl, ho.down hbase, hs⟩
end Go.Proofs.YtlbaiighiaanoaaGreatDoor

/- Contracts of package frame: what is made. -/
namespace Go.Proofs.YtlbaiighiaanoaaGreatDoor
open Go Go.Proofs Go.RowKit
set_option maxRecDepth 100000
set_option linter.unusedVariables false
set_option linter.unusedSimpArgs false
def fourB (n : Nat) : ByteArray := ⟨(beBytes 4 n).toArray⟩
theorem fourB_size (n : Nat) : (fourB n).size = 4 := by simp [fourB, ByteArray.size, beBytes]
theorem four_spec (n : Nat) (w : World) (lab : Nat → Nat) (hf : Fr w.heap lab) (hn : n < 4294967296) :
    Calls Tryz.prog 110 #[.int .u32 n] w (PostS w lab (.string (fourB n))) := by
  go_enter Tryz.func110, Tryz.ntmps110
  go_wp2_with fail
  refine (put_spec (.slice none 0 0) [] n 4 w lab hf (Row.nil _ lab 0 _ _).1 (by simp) (by omega) (by omega) (by omega)).mono ?_
  rintro e w1 ⟨A, cap, rfl, ho, hst⟩
  go_wp2_with (refine wp_convBS rfl _ _ 9 rfl Tryz.underlying46 Tryz.underlying9 Tryz.underlying5 rfl ho ?_)
  go_ret
  exact ⟨rfl, hst⟩
theorem and31 (n : Nat) (h : n < 4294967296) : bits .and .u32 (n : Int) 2147483647 = ((n % 2147483648 : Nat) : Int) := by
  have := bits_mask .u32 32 (by decide) wraps_u32 31 (by decide) n (by omega) (by omega)
  rw [show (2147483647 : Int) = 2 ^ 31 - 1 by decide, this]; omega
def goawayF (last code : Nat) : Frm := { type := 7, flags := 0, stream := 0, data := fourB (last % 2147483648) ++ fourB code }
def resetF (stream code : Nat) : Frm := { type := 3, flags := 0, stream := (stream % 2147483648 : Nat), data := fourB code }
def windowF (stream n : Nat) : Frm := { type := 8, flags := 0, stream := (stream % 2147483648 : Nat), data := fourB (n % 2147483648) }
theorem goaway_spec (last code : Nat) (w : World) (lab : Nat → Nat) (hf : Fr w.heap lab) (hl : last < 4294967296) (hc : code < 4294967296) :
    Calls Tryz.prog 76 #[.int .u32 last, .int .u32 code] w (PostS w lab (frmV (goawayF last code))) := by
  have e31 := and31 last hl
  go_enter Tryz.func76, Tryz.ntmps76
  go_wp2_with fail
  refine (four_spec (last % 2147483648) _ lab (hf.alloc _) (by omega)).mono ?_
  rintro e w1 ⟨rfl, h1⟩
  go_wp2_with fail
  refine (four_spec code w1 lab h1.fresh hc).mono ?_
  rintro e w2 ⟨rfl, h2⟩
  have h12 := h1.trans h2
  have hb := (Blk.at_new w lab hf #[.int .u8 0, .int .u8 0, .int .u32 0, .string ⟨#[]⟩] 32).kept h12 (by omega)
  have c0 := hb.cell 0 rfl
  have c1 := hb.cell 1 rfl
  have c2 := hb.cell 2 rfl
  have c3 := hb.cell 3 rfl
  have f0 := hb.free 0
  have f1 := hb.free 1
  have f2 := hb.free 2
  have f3 := hb.free 3
  go_wp2
  refine bodyPost_ret (v := frmV (goawayF last code)) ?_ rfl ⟨rfl, ?_⟩
  · simp [results, Tryz.results76, go_sem, frmV, goawayF, c0, c1, c2, c3]
  · exact (((((Stp.refl 0 0 hf).alloc _).trans h12).setCell _ (.inl (Nat.le_refl _))).setCell _ (.inl (Nat.le_refl _))).setCell _ (.inl (Nat.le_refl _)) |>.setCell _ (.inl (Nat.le_refl _))
end Go.Proofs.YtlbaiighiaanoaaGreatDoor

/- Contracts of package frame: Reset, Window, Print. -/
namespace Go.Proofs.YtlbaiighiaanoaaGreatDoor
open Go Go.Proofs Go.RowKit
set_option maxRecDepth 100000
set_option linter.unusedVariables false
set_option linter.unusedSimpArgs false
theorem reset_spec (stream code : Nat) (w : World) (lab : Nat → Nat) (hf : Fr w.heap lab) (hl : stream < 4294967296) (hc : code < 4294967296) :
    Calls Tryz.prog 80 #[.int .u32 stream, .int .u32 code] w (PostS w lab (frmV (resetF stream code))) := by
  have e31 := and31 stream hl
  go_enter Tryz.func80, Tryz.ntmps80
  go_wp2_with fail
  refine (four_spec code _ lab (hf.alloc _) hc).mono ?_
  rintro e w1 ⟨rfl, h12⟩
  have hb := (Blk.at_new w lab hf #[.int .u8 0, .int .u8 0, .int .u32 0, .string ⟨#[]⟩] 32).kept h12 (by omega)
  have c0 := hb.cell 0 rfl
  have c1 := hb.cell 1 rfl
  have c2 := hb.cell 2 rfl
  have c3 := hb.cell 3 rfl
  have f0 := hb.free 0
  have f1 := hb.free 1
  have f2 := hb.free 2
  have f3 := hb.free 3
  go_wp2
  refine bodyPost_ret (v := frmV (resetF stream code)) ?_ rfl ⟨rfl, ?_⟩
  · simp [results, Tryz.results80, go_sem, frmV, resetF, c0, c1, c2, c3]
  · exact (((((Stp.refl 0 0 hf).alloc _).trans h12).setCell _ (.inl (Nat.le_refl _))).setCell _ (.inl (Nat.le_refl _))).setCell _ (.inl (Nat.le_refl _)) |>.setCell _ (.inl (Nat.le_refl _))
theorem window_spec (stream n : Nat) (w : World) (lab : Nat → Nat) (hf : Fr w.heap lab) (hl : stream < 4294967296) (hc : n < 4294967296) :
    Calls Tryz.prog 135 #[.int .u32 stream, .int .u32 n] w (PostS w lab (frmV (windowF stream n))) := by
  have e31 := and31 stream hl
  have e32 := and31 n hc
  go_enter Tryz.func135, Tryz.ntmps135
  go_wp2_with fail
  refine (four_spec (n % 2147483648) _ lab (hf.alloc _) (by omega)).mono ?_
  rintro e w1 ⟨rfl, h12⟩
  have hb := (Blk.at_new w lab hf #[.int .u8 0, .int .u8 0, .int .u32 0, .string ⟨#[]⟩] 32).kept h12 (by omega)
  have c0 := hb.cell 0 rfl
  have c1 := hb.cell 1 rfl
  have c2 := hb.cell 2 rfl
  have c3 := hb.cell 3 rfl
  have f0 := hb.free 0
  have f1 := hb.free 1
  have f2 := hb.free 2
  have f3 := hb.free 3
  go_wp2
  refine bodyPost_ret (v := frmV (windowF stream n)) ?_ rfl ⟨rfl, ?_⟩
  · simp [results, Tryz.results135, go_sem, frmV, windowF, c0, c1, c2, c3]
  · exact (((((Stp.refl 0 0 hf).alloc _).trans h12).setCell _ (.inl (Nat.le_refl _))).setCell _ (.inl (Nat.le_refl _))).setCell _ (.inl (Nat.le_refl _)) |>.setCell _ (.inl (Nat.le_refl _))

/-- A frame's bytes. -/
def frmBytes (f : Frm) : List UInt8 := beBytes 3 f.data.size ++ [UInt8.ofNat f.type, UInt8.ofNat f.flags] ++ beBytes 4 f.stream.toNat ++ f.data.data.toList
theorem u8_ofNat (n : Nat) (h : n < 256) : (UInt8.ofNat n).toNat = n := by simp; omega
set_option maxHeartbeats 2000000 in
theorem print_spec (f : Frm) (w : World) (lab : Nat → Nat) (hf : Fr w.heap lab) (ht : f.type < 256) (hfl : f.flags < 256) (h0 : 0 ≤ f.stream) (h1 : f.stream ≤ 2147483647) (h2 : f.data.size ≤ 16384) :
    Calls Tryz.prog 67 #[frmV f] w (PostS w lab (.tuple #[.string ⟨(frmBytes f).toArray⟩, .int .i64 0])) := by
  obtain ⟨ty, fl, st, d⟩ := f
  obtain ⟨s, rfl⟩ := Int.eq_ofNat_of_zero_le h0
  dsimp only [frmV] at *
  go_enter Tryz.func67, Tryz.ntmps67
  have hwr : IntKind.u64.wrap (d.size : Int) = d.size := wraps_u64 _ (by omega) (by omega)
  have hws : IntKind.u64.wrap (s : Int) = s := wraps_u64 _ (by omega) (by omega)
  go_wp2
  go_cut [4] (fun v wx => ∃ A cap, v = .slice A 5 cap ∧ Owns wx.heap (w.heap.size + 1) 5 1 v 5 ((beBytes 3 d.size ++ [UInt8.ofNat ty, UInt8.ofNat fl]).map byteV) ∧ Stp 0 0 (w.alloc (.cells #[.int .u8 ty, .int .u8 fl, .int .u32 s, .string d] 32)) lab wx lab)
  case first =>
    have hl1 : ([] : List UInt8).length ≤ 140737488355000 := by simp
    have hb1 : ∀ o : Obj, w.heap.size + 1 ≤ (w.alloc o).drew.heap.size := fun o => by simp
    have hb2 : ∀ o o' : Obj, w.heap.size + 1 ≤ ((w.alloc o).alloc o').drew.heap.size := fun o o' => by simp only [World.size_drew, World.size_alloc]; omega
    have hone : ∀ u ∈ (#[Value.int .u8 (ty : Int), Value.int .u8 (fl : Int)] : Array Value).toList, u.oneCell' = true := by intro u hu; simp at hu; rcases hu with rfl | rfl <;> rfl
    have hlt2 : ∀ o : Obj, w.heap.size + 1 < ((w.alloc o).alloc (.cells #[Value.int .u8 (ty : Int), Value.int .u8 (fl : Int)] 5)).drew.heap.size := fun o => by simp only [World.size_drew, World.size_alloc]; omega
    have hb0 : w.heap.size < w.heap.size + 1 := Nat.lt_succ_self _
    have hmx : 3 + 2 ≤ maxLen := by unfold maxLen; omega
    go_region_held3 (fun w' => w'.cell? ⟨w.heap.size, 0, none⟩ = some (.int .u8 ty) ∧ w'.cell? ⟨w.heap.size, 1, none⟩ = some (.int .u8 fl) ∧ w'.cell? ⟨w.heap.size, 3, none⟩ = some (.string d))
      (first | (refine ⟨hkeep _ _ ?_ hb0, hkeep _ _ ?_ hb0, hkeep _ _ ?_ hb0⟩ <;> (first | assumption | (go_keep; done))) | (refine ⟨hst.cell ?_, hst.cell ?_, hst.cell ?_⟩ <;> (first | assumption | (go_keep; done) | simp)) | go_keep)
      (first
        | (go_at_call 68; refine (put_at (w.heap.size + 1) 3 (.slice none 0 0) [] d.size 3 _ lab ?_ ?_ (Row.nil _ lab 0 _ _).1 hl1 ?_ ?_ ?_ rfl).mono ?_; (first | exact hf.alloc _ | exact (hf.alloc _).alloc _); (first | exact hb1 _ | exact hb2 _ _); omega; omega; omega; rintro e w1 ⟨A, cap, rfl, ho, hst⟩)
        | (have ho' := fun o : Obj => Owns.keep (H1 := (w1.alloc o).heap) ho fun k hk => Below.heap_alloc w1 o k (ho.lt k hk).2; refine step_appOwn rfl _ _ 46 46 rfl E46 (.inr ⟨_, Tryz.underlying46⟩) (n := 3) (m := 2) rfl (ho' _) rfl (Src.ofBlock Tryz.prog (heap_alloc_new _ _) rfl hone) hmx ?_ ?_ ?_; omega; (refine Nat.le_trans (Nat.le_trans (hb1 _) hst.size) ?_; exact Nat.le_of_lt (by simp)); intro A2 cap2 w3 ho3 hgr3; have hkeep : ∀ (p : Addr) (u : Value), (w1.alloc (.cells #[Value.int .u8 (ty : Int), Value.int .u8 (fl : Int)] 5)).cell? p = some u → p.block < w.heap.size + 1 → w3.cell? p = some u := fun p u hc hp => (Owns.cellOld (ho' _) hgr3 hc hp))
        | (refine step_appOwn rfl _ _ 46 46 rfl E46 (.inr ⟨_, Tryz.underlying46⟩) (n := 3) (m := 2) rfl ho rfl (Src.ofBlock Tryz.prog ((hst.block _ (hlt2 _) (fun h => absurd h.2 (Nat.not_lt_zero _))).trans (heap_new_at ?_)) rfl hone) hmx ?_ ?_ ?_; exact (World.size_alloc _ _).symm; omega; exact Nat.le_trans (hb2 _ _) hst.size; intro A2 cap2 w3 ho3 hgr3; have hkeep : ∀ (p : Addr) (u : Value), w1.cell? p = some u → p.block < w.heap.size + 1 → w3.cell? p = some u := fun p u hc hp => (Owns.cellOld ho hgr3 hc hp)))
    all_goals
      go_wp2_with fail
      go_meet
      refine ⟨A2, cap2, rfl, ?_, ?_⟩
      · rw [List.map_append]
        simpa [byteV, u8_ofNat _ ht, u8_ofNat _ hfl] using ho3
      · first
          | exact (hst.alloc _).grown hgr3 (fun k hk => .inl (by have := (ho.lt k hk).1; simp only [World.size_drew, World.size_alloc]; omega))
          | exact (((Stp.refl 0 0 (hf.alloc _)).alloc _).trans hst).grown hgr3 (fun k hk => .inl (by have := (ho.lt k hk).1; simp only [World.size_drew, World.size_alloc]; omega))
  case rest =>
    obtain ⟨A, cap, rfl, ho, hst⟩ := hcut
    have hb := (Blk.at_new w lab hf #[.int .u8 ty, .int .u8 fl, .int .u32 s, .string d] 32).kept hst (by omega)
    have c2 := hb.cell 2 rfl
    have c3 := hb.cell 3 rfl
    have hl5 : (beBytes 3 d.size ++ [UInt8.ofNat ty, UInt8.ofNat fl]).length = 5 := rfl
    obtain ⟨l, hl⟩ : ∃ l, beBytes 3 d.size ++ [UInt8.ofNat ty, UInt8.ofNat fl] = l := ⟨_, rfl⟩
    rw [hl] at ho hl5
    have HL := Lib.hid hl5
    have HE := Lib.hid hl
    clear hl5 hl
    have hw1 : w.heap.size + 1 ≤ wc.heap.size := by have := hst.size; simp only [World.size_alloc] at this; omega
    have hl1 : l.length ≤ 140737488355000 := by have := HL.out; omega
    have hl2 : 9 = l.length + Int.toNat 4 := by have := HL.out; omega
    have HL2 := Lib.hid hl2
    have hmapd : (l ++ beBytes (Int.toNat 4) s).map byteV ++ Lib.strCells d = (l ++ beBytes (Int.toNat 4) s ++ d.data.toList).map fun c => Value.int .u8 c.toNat := by rw [List.map_append, List.map_append, List.map_append]; rfl
    have HM := Lib.hid hmapd
    clear hmapd
    have hfb : frmBytes { type := ty, flags := fl, stream := (s : Int), data := d } = l ++ beBytes (Int.toNat 4) s ++ d.data.toList := by simp [frmBytes, ← HE.out]
    have HFB := Lib.hid hfb
    clear hfb
    have hb0 : w.heap.size < w.heap.size + 1 := Nat.lt_succ_self _
    clear hl2
    go_wp2_with fail
    go_region_law (first
        | (go_simp; go_at_call 68; refine (put_at (w.heap.size + 1) 9 _ l s 4 wc.drew lab hst.fresh hw1 (ho.down (Nat.zero_le _)) hl1 ?_ ?_ ?_ HL2.out).mono ?_; omega; omega; omega; rintro e w1 ⟨A1, cap1, rfl, ho2, hst2⟩; have c3' := hst2.cell c3)
        | (have hw2 : w.heap.size + 1 ≤ w1.heap.size := Nat.le_trans hw1 hst2.size; refine step_appOwn rfl _ _ 46 9 rfl E46 (.inl Tryz.underlying9) (n := 9) (m := d.size) rfl ho2 rfl (Src.ofString Tryz.prog _ d) ?_ ?_ hw2 ?_; (unfold maxLen; omega); omega; intro A2 cap2 w3 ho3 hgr3; have hkeep : ∀ (p : Addr) (u : Value), w1.cell? p = some u → p.block < w.heap.size + 1 → w3.cell? p = some u := fun p u hc hp => (Owns.cellOld ho2 hgr3 hc hp); have ho4 := ho3; rw [HM.out] at ho4; have hcv := run_convBS (P := Tryz.prog) (src := 46) (dst := 9) Tryz.underlying46 Tryz.underlying9 Tryz.underlying5 ho4))
    all_goals
      go_wp2
      rw [HFB.out]
      go_ret2
      refine ⟨?_, ((((Stp.refl 0 0 hf).alloc _).trans hst).trans hst2).grown hgr3 (fun k hk => .inl (by have := (ho2.lt k hk).1; omega))⟩
      first | rfl | simp [Act.put]
end Go.Proofs.YtlbaiighiaanoaaGreatDoor

/- Contracts of package frame: what is wrong with a frame. -/
namespace Go.Proofs.YtlbaiighiaanoaaGreatDoor
open Go Go.Proofs Go.RowKit
set_option maxRecDepth 100000
set_option linter.unusedVariables false
set_option linter.unusedSimpArgs false
def placeF (f : Frm) : Bool :=
  if f.type = 0 ∨ f.type = 1 ∨ f.type = 2 ∨ f.type = 3 ∨ f.type = 9 then f.stream != 0
  else if f.type = 4 ∨ f.type = 6 ∨ f.type = 7 then f.stream == 0 else f.type != 5
theorem ty_cases (ty : Nat) : ty = 0 ∨ ty = 1 ∨ ty = 2 ∨ ty = 3 ∨ ty = 4 ∨ ty = 5 ∨ ty = 6 ∨ ty = 7 ∨ ty = 8 ∨ ty = 9 ∨ 10 ≤ ty := by omega
theorem ty_ne {ty : Nat} (h : 10 ≤ ty) (k : Nat) (hk : k < 10) : ((ty : Int) == (k : Int)) = false := by rw [beq_eq_false_iff_ne]; omega
theorem place_spec (f : Frm) (w : World) (lab : Nat → Nat) (hf : Fr w.heap lab) :
    Calls Tryz.prog 96 #[frmV f] w (PostS w lab (.bool (placeF f))) := by
  obtain ⟨ty, fl, st, d⟩ := f
  dsimp only [frmV] at *
  rcases ty_cases ty with rfl | rfl | rfl | rfl | rfl | rfl | rfl | rfl | rfl | rfl | h
  iterate 10 (· go_enter Tryz.func96, Tryz.ntmps96; go_wp2; go_ret; exact ⟨by simp [placeF], (Stp.refl 0 0 hf).alloc _⟩)
  have t0 := ty_ne h 0 (by omega)
  have t1 := ty_ne h 1 (by omega)
  have t2 := ty_ne h 2 (by omega)
  have t3 := ty_ne h 3 (by omega)
  have t4 := ty_ne h 4 (by omega)
  have t6 := ty_ne h 6 (by omega)
  have t7 := ty_ne h 7 (by omega)
  have t9 := ty_ne h 9 (by omega)
  have t5 : ((ty : Int) != 5) = true := by rw [bne_iff_ne]; omega
  go_enter Tryz.func96, Tryz.ntmps96
  go_wp2
  go_ret
  refine ⟨?_, (Stp.refl 0 0 hf).alloc _⟩
  have : placeF { type := ty, flags := fl, stream := st, data := d } = true := by
    unfold placeF
    rw [if_neg (by simp only []; omega), if_neg (by simp only []; omega)]
    simp only [bne_iff_ne]; omega
  rw [this]
  rfl

/-- The number of four bytes, without the highest bit. -/
def num31 (s : ByteArray) (a : Nat) : Nat := getN s a 4 % 2147483648
theorem number_spec (s : ByteArray) (at_ : Int) (w : World) (lab : Nat → Nat) (hf : Fr w.heap lab) (h1 : 0 ≤ at_) (h3 : at_ + 4 ≤ s.size) (hs : s.size ≤ 9223372036854775807) :
    Calls Tryz.prog 99 #[.string s, .int .i64 at_] w (PostS w lab (.int .u32 (num31 s at_.toNat))) := by
  have hlt := getN_lt s at_.toNat 4
  have hw : IntKind.u32.wrap ((getN s at_.toNat 4 : Nat) : Int) = (getN s at_.toNat 4 : Nat) := wraps_u32 _ (by omega) (by omega)
  have ha := and31 (getN s at_.toNat 4) (by omega)
  go_enter Tryz.func99, Tryz.ntmps99
  go_wp2_with fail
  refine (get_yes s at_ 4 w lab hf h1 (by omega) (by omega) h3 hs).mono ?_
  rintro e w1 ⟨rfl, hst⟩
  rw [show Int.toNat 4 = 4 from rfl]
  go_wp2
  go_ret
  exact ⟨rfl, hst⟩
/-- Has a frame a flag? -/
def flg (n k : Nat) : Bool := n / 2 ^ k % 2 == 1
theorem and_two_pow' : ∀ n < 256, ∀ k < 8, n &&& 2 ^ k = n / 2 ^ k % 2 * 2 ^ k := by decide +kernel
theorem bit8 (n : Nat) (k : Nat) (hk : k < 8) (h : n < 256) : bits .and .u8 (n : Int) ((2 ^ k : Nat) : Int) = if flg n k then ((2 ^ k : Nat) : Int) else 0 := by
  have h2 : 2 ^ k < 2 ^ 8 := Nat.pow_lt_pow_right (by decide) hk
  rw [(bits_nat .u8 8 (by decide) wraps_u8 n (2 ^ k) h h2).1, and_two_pow' n h k hk]
  unfold flg
  rcases Nat.mod_two_eq_zero_or_one (n / 2 ^ k) with h | h <;> simp [h]
theorem bit8_at {n : Nat} (h : n < 256) (k : Nat) (hk : k < 8) {b : Bool} (hb : flg n k = b) : bits .and .u8 (n : Int) ((2 ^ k : Nat) : Int) = if b then ((2 ^ k : Nat) : Int) else 0 := by rw [bit8 n k hk h, hb]
/-- How many bytes stand ahead of the content. -/
def extraF (f : Frm) : Nat := (if flg f.flags 3 then 1 else 0) + (if f.type == 1 && flg f.flags 5 then 5 else 0)
theorem extra_spec (f : Frm) (w : World) (lab : Nat → Nat) (hf : Fr w.heap lab) (hfl : f.flags < 256) (ht : f.type < 256) :
    Calls Tryz.prog 133 #[frmV f] w (PostS w lab (.int .i64 (extraF f))) := by
  obtain ⟨ty, fl, st, d⟩ := f
  dsimp only [frmV] at *
  cases g8 : flg fl 3 <;> cases g32 : flg fl 5 <;> cases g1 : (ty == 1)
  all_goals
    have b8 := bit8_at hfl 3 (by omega) g8
    have b32 := bit8_at hfl 5 (by omega) g32
    have hx := beqI g1
    have hr : extraF { type := ty, flags := fl, stream := st, data := d } = (if flg fl 3 then 1 else 0) + (if ty == 1 && flg fl 5 then 5 else 0) := rfl
    rw [g8, g32, g1] at hr
    simp at hx b8 b32 hr
    have HR := Lib.hid hr
    clear g8 g32 g1 hr
    go_enter Tryz.func133, Tryz.ntmps133
    go_wp2
    go_ret
    exact ⟨by rw [HR.out]; rfl, (Stp.refl 0 0 hf).alloc _⟩
def sizeF (f : Frm) : Nat × Nat :=
  if f.type = 2 then (if f.data.size != 5 then (1, 6) else (0, 0))
  else if f.type = 3 ∨ f.type = 8 then (if f.data.size != 4 then (2, 6) else (0, 0))
  else if f.type = 4 then (if flg f.flags 0 && decide (0 < f.data.size) || f.data.size % 6 != 0 then (2, 6) else (0, 0))
  else if f.type = 6 then (if f.data.size != 8 then (2, 6) else (0, 0))
  else if f.type = 7 then (if decide (f.data.size < 8) then (2, 6) else (0, 0)) else (0, 0)
theorem size_spec (f : Frm) (w : World) (lab : Nat → Nat) (hf : Fr w.heap lab) (hfl : f.flags < 256) (hd : f.data.size ≤ 9223372036854775807) :
    Calls Tryz.prog 97 #[frmV f] w (PostS w lab (.tuple #[.int .i64 (sizeF f).1, .int .u32 (sizeF f).2])) := by
  obtain ⟨ty, fl, st, d⟩ := f
  dsimp only [frmV] at *
  rcases ty_cases ty with rfl | rfl | rfl | rfl | rfl | rfl | rfl | rfl | rfl | rfl | h
  iterate 2 (· go_enter Tryz.func97, Tryz.ntmps97; go_wp2; go_ret2; exact ⟨by simp [sizeF], (Stp.refl 0 0 hf).alloc _⟩)
  · cases g : (d.size != 5) <;> (have hg := bneI g; have G := Lib.hid g; clear g; go_enter Tryz.func97, Tryz.ntmps97; go_wp2; go_ret2; exact ⟨by simp [sizeF, G.out], (Stp.refl 0 0 hf).alloc _⟩)
  · cases g : (d.size != 4) <;> (have hg := bneI g; have G := Lib.hid g; clear g; go_enter Tryz.func97, Tryz.ntmps97; go_wp2; go_ret2; exact ⟨by simp [sizeF, G.out], (Stp.refl 0 0 hf).alloc _⟩)
  · cases g0 : flg fl 0 <;> cases g1 : decide (0 < d.size) <;> cases g2 : (d.size % 6 != 0)
    all_goals
      have b0 := bit8_at hfl 0 (by omega) g0
      have b2 : ((d.size : Int) % 6 != 0) = (d.size % 6 != 0) := by rw [Bool.eq_iff_iff]; simp; omega
      rw [g2] at b2
      have G0 := Lib.hid g0
      have G1 := Lib.hid g1
      have G2 := Lib.hid g2
      simp at b0
      clear g0 g2
      go_enter Tryz.func97, Tryz.ntmps97
      go_wp2
      go_ret2
      exact ⟨by simp only [sizeF]; rw [G0.out, G1.out, G2.out]; simp, (Stp.refl 0 0 hf).alloc _⟩
  · go_enter Tryz.func97, Tryz.ntmps97; go_wp2; go_ret2; exact ⟨by simp [sizeF], (Stp.refl 0 0 hf).alloc _⟩
  · cases g : (d.size != 8) <;> (have hg := bneI g; have G := Lib.hid g; clear g; go_enter Tryz.func97, Tryz.ntmps97; go_wp2; go_ret2; exact ⟨by simp [sizeF, G.out], (Stp.refl 0 0 hf).alloc _⟩)
  · cases g : decide (d.size < 8) <;> (have hg : decide ((d.size : Int) < 8) = decide (d.size < 8) := (by rw [Bool.eq_iff_iff]; simp; omega); rw [g] at hg; have G := Lib.hid g; clear g; go_enter Tryz.func97, Tryz.ntmps97; go_wp2; go_ret2; exact ⟨by simp only [sizeF]; rw [G.out]; simp, (Stp.refl 0 0 hf).alloc _⟩)
  · cases g : (d.size != 4) <;> (have hg := bneI g; have G := Lib.hid g; clear g; go_enter Tryz.func97, Tryz.ntmps97; go_wp2; go_ret2; exact ⟨by simp [sizeF, G.out], (Stp.refl 0 0 hf).alloc _⟩)
  · go_enter Tryz.func97, Tryz.ntmps97; go_wp2; go_ret2; exact ⟨by simp [sizeF], (Stp.refl 0 0 hf).alloc _⟩
  · have t2 := ty_ne h 2 (by omega)
    have t3 := ty_ne h 3 (by omega)
    have t4 := ty_ne h 4 (by omega)
    have t6 := ty_ne h 6 (by omega)
    have t7 := ty_ne h 7 (by omega)
    have t8 := ty_ne h 8 (by omega)
    have hr : sizeF { type := ty, flags := fl, stream := st, data := d } = (0, 0) := by
      unfold sizeF
      rw [if_neg (by simp only []; omega), if_neg (by simp only []; omega), if_neg (by simp only []; omega), if_neg (by simp only []; omega), if_neg (by simp only []; omega)]
    have HR := Lib.hid hr
    clear hr
    go_enter Tryz.func97, Tryz.ntmps97; go_wp2; go_ret2; exact ⟨by rw [HR.out]; rfl, (Stp.refl 0 0 hf).alloc _⟩
end Go.Proofs.YtlbaiighiaanoaaGreatDoor

/- Contracts of package frame: padded, Wrong, Content. -/
namespace Go.Proofs.YtlbaiighiaanoaaGreatDoor
open Go Go.Proofs Go.RowKit
set_option maxRecDepth 100000
set_option linter.unusedVariables false
set_option linter.unusedSimpArgs false
def byteAt (s : ByteArray) (i : Nat) : Nat := (s.data.toList[i]?.getD 0).toNat
theorem byteAt_eq (s : ByteArray) (i : Nat) (h : i < s.size) : (s[i]'h).toNat = byteAt s i := by
  unfold byteAt
  have : s.data.toList[i]? = some (s[i]'h) := by
    rw [Array.getElem?_toList, Array.getElem?_eq_getElem (show i < s.data.size from h)]; rfl
  rw [this]; rfl
theorem byteAt_lt (s : ByteArray) (i : Nat) : byteAt s i < 256 := by unfold byteAt; exact UInt8.toNat_lt _
def paddedF (f : Frm) : Nat × Nat :=
  if decide (f.data.size < extraF f) then (2, 6)
  else if flg f.flags 3 && decide (f.data.size - extraF f < byteAt f.data 0) then (2, 1)
  else if (f.type == 1 && flg f.flags 5) && ((num31 f.data (extraF f - 5) : Int) == f.stream) then (1, 1) else (0, 0)
theorem WalkArith.wrap_i64_sub5 (x : Nat) (h : x ≤ 6) : IntKind.i64.wrap ((x : Int) - 5) = (x : Int) - 5 := by
  rcases (show x = 0 ∨ x = 1 ∨ x = 2 ∨ x = 3 ∨ x = 4 ∨ x = 5 ∨ x = 6 by omega) with rfl | rfl | rfl | rfl | rfl | rfl | rfl <;> rfl
set_option maxHeartbeats 1000000 in
theorem padded_spec (f : Frm) (w : World) (lab : Nat → Nat) (hf : Fr w.heap lab) (hfl : f.flags < 256) (ht : f.type < 256) (hs0 : 0 ≤ f.stream) (hs1 : f.stream < 4294967296) (hd : f.data.size ≤ 9223372036854775807) :
    Calls Tryz.prog 98 #[frmV f] w (PostS w lab (.tuple #[.int .i64 (paddedF f).1, .int .u32 (paddedF f).2])) := by
  obtain ⟨ty, fl, st, d⟩ := f
  have hex := extra_spec { type := ty, flags := fl, stream := st, data := d } (w.alloc (.cells #[.int .u8 ty, .int .u8 fl, .int .u32 st, .string d] 32)) lab (hf.alloc _) hfl ht
  have hpf : paddedF { type := ty, flags := fl, stream := st, data := d } = (if decide (d.size < extraF { type := ty, flags := fl, stream := st, data := d }) then (2, 6)
    else if flg fl 3 && decide (d.size - extraF { type := ty, flags := fl, stream := st, data := d } < byteAt d 0) then (2, 1)
    else if (ty == 1 && flg fl 5) && ((num31 d (extraF { type := ty, flags := fl, stream := st, data := d } - 5) : Int) == st) then (1, 1) else (0, 0)) := rfl
  have hxe : extraF { type := ty, flags := fl, stream := st, data := d } = (if flg fl 3 then 1 else 0) + (if ty == 1 && flg fl 5 then 5 else 0) := rfl
  generalize extraF { type := ty, flags := fl, stream := st, data := d } = x at *
  generalize paddedF { type := ty, flags := fl, stream := st, data := d } = r at *
  dsimp only [frmV] at *
  have HX := Lib.hid hex
  clear hex
  have hx6 : x ≤ 6 := by rw [hxe]; split <;> split <;> omega
  cases g0 : decide (d.size < x)
  · have b0 := ltI g0
    cases g3 : flg fl 3
    · have b8 := bit8_at hfl 3 (by omega) g3
      simp at b8
      · cases g1 : (ty == 1)
        · have hb1 : ((ty : Int) == 1) = false := beqI g1
          rw [g0, g3, g1] at hpf
          have HR := Lib.hid hpf
          clear hpf hxe
          go_enter Tryz.func98, Tryz.ntmps98
          go_wp2_with fail
          refine HX.out.mono ?_
          rintro e w1 ⟨rfl, hst⟩
          have hb := (Blk.at_new w lab hf #[.int .u8 ty, .int .u8 fl, .int .u32 st, .string d] 32).kept hst (by omega)
          have c0 := hb.cell 0 rfl
          have c1 := hb.cell 1 rfl
          have c2 := hb.cell 2 rfl
          have c3 := hb.cell 3 rfl
          go_wp2
          go_quiet (fail)
          go_wp2
          go_quiet (fail)
          go_wp2
          go_ret2
          exact ⟨by rw [HR.out]; rfl, ((Stp.refl 0 0 hf).alloc _).trans hst⟩
        · obtain rfl : ty = 1 := by simpa using g1
          cases g5 : flg fl 5
          · have b32 := bit8_at hfl 5 (by omega) g5
            simp at b32
            rw [g0, g3, g1, g5] at hpf
            have HR := Lib.hid hpf
            clear hpf hxe
            go_enter Tryz.func98, Tryz.ntmps98
            go_wp2_with fail
            refine HX.out.mono ?_
            rintro e w1 ⟨rfl, hst⟩
            have hb := (Blk.at_new w lab hf #[.int .u8 (1 : Nat), .int .u8 fl, .int .u32 st, .string d] 32).kept hst (by omega)
            have c0 := hb.cell 0 rfl
            have c1 := hb.cell 1 rfl
            have c2 := hb.cell 2 rfl
            have c3 := hb.cell 3 rfl
            go_wp2
            go_quiet (fail)
            go_wp2
            go_quiet (fail)
            go_wp2
            go_ret2
            exact ⟨by rw [HR.out]; rfl, ((Stp.refl 0 0 hf).alloc _).trans hst⟩
          · have b32 := bit8_at hfl 5 (by omega) g5
            simp at b32
            have hx5 : 5 ≤ x := by rw [hxe, g1, g5]; simp
            have hxn : ((x : Int) - 5).toNat = x - 5 := by omega
            have NS := fun (w' : World) (hf' : Fr w'.heap lab) => number_spec d ((x : Int) - 5) w' lab hf' (by omega) (by simp at g0; omega) hd
            rw [hxn] at NS
            generalize hN : num31 d (x - 5) = N at hpf NS
            have NSH := Lib.hid NS
            have hwx : IntKind.i64.wrap ((x : Int) - 5) = (x : Int) - 5 := WalkArith.wrap_i64_sub5 x hx6
            clear NS
            cases g6 : ((N : Int) == st)
            all_goals
              rw [g0, g3, g1, g5, g6] at hpf
              have HR := Lib.hid hpf
              clear hpf hxe hxn hN
              go_enter Tryz.func98, Tryz.ntmps98
              go_wp2_with fail
              refine HX.out.mono ?_
              rintro e w1 ⟨rfl, hst⟩
              have hb := (Blk.at_new w lab hf #[.int .u8 (1 : Nat), .int .u8 fl, .int .u32 st, .string d] 32).kept hst (by omega)
              have c0 := hb.cell 0 rfl
              have c1 := hb.cell 1 rfl
              have c2 := hb.cell 2 rfl
              have c3 := hb.cell 3 rfl
              go_wp2
              go_quiet (fail)
              go_wp2
              go_region_held3 (fun w' => w'.cell? ⟨w.heap.size, 0, none⟩ = some (.int .u8 (1 : Nat)) ∧ w'.cell? ⟨w.heap.size, 1, none⟩ = some (.int .u8 fl) ∧ w'.cell? ⟨w.heap.size, 2, none⟩ = some (.int .u32 st) ∧ w'.cell? ⟨w.heap.size, 3, none⟩ = some (.string d))
                (first | (refine ⟨hst2.cell ?_, hst2.cell ?_, hst2.cell ?_, hst2.cell ?_⟩ <;> (first | assumption | (go_keep; done) | simp)) | go_keep)
                (first | (go_at_call 99; refine (NSH.out _ ?_).mono ?_; exact hst.fresh; rintro e w2 ⟨rfl, hst2⟩))
              all_goals
                go_wp2
                go_ret2
                exact ⟨by rw [HR.out]; rfl, ((Stp.refl 0 0 hf).alloc _).trans (hst.trans hst2)⟩
    · have b8 := bit8_at hfl 3 (by omega) g3
      simp at b8
      have hx1 : 1 ≤ x := by rw [hxe, g3]; simp
      have h0d : 0 < d.size := by simp at g0; omega
      have h0i : (0 : Int) < (d.size : Int) := by omega
      have hxd : x ≤ d.size := by simpa using g0
      have hby := byteAt_eq d 0 h0d
      have hblt := byteAt_lt d 0
      generalize byteAt d 0 = y at *
      cases gd : decide (d.size - x < y)
      · have bd : decide ((d.size : Int) - x < y) = false := by simp at gd ⊢; omega
        cases g1 : (ty == 1)
        · have hb1 : ((ty : Int) == 1) = false := beqI g1
          rw [g0, g3, gd, g1] at hpf
          have HR := Lib.hid hpf
          clear hpf hxe
          go_enter Tryz.func98, Tryz.ntmps98
          go_wp2_with fail
          refine HX.out.mono ?_
          rintro e w1 ⟨rfl, hst⟩
          have hb := (Blk.at_new w lab hf #[.int .u8 ty, .int .u8 fl, .int .u32 st, .string d] 32).kept hst (by omega)
          have c0 := hb.cell 0 rfl
          have c1 := hb.cell 1 rfl
          have c2 := hb.cell 2 rfl
          have c3 := hb.cell 3 rfl
          go_wp2
          go_quiet (fail)
          go_wp2
          go_quiet (fail)
          go_wp2
          go_ret2
          exact ⟨by rw [HR.out]; rfl, ((Stp.refl 0 0 hf).alloc _).trans hst⟩
        · obtain rfl : ty = 1 := by simpa using g1
          cases g5 : flg fl 5
          · have b32 := bit8_at hfl 5 (by omega) g5
            simp at b32
            rw [g0, g3, gd, g1, g5] at hpf
            have HR := Lib.hid hpf
            clear hpf hxe
            go_enter Tryz.func98, Tryz.ntmps98
            go_wp2_with fail
            refine HX.out.mono ?_
            rintro e w1 ⟨rfl, hst⟩
            have hb := (Blk.at_new w lab hf #[.int .u8 (1 : Nat), .int .u8 fl, .int .u32 st, .string d] 32).kept hst (by omega)
            have c0 := hb.cell 0 rfl
            have c1 := hb.cell 1 rfl
            have c2 := hb.cell 2 rfl
            have c3 := hb.cell 3 rfl
            go_wp2
            go_quiet (fail)
            go_wp2
            go_quiet (fail)
            go_wp2
            go_ret2
            exact ⟨by rw [HR.out]; rfl, ((Stp.refl 0 0 hf).alloc _).trans hst⟩
          · have b32 := bit8_at hfl 5 (by omega) g5
            simp at b32
            have hx5 : 5 ≤ x := by rw [hxe, g1, g5]; simp
            have hxn : ((x : Int) - 5).toNat = x - 5 := by omega
            have NS := fun (w' : World) (hf' : Fr w'.heap lab) => number_spec d ((x : Int) - 5) w' lab hf' (by omega) (by simp at g0; omega) hd
            rw [hxn] at NS
            generalize hN : num31 d (x - 5) = N at hpf NS
            have NSH := Lib.hid NS
            have hwx : IntKind.i64.wrap ((x : Int) - 5) = (x : Int) - 5 := WalkArith.wrap_i64_sub5 x hx6
            clear NS
            cases g6 : ((N : Int) == st)
            all_goals
              rw [g0, g3, gd, g1, g5, g6] at hpf
              have HR := Lib.hid hpf
              clear hpf hxe hxn hN
              go_enter Tryz.func98, Tryz.ntmps98
              go_wp2_with fail
              refine HX.out.mono ?_
              rintro e w1 ⟨rfl, hst⟩
              have hb := (Blk.at_new w lab hf #[.int .u8 (1 : Nat), .int .u8 fl, .int .u32 st, .string d] 32).kept hst (by omega)
              have c0 := hb.cell 0 rfl
              have c1 := hb.cell 1 rfl
              have c2 := hb.cell 2 rfl
              have c3 := hb.cell 3 rfl
              go_wp2
              go_quiet (fail)
              go_wp2
              go_region_held3 (fun w' => w'.cell? ⟨w.heap.size, 0, none⟩ = some (.int .u8 (1 : Nat)) ∧ w'.cell? ⟨w.heap.size, 1, none⟩ = some (.int .u8 fl) ∧ w'.cell? ⟨w.heap.size, 2, none⟩ = some (.int .u32 st) ∧ w'.cell? ⟨w.heap.size, 3, none⟩ = some (.string d))
                (first | (refine ⟨hst2.cell ?_, hst2.cell ?_, hst2.cell ?_, hst2.cell ?_⟩ <;> (first | assumption | (go_keep; done) | simp)) | go_keep)
                (first | (go_at_call 99; refine (NSH.out _ ?_).mono ?_; exact hst.fresh; rintro e w2 ⟨rfl, hst2⟩))
              all_goals
                go_wp2
                go_ret2
                exact ⟨by rw [HR.out]; rfl, ((Stp.refl 0 0 hf).alloc _).trans (hst.trans hst2)⟩
      · have bd : decide ((d.size : Int) - x < y) = true := by simp at gd ⊢; omega
        rw [g0, g3, gd] at hpf
        have HR := Lib.hid hpf
        clear hpf hxe
        go_enter Tryz.func98, Tryz.ntmps98
        go_wp2_with fail
        refine HX.out.mono ?_
        rintro e w1 ⟨rfl, hst⟩
        have hb := (Blk.at_new w lab hf #[.int .u8 ty, .int .u8 fl, .int .u32 st, .string d] 32).kept hst (by omega)
        have c0 := hb.cell 0 rfl
        have c1 := hb.cell 1 rfl
        have c2 := hb.cell 2 rfl
        have c3 := hb.cell 3 rfl
        go_wp2
        go_quiet (fail)
        go_wp2
        go_ret2
        exact ⟨by rw [HR.out]; rfl, ((Stp.refl 0 0 hf).alloc _).trans hst⟩
  · have b0 := ltI g0
    rw [g0] at hpf
    have HR := Lib.hid hpf
    clear hpf hxe
    go_enter Tryz.func98, Tryz.ntmps98
    go_wp2_with fail
    refine HX.out.mono ?_
    rintro e w1 ⟨rfl, hst⟩
    have hb := (Blk.at_new w lab hf #[.int .u8 ty, .int .u8 fl, .int .u32 st, .string d] 32).kept hst (by omega)
    have c3 := hb.cell 3 rfl
    go_wp2
    go_ret2
    exact ⟨by rw [HR.out]; rfl, ((Stp.refl 0 0 hf).alloc _).trans hst⟩
end Go.Proofs.YtlbaiighiaanoaaGreatDoor
