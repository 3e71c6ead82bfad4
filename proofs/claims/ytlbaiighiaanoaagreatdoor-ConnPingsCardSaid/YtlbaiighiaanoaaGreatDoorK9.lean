/- Contracts and plain laws for Pings, part 9; no conditions but those that each theorem states. -/
import Derived.Test.YtlbaiighiaanoaaGreatDoorK8
/- Contracts of window.Book: Grow. -/
namespace Go.Proofs.YtlbaiighiaanoaaGreatDoor
open Go Go.Proofs Go.RowKit
set_option maxRecDepth 100000
set_option linter.unusedVariables false
set_option linter.unusedSimpArgs false
/-- A window grows: the book, the code. -/
def growF (s : Book) (id n : Int) : Book × Int :=
  if (id == 0) = true then (if (decide (2147483647 < s.conn + n)) = true then (s, 3) else ({ s with conn := s.conn + n }, 0))
  else match s.of.lookup id with
    | none => (s, 0)
    | some x => if (decide (2147483647 < x + n)) = true then (s, 3) else ({ s with of := put id (x + n) s.of }, 0)
theorem lookup_ofV (id : Int) (l : List (Int × Int)) : (if true = true then Value.tuple #[((l.map fun p => (p.1, Value.int .i64 p.2)).lookup id).getD (.int .i64 0), .bool ((l.map fun p => (p.1, Value.int .i64 p.2)).lookup id).isSome] else ((l.map fun p => (p.1, Value.int .i64 p.2)).lookup id).getD (.int .i64 0))
    = .tuple #[.int .i64 ((l.lookup id).getD 0), .bool (l.lookup id).isSome] := by
  rw [show (l.map fun p => (p.1, Value.int .i64 p.2)).lookup id = (l.lookup id).map fun x => Value.int .i64 x from lookup_map (fun x : Int => Value.int .i64 x) id l]
  cases l.lookup id <;> rfl
theorem grow_spec (w : World) (lab : Nat → Nat) (m p : Nat) (hm : 0 < m) (s : Book) (id n : Int) (h : BookAt w.heap lab m p s) (hf : Fr w.heap lab) (hc : s.conn ≤ 2147483647) (hc0 : -4294967296 ≤ s.conn) (ho : ∀ x, s.of.lookup id = some x → -4294967296 ≤ x ∧ x ≤ 2147483647) (hn0 : 0 ≤ n) (hn : n ≤ 2147483647) :
    Calls Tryz.prog 141 #[ptr p, .int .u32 id, .int .u32 n] w (PostBook w lab m p (growF s id n).1 (.int .u32 (growF s id n).2)) := by
  obtain ⟨mb, h1, h2⟩ := h
  have c0 := h1.cell 0 (v := .int .i64 s.conn) (by rfl)
  have f0 := h1.free 0
  have c2 := h1.cell 2 (v := .map (some mb)) (by rfl)
  have hr := lookup_ofV id s.of
  have HR := Lib.hid hr
  clear hr
  have wn : IntKind.i64.wrap n = n := wrap_i64 _ (by omega) (by omega)
  cases gi : (id == 0)
  · cases hl : s.of.lookup id with
    | none =>
      have hg : growF s id n = (s, 0) := by unfold growF; rw [gi, if_neg (by decide), hl]
      rw [hg]
      rw [hl] at HR
      clear ho hl hg
      go_enter Tryz.func141, Tryz.ntmps141
      go_wp2_with (at_lookup; refine wp_look rfl _ _ _ true rfl Tryz.underlying147 Tryz.underlying30 rfl h2 rfl zv_int HR.out ?_)
      go_ret
      exact ⟨rfl, ⟨mb, h1, h2⟩, Stp.refl _ _ hf⟩
    | some x =>
      obtain ⟨x0, x1⟩ := ho x hl
      have hg : growF s id n = if (decide (2147483647 < x + n)) = true then (s, 3) else ({ s with of := put id (x + n) s.of }, 0) := by unfold growF; rw [gi, if_neg (by decide), hl]
      rw [hl] at HR
      have wx : IntKind.i64.wrap (x + n) = x + n := wrap_i64 _ (by omega) (by omega)
      clear ho hl hc hc0
      cases gx : decide (2147483647 < x + n)
      · rw [gx, if_neg (by decide)] at hg
        rw [hg]
        clear hg
        go_enter Tryz.func141, Tryz.ntmps141
        go_wp2_with (first | (at_lookup; refine wp_look rfl _ _ _ true rfl Tryz.underlying147 Tryz.underlying30 rfl h2 rfl zv_int HR.out ?_) | (at_mapUpdate; refine wp_mput rfl _ _ _ _ rfl Tryz.underlying147 Tryz.underlying30 rfl h2 hf rfl rfl ?_; intro w3 h3 st3; have h13 := h1.kept st3 (.inl (Nat.lt_succ_self _))))
        go_ret
        have h4 : Mp w3.heap lab mb (m + 1) (mput id (.int .i64 (x + n)) (s.of.map fun p => (p.1, Value.int .i64 p.2))) := h3
        rw [mput_map (fun x : Int => Value.int .i64 x)] at h4
        exact ⟨rfl, ⟨mb, h13, h4⟩, st3.mono (by omega) (by omega)⟩
      · rw [gx, if_pos rfl] at hg
        rw [hg]
        clear hg
        go_enter Tryz.func141, Tryz.ntmps141
        go_wp2_with (at_lookup; refine wp_look rfl _ _ _ true rfl Tryz.underlying147 Tryz.underlying30 rfl h2 rfl zv_int HR.out ?_)
        go_ret
        exact ⟨rfl, ⟨mb, h1, h2⟩, Stp.refl _ _ hf⟩
  · have hg : growF s id n = (if (decide (2147483647 < s.conn + n)) = true then (s, 3) else ({ s with conn := s.conn + n }, 0)) := by unfold growF; rw [gi, if_pos rfl]
    obtain rfl : id = 0 := by simpa using gi
    have wx : IntKind.i64.wrap (s.conn + n) = s.conn + n := wrap_i64 _ (by omega) (by omega)
    generalize (s.of.lookup 0).getD 0 = y at HR
    generalize (s.of.lookup 0).isSome = yb at HR
    clear ho gi
    cases gx : decide (2147483647 < s.conn + n)
    · rw [gx, if_neg (by decide)] at hg
      rw [hg]
      clear hg
      go_enter Tryz.func141, Tryz.ntmps141
      go_wp2_with (at_lookup; refine wp_look rfl _ _ _ true rfl Tryz.underlying147 Tryz.underlying30 rfl h2 rfl zv_int HR.out ?_)
      go_ret
      exact ⟨rfl, ⟨mb, h1.store 0 (.int .i64 (s.conn + n)), h2.otherBlk h1 (by omega) _ _⟩, (h1.storeStp hf 0 _).mono (by omega) (by omega)⟩
    · rw [gx, if_pos rfl] at hg
      rw [hg]
      clear hg
      go_enter Tryz.func141, Tryz.ntmps141
      go_wp2_with (at_lookup; refine wp_look rfl _ _ _ true rfl Tryz.underlying147 Tryz.underlying30 rfl h2 rfl zv_int HR.out ?_)
      go_ret
      exact ⟨rfl, ⟨mb, h1, h2⟩, Stp.refl _ _ hf⟩
end Go.Proofs.YtlbaiighiaanoaaGreatDoor

/- The contract of Book.Initial while no stream is open. -/
namespace Go.Proofs.YtlbaiighiaanoaaGreatDoor
open Go Go.Proofs Go.RowKit Go.Maps Go.WideElems
set_option maxRecDepth 100000
set_option linter.unusedVariables false
set_option linter.unusedSimpArgs false
def PostBookN (w : World) (lab : Nat → Nat) (m p : Nat) (s : Book) (v : Value) (e : Ending) (w' : World) : Prop := ∃ lab', e = .returned v ∧ BookAt w'.heap lab' m p s ∧ Stp m (m + 2) w lab w' lab'
theorem initial_none (w : World) (lab : Nat → Nat) (m p : Nat) (hm : 0 < m) (s : Book) (n : Int) (h : BookAt w.heap lab m p s) (hf : Fr w.heap lab) (ho : s.of = []) (h0 : 0 ≤ n) (hn : n ≤ 2147483647) (hf0 : 0 ≤ s.first) (hf1 : s.first ≤ 2147483647) :
    Calls Tryz.prog 139 #[ptr p, .int .u32 n] w (PostBookN w lab m p { s with first := n } (.int .u32 0)) := by
  obtain ⟨mb, h1, h2⟩ := h
  rw [ho] at h2
  have c0 := h1.cell 0 (v := .int .i64 s.conn) (by rfl)
  have c1 := h1.cell 1 (v := .int .i64 s.first) (by rfl)
  have c2 := h1.cell 2 (v := .map (some mb)) (by rfl)
  obtain ⟨D, hown, hsz, hhas⟩ := h2.owns (by simp) (by simp)
  have wn : IntKind.i64.wrap n = n := wrap_i64 _ (by omega) (by omega)
  have wb : IntKind.i64.wrap (n - s.first) = n - s.first := wrap_i64 _ (by omega) (by omega)
  have g1 : decide (2147483647 < n) = false := by simp; omega
  clear hf0 hf1 h0 hn
  have hno : ∀ x, has D (.int .u32 x) = true → False := fun x hx => by simpa using (hhas x).1 hx
  have HNO := Lib.hid hno
  clear hhas hno hsz
  go_enter Tryz.func139, Tryz.ntmps139
  go_wp2_with (at_range; refine wpList_range_own _ rfl _ 147 rfl 30 3 (int_keyed Tryz.underlying30) Tryz.underlying147 _ mb _ _ rfl hown ?_; intro w0 hrg0 hg0 hs0)
  go_frame
  have st0 : Stp 0 0 w lab w0 lab := (Stp.refl 0 0 hf).grown hg0 (by simp)
  go_loopw [7] (fun _ wr => wr = w0) (fun _ _ => 0)
  case atStart => rfl
  case round =>
    obtain rfl := hrel
    obtain ⟨wa, rfl⟩ : ∃ wa, wa = wr := ⟨_, rfl⟩
    go_wp2_with (at_next; refine wpList_next_ranges _ rfl _ rfl 30 (int_keyed Tryz.underlying30) R1 encU id (fun key kl hk => by obtain ⟨x, hx, _⟩ := keyOf_u32 Tryz.underlying30 hk; exact ⟨x, hx⟩) (fun v _ _ => ⟨v, rfl⟩) mb _ _ _ _ _ rfl hrg0 ?_ ?_)
    · intro hc0 hl0
      have h10 := h1.kept st0 (by omega)
      have d0 := h10.cell 0 (v := .int .i64 s.conn) (by rfl)
      have d1 := h10.cell 1 (v := .int .i64 s.first) (by rfl)
      have d2 := h10.cell 2 (v := .map (some mb)) (by rfl)
      have stM := ((Stp.refl 0 0 st0.fresh).alloc (.map #[] 0)).label (k := wa.heap.size) (m + 1) (Nat.le_refl _) (by simp)
      have hmN := Mp.new wa lab (m + 1)
      have h1M := h10.kept stM (by omega)
      have h2M := (h2.kept st0 (by omega)).kept stM (by omega)
      obtain ⟨D2, hown2, _, hhas2⟩ := h2M.owns (by simp) (by simp)
      have hno2 : ∀ x, has D2 (.int .u32 x) = true → False := fun x hx => by simpa using (hhas2 x).1 hx
      have HNO2 := Lib.hid hno2
      have dM0 := h1M.cell 0 (v := .int .i64 s.conn) (by rfl)
      have dM1 := h1M.cell 1 (v := .int .i64 s.first) (by rfl)
      have dM2 := h1M.cell 2 (v := .map (some mb)) (by rfl)
      clear hhas2 hno2 hrg0 hown hl0 hc0
      go_wp2_with (first | (refine wp_makeMap rfl _ rfl ?_) | (at_range; refine wpList_range_own _ rfl _ 147 rfl 30 3 (int_keyed Tryz.underlying30) Tryz.underlying147 _ mb _ _ rfl hown2 ?_; intro w3 hrg3 hg3 hs3))
      try go_frame
      have st3 : Stp 0 0 (wa.alloc (.map #[] 0)) (upd lab wa.heap.size (m + 1)) w3 (upd lab wa.heap.size (m + 1)) := (Stp.refl 0 0 stM.fresh).grown hg3 (by simp)
      go_loopw [9] (fun _ wq => wq = w3) (fun _ _ => 0)
      case atStart => rfl
      case round =>
        obtain rfl := hrel
        go_wp2_with (at_next; refine wpList_next_ranges _ rfl _ rfl 30 (int_keyed Tryz.underlying30) R1 encU id (fun key kl hk => by obtain ⟨x, hx, _⟩ := keyOf_u32 Tryz.underlying30 hk; exact ⟨x, hx⟩) (fun v _ _ => ⟨v, rfl⟩) mb _ _ _ _ _ rfl hrg3 ?_ ?_)
        · intros
          have h1Q := h1M.kept st3 (by omega)
          have hmQ := hmN.kept st3 (by omega)
          rw [hs0] at hmQ h1Q st3 stM
          have e0 := h1Q.cell 0 (v := .int .i64 s.conn) (by rfl)
          have e1 := h1Q.cell 1 (v := .int .i64 s.first) (by rfl)
          have e2 := h1Q.cell 2 (v := .map (some mb)) (by rfl)
          have k1 := h1Q.free 1
          have k2 := h1Q.free 2
          go_wp2
          go_ret
          have b1 := h1Q.store 2 (.map (some (w.heap.size + 1)))
          have t1 := h1Q.storeStp st3.fresh 2 (.map (some (w.heap.size + 1)))
          have b2 := b1.store 1 (.int .i64 n)
          have t2 := t1.trans (b1.storeStp t1.fresh 1 (.int .i64 n))
          refine ⟨_, rfl, ⟨w.heap.size + 1, b2, ?_⟩, (((st0.any m (m + 2)).trans (stM.any m (m + 2))).trans (st3.any m (m + 2))).trans (t2.mono (by omega) (by omega))⟩
          have hz := Mp.kept (l := []) hmQ t2 (Or.inr (Nat.le_refl _))
          simpa [ho] using hz
    · intro x c kl yd yp w2 cnt2 hkey hlk hv hat hrg2 hlt hg2 hs2 hen
      exfalso
      obtain ⟨x', ex, rfl⟩ := keyOf_u32 Tryz.underlying30 hkey
      exact HNO.out _ hlk
end Go.Proofs.YtlbaiighiaanoaaGreatDoor

/- The contract of Encoder.Limit where the limit stays. -/
namespace Go.Proofs.YtlbaiighiaanoaaGreatDoor
open Go Go.Proofs Go.RowKit
set_option maxRecDepth 100000
set_option linter.unusedVariables false
set_option linter.unusedSimpArgs false
theorem encLimit_same (w : World) (lab : Nat → Nat) (m p : Nat) (s : Enc) (n : Int) (h : EncAt fixedT w.heap lab m p s) (hm : min n 4096 = s.tab.most) (h0 : 0 ≤ n) :
    Calls Tryz.prog 140 #[ptr p, .int .u32 n] w (PostV w (.tuple #[])) := by
  obtain ⟨tb, h1, lv, fv, h2, _⟩ := h
  have c0 := h1.cell 0 (v := ptr tb) (by rfl)
  have d0 := h2.cell 0 (v := .int .i64 s.tab.most) (by rfl)
  have hw : IntKind.i64.wrap s.tab.most = s.tab.most := wrap_i64 _ (by omega) (by omega)
  go_enter Tryz.func140, Tryz.ntmps140
  go_wp2
  go_end0
  exact ⟨rfl, rfl⟩
end Go.Proofs.YtlbaiighiaanoaaGreatDoor

/- The contract of settings.Parse. -/
namespace Go.Proofs.YtlbaiighiaanoaaGreatDoor
open Go Go.Proofs Go.RowKit
set_option maxRecDepth 100000
set_option linter.unusedVariables false
set_option linter.unusedSimpArgs false
theorem ESet : ElemI Tryz.prog 137 103 2 8 (.agg #[.int .u16 0, .int .u32 0]) := ⟨Tryz.underlying137, info_parts (by kernel_rfl), rfl, by decide⟩
def setCells (p : Nat × Nat) : List Value := [.int .u16 p.1, .int .u32 p.2]
/-- The settings of a payload. -/
def setsF : Nat → ByteArray → List (Nat × Nat)
  | 0, _ => []
  | n + 1, h => if (decide (6 ≤ h.size)) = true then (getN h 0 2, getN h 2 4) :: setsF n (h.extract 6 h.size) else []
def PostSets (w : World) (lab : Nat → Nat) (l : List (Nat × Nat)) (e : Ending) (w' : World) : Prop :=
  ∃ A cap, e = .returned (.slice A l.length cap) ∧ Owns w'.heap w.heap.size 103 2 (.slice A l.length cap) l.length (l.flatMap setCells) ∧ Stp 0 0 w lab w' lab
def strSize : Value → Nat | .string h => h.size | _ => 0
set_option maxHeartbeats 1000000 in
theorem setsParse_spec (s : ByteArray) (w : World) (lab : Nat → Nat) (hf : Fr w.heap lab) (hs : s.size ≤ 1099511627776) :
    Calls Tryz.prog 138 #[.string s] w (PostSets w lab (setsF (s.size + 1) s)) := by
  obtain ⟨FR, hFR⟩ : ∃ FR, setsF (s.size + 1) s = FR := ⟨_, rfl⟩
  rw [hFR]
  have HF := Lib.hid hFR.symm
  clear hFR
  go_enter Tryz.func138, Tryz.ntmps138
  go_wp2
  go_loopw [0, 3] (fun d v wr => ∃ (k : Nat) (done : List (Nat × Nat)) (hh : ByteArray), d = .string hh ∧ FR = done ++ setsF (k + 1) hh ∧ hh.size ≤ k ∧ done.length + hh.size ≤ s.size ∧
      (∃ A cap, v = .slice A done.length cap) ∧ Owns wr.heap w.heap.size 103 2 v done.length (done.flatMap setCells) ∧ Stp 0 0 w lab wr lab) (fun d _ _ => strSize d)
  case atStart => exact ⟨s.size, [], s, rfl, HF.out, Nat.le_refl _, by simp, ⟨none, 0, rfl⟩, ⟨rfl, .inl ⟨rfl, rfl⟩⟩, Stp.refl _ _ hf⟩
  case round =>
    obtain ⟨k, done, hh, rfl, hfr, hk, hdn, ⟨A, cap, rfl⟩, ho, st⟩ := hrel
    have hun : setsF (k + 1) hh = if (decide (6 ≤ hh.size)) = true then (getN hh 0 2, getN hh 2 4) :: setsF k (hh.extract 6 hh.size) else [] := rfl
    rw [hun] at hfr
    clear hun
    have HFR := Lib.hid hfr
    clear hfr
    cases g6 : decide (6 ≤ hh.size)
    · have g6' : decide ((6 : Int) ≤ hh.size) = false := by simp at g6 ⊢; omega
      go_wp2
      go_ret
      have hR : FR = done := by rw [HFR.out, g6]; simp
      rw [hR]
      exact ⟨A, cap, rfl, ho, st⟩
    · have g6' : decide ((6 : Int) ≤ hh.size) = true := by simp at g6 ⊢; omega
      have h6 : 6 ≤ hh.size := by simpa using g6
      have h6i : (6 : Int) ≤ (hh.size : Int) := by omega
      obtain ⟨k, rfl⟩ : ∃ j, k = j + 1 := ⟨k - 1, by omega⟩
      have hl2 := getN_lt hh 0 2
      have hl4 := getN_lt hh 2 4
      have HG2 := fun w' hf' => get_yes hh 0 2 w' lab hf' (by omega) (by omega) (by omega) (by omega) (by omega)
      have HG4 := fun w' hf' => get_yes hh 2 4 w' lab hf' (by omega) (by omega) (by omega) (by omega) (by omega)
      rw [show (0 : Int).toNat = 0 from rfl, show (2 : Int).toNat = 2 from rfl] at HG2
      rw [show (4 : Int).toNat = 4 from rfl, show (2 : Int).toNat = 2 from rfl] at HG4
      obtain ⟨a, ha⟩ : ∃ a, getN hh 0 2 = a := ⟨_, rfl⟩
      obtain ⟨b, hb⟩ : ∃ b, getN hh 2 4 = b := ⟨_, rfl⟩
      rw [ha] at HG2 hl2
      rw [hb] at HG4 hl4
      have HA := Lib.hid ha
      have HB := Lib.hid hb
      clear ha hb
      have wa : IntKind.u16.wrap (a : Int) = a := by rw [IntKind.wrap_u16]; omega
      have wb : IntKind.u32.wrap (b : Int) = b := wraps_u32 _ (by omega) (by omega)
      have HG2 := Lib.hid HG2
      have HG4 := Lib.hid HG4
      have hone : ∀ u ∈ (#[Value.int .u16 (a : Int), Value.int .u32 (b : Int)] : Array Value).toList, u.oneCell' = true := by intro u hu; simp at hu; rcases hu with rfl | rfl <;> rfl
      have hmx : done.length + 1 ≤ maxLen := by unfold maxLen; omega
      have hby : (done.length + 1) * 8 ≤ 140737488355328 := by omega
      go_wp2_with fail
      refine (HG2.out _ st.fresh).mono ?_
      rintro e w1 ⟨rfl, s1⟩
      go_wp2_with fail
      refine (HG4.out _ s1.fresh).mono ?_
      rintro e w2 ⟨rfl, s2⟩
      have st2 := (st.trans s1).trans s2
      have ho2 := ho.kept (s1.trans s2) (fun _ _ _ => by omega)
      go_wp2_with (refine wp_appOwn rfl _ _ 137 137 rfl ESet (.inr ⟨_, Tryz.underlying137⟩) rfl (ho2.alloc _) rfl (Src.ofBlock Tryz.prog (heap_alloc_new _ _) (m := 1) rfl hone) hmx hby ?_ ?_; (refine Nat.le_trans st2.size ?_; simp only [World.size_alloc]; omega); intro A2 cap2 w3 ho3 hgr3)
      have st3 := (st2.alloc _).grown hgr3 (fun j hj => .inl (ho2.lt j hj).1)
      go_roundw
      case rel =>
        refine ⟨k, done ++ [(a, b)], hh.extract 6 hh.size, rfl, ?_, ?_, ?_, ⟨A2, cap2, by rw [List.length_append]; rfl⟩, ?_, st3⟩
        · rw [HFR.out, g6, HA.out, HB.out]; simp
        · simp; omega
        · simp; omega
        · rw [List.length_append, List.flatMap_append]; exact ho3
      case measure => simp [strSize]; omega
end Go.Proofs.YtlbaiighiaanoaaGreatDoor

/- The contract of settings.Values.one. -/
namespace Go.Proofs.YtlbaiighiaanoaaGreatDoor
open Go Go.Proofs Go.RowKit
set_option maxRecDepth 100000
set_option linter.unusedVariables false
set_option linter.unusedSimpArgs false
def peerCells (P : Peer) : Array Value := #[.int .u32 P.table, .int .u32 P.streams, .int .u32 P.window, .int .u32 P.frame, .int .u32 P.list, .bool P.push]
/-- A setting is told: the values behind it, the code. -/
def oneF (client : Bool) (P : Peer) (id v : Nat) : Peer × Nat :=
  if id = 1 then ({ P with table := v }, 0)
  else if id = 2 then (if (decide (1 < v) || (client && (v == 1))) = true then (P, 1) else ({ P with push := v == 1 }, 0))
  else if id = 3 then ({ P with streams := v }, 0)
  else if id = 4 then (if decide (2147483647 < v) = true then (P, 3) else ({ P with window := v }, 0))
  else if id = 5 then (if (decide (v < 16384) || decide (16777215 < v)) = true then (P, 1) else ({ P with frame := v }, 0))
  else if id = 6 then ({ P with list := v }, 0)
  else (P, 0)
def PostOne (w : World) (b id v : Nat) (P P' : Peer) (c : Nat) (e : Ending) (w' : World) : Prop :=
  e = .returned (.int .u32 c) ∧ ((w' = w.alloc (.cells #[.int .u16 id, .int .u32 v] 103) ∧ P' = P) ∨ ∃ k x, w' = (w.alloc (.cells #[.int .u16 id, .int .u32 v] 103)).setCell ⟨b, k, none⟩ x ∧ (peerCells P).setIfInBounds k x = peerCells P')
set_option maxHeartbeats 2000000 in
theorem one_spec (client : Bool) (P : Peer) (b id v : Nat) (w : World) (lab : Nat → Nat) (l : Nat) (hb : Blk w.heap lab b l (peerCells P) 91) (hv : v < 4294967296) :
    Calls Tryz.prog 158 #[ptr b, .bool client, .agg #[.int .u16 id, .int .u32 v]] w (PostOne w b id v P (oneF client P id v).1 (oneF client P id v).2) := by
  have c0 : ∀ o : Obj, (w.alloc o).cell? ⟨b, 0, none⟩ = some (.int .u32 P.table) := fun o => (hb.alloc o).cell 0 (by rfl)
  have c1 : ∀ o : Obj, (w.alloc o).cell? ⟨b, 1, none⟩ = some (.int .u32 P.streams) := fun o => (hb.alloc o).cell 1 (by rfl)
  have c2 : ∀ o : Obj, (w.alloc o).cell? ⟨b, 2, none⟩ = some (.int .u32 P.window) := fun o => (hb.alloc o).cell 2 (by rfl)
  have c3 : ∀ o : Obj, (w.alloc o).cell? ⟨b, 3, none⟩ = some (.int .u32 P.frame) := fun o => (hb.alloc o).cell 3 (by rfl)
  have c4 : ∀ o : Obj, (w.alloc o).cell? ⟨b, 4, none⟩ = some (.int .u32 P.list) := fun o => (hb.alloc o).cell 4 (by rfl)
  have c5 : ∀ o : Obj, (w.alloc o).cell? ⟨b, 5, none⟩ = some (.bool P.push) := fun o => (hb.alloc o).cell 5 (by rfl)
  have k0 : ∀ o : Obj, (w.alloc o).frozen? ⟨b, 0, none⟩ = false := fun o => (hb.alloc o).free 0
  have k1 : ∀ o : Obj, (w.alloc o).frozen? ⟨b, 1, none⟩ = false := fun o => (hb.alloc o).free 1
  have k2 : ∀ o : Obj, (w.alloc o).frozen? ⟨b, 2, none⟩ = false := fun o => (hb.alloc o).free 2
  have k3 : ∀ o : Obj, (w.alloc o).frozen? ⟨b, 3, none⟩ = false := fun o => (hb.alloc o).free 3
  have k4 : ∀ o : Obj, (w.alloc o).frozen? ⟨b, 4, none⟩ = false := fun o => (hb.alloc o).free 4
  have k5 : ∀ o : Obj, (w.alloc o).frozen? ⟨b, 5, none⟩ = false := fun o => (hb.alloc o).free 5
  rcases (show id = 1 ∨ id = 2 ∨ id = 3 ∨ id = 4 ∨ id = 5 ∨ id = 6 ∨ (id ≠ 1 ∧ id ≠ 2 ∧ id ≠ 3 ∧ id ≠ 4 ∧ id ≠ 5 ∧ id ≠ 6) by omega) with rfl | rfl | rfl | rfl | rfl | rfl | ⟨n1, n2, n3, n4, n5, n6⟩
  · go_enter Tryz.func158, Tryz.ntmps158
    go_wp2
    go_ret
    exact ⟨rfl, .inr ⟨0, .int .u32 v, rfl, rfl⟩⟩
  · have ho : oneF client P 2 v = (if (decide (1 < v) || (client && (v == 1))) = true then (P, 1) else ({ P with push := v == 1 }, 0)) := rfl
    cases g1 : decide (1 < v) <;> cases client <;> cases g2 : (v == 1)
    all_goals
      have g1' : decide ((1 : Int) < v) = decide (1 < v) := by rw [Bool.eq_iff_iff]; simp; omega
      rw [g1] at g1'
      have g2' : ((v : Int) == 1) = (v == 1) := by rw [Bool.eq_iff_iff]; simp; omega
      rw [g2] at g2'
      rw [g1, g2] at ho
      simp only [Bool.or_true, Bool.or_false, Bool.true_or, Bool.false_or, Bool.and_true, Bool.and_false, Bool.true_and, Bool.false_and, if_true, if_false, Bool.false_eq_true] at ho
      have HO := Lib.hid ho
      clear ho g1 g2
      go_enter Tryz.func158, Tryz.ntmps158
      go_wp2
      go_ret
      rw [HO.out]
      first | exact ⟨rfl, .inl ⟨rfl, rfl⟩⟩ | exact ⟨rfl, .inr ⟨5, .bool _, rfl, rfl⟩⟩
  · go_enter Tryz.func158, Tryz.ntmps158
    go_wp2
    go_ret
    exact ⟨rfl, .inr ⟨1, .int .u32 v, rfl, rfl⟩⟩
  · have ho : oneF client P 4 v = (if decide (2147483647 < v) = true then (P, 3) else ({ P with window := v }, 0)) := rfl
    cases g1 : decide (2147483647 < v)
    all_goals
      have g1' : decide ((2147483647 : Int) < v) = decide (2147483647 < v) := by rw [Bool.eq_iff_iff]; simp; omega
      rw [g1] at g1' ho
      simp only [if_true, if_false, Bool.false_eq_true] at ho
      have HO := Lib.hid ho
      clear ho g1
      go_enter Tryz.func158, Tryz.ntmps158
      go_wp2
      go_ret
      rw [HO.out]
      first | exact ⟨rfl, .inl ⟨rfl, rfl⟩⟩ | exact ⟨rfl, .inr ⟨2, .int .u32 v, rfl, rfl⟩⟩
  · have ho : oneF client P 5 v = (if (decide (v < 16384) || decide (16777215 < v)) = true then (P, 1) else ({ P with frame := v }, 0)) := rfl
    cases g1 : decide (v < 16384) <;> cases g2 : decide (16777215 < v)
    all_goals
      have g1' : decide ((v : Int) < 16384) = decide (v < 16384) := by rw [Bool.eq_iff_iff]; simp; omega
      rw [g1] at g1'
      have g2' : decide ((16777215 : Int) < v) = decide (16777215 < v) := by rw [Bool.eq_iff_iff]; simp; omega
      rw [g2] at g2'
      rw [g1, g2] at ho
      simp only [Bool.or_true, Bool.or_false, Bool.true_or, Bool.false_or, if_true, if_false, Bool.false_eq_true] at ho
      have HO := Lib.hid ho
      clear ho g1 g2
      go_enter Tryz.func158, Tryz.ntmps158
      go_wp2
      go_ret
      rw [HO.out]
      first | exact ⟨rfl, .inl ⟨rfl, rfl⟩⟩ | exact ⟨rfl, .inr ⟨3, .int .u32 v, rfl, rfl⟩⟩
  · go_enter Tryz.func158, Tryz.ntmps158
    go_wp2
    go_ret
    exact ⟨rfl, .inr ⟨4, .int .u32 v, rfl, rfl⟩⟩
  · have ho : oneF client P id v = (P, 0) := by unfold oneF; rw [if_neg n1, if_neg n2, if_neg n3, if_neg n4, if_neg n5, if_neg n6]
    rw [ho]
    have m1 : ((id : Int) == 1) = false := by rw [beq_eq_false_iff_ne]; omega
    have m2 : ((id : Int) == 2) = false := by rw [beq_eq_false_iff_ne]; omega
    have m3 : ((id : Int) == 3) = false := by rw [beq_eq_false_iff_ne]; omega
    have m4 : ((id : Int) == 4) = false := by rw [beq_eq_false_iff_ne]; omega
    have m5 : ((id : Int) == 5) = false := by rw [beq_eq_false_iff_ne]; omega
    have m6 : ((id : Int) == 6) = false := by rw [beq_eq_false_iff_ne]; omega
    clear n1 n2 n3 n4 n5 n6 ho
    go_enter Tryz.func158, Tryz.ntmps158
    go_wp2
    go_ret
    exact ⟨rfl, .inl ⟨rfl, rfl⟩⟩
end Go.Proofs.YtlbaiighiaanoaaGreatDoor

/- The contract of settings.Apply. -/
namespace Go.Proofs.YtlbaiighiaanoaaGreatDoor
open Go Go.Proofs Go.RowKit
set_option maxRecDepth 100000
set_option linter.unusedVariables false
set_option linter.unusedSimpArgs false
/-- Some settings are told: the values behind them, the code. -/
def applyF (client : Bool) (v0 : Peer) : Peer → List (Nat × Nat) → Peer × Nat
  | P, [] => (P, 0)
  | P, q :: l => if ((oneF client P q.1 q.2).2 != 0) = true then (v0, (oneF client P q.1 q.2).2) else applyF client v0 (oneF client P q.1 q.2).1 l
def peerV (P : Peer) : Value := .agg (peerCells P)
theorem setCells_len (l : List (Nat × Nat)) : (l.flatMap setCells).length = 2 * l.length := by
  induction l with
  | nil => rfl
  | cons q l ih => rw [List.flatMap_cons, List.length_append, ih]; simp [setCells]; omega
theorem Owns.setting {w : World} {base : Nat} {v : Value} {done rest : List (Nat × Nat)} {q : Nat × Nat} (h : Owns w.heap base 103 2 v (done ++ q :: rest).length ((done ++ q :: rest).flatMap setCells)) :
    ∃ g cap, v = .slice (some ⟨g, 0, none⟩) (done ++ q :: rest).length cap ∧ w.cell? ⟨g, done.length * 2, none⟩ = some (.int .u16 q.1) ∧ w.cell? ⟨g, done.length * 2 + 1, none⟩ = some (.int .u32 q.2) := by
  have hne : (done ++ q :: rest).length ≠ 0 := by simp
  rcases h.2 with ⟨rfl, h0⟩ | ⟨g, cap, cur, rfl, _, hg, _, _, _, ht⟩
  · exact absurd h0 hne
  · have hx : (done ++ q :: rest).flatMap setCells = done.flatMap setCells ++ (Value.int .u16 q.1 :: Value.int .u32 q.2 :: rest.flatMap setCells) := by rw [List.flatMap_append, List.flatMap_cons]; rfl
    have hl := setCells_len done
    have c0 := World.ownsRow.cells (Owns.to h) (g := g) rfl (2 * done.length) (.int .u16 q.1) (by rw [hx, ← hl, List.getElem?_append_right (Nat.le_refl _), Nat.sub_self]; rfl)
    have c1 := World.ownsRow.cells (Owns.to h) (g := g) rfl (2 * done.length + 1) (.int .u32 q.2) (by rw [hx, ← hl, List.getElem?_append_right (by omega), Nat.add_sub_cancel_left]; rfl)
    have ha : ∀ j, (⟨g, 0, none⟩ : Addr).add j = ⟨g, j, none⟩ := fun j => by unfold Addr.add; split <;> simp_all
    rw [ha, Nat.mul_comm] at c0 c1
    exact ⟨g, cap, rfl, c0, c1⟩
def zeroPeer : Array Value := #[.int .u32 0, .int .u32 0, .int .u32 0, .int .u32 0, .int .u32 0, .bool false]
set_option maxHeartbeats 1000000 in
theorem apply_spec (client : Bool) (P : Peer) (l : List (Nat × Nat)) (hl : ∀ q ∈ l, q.2 < 4294967296) (w : World) (lab : Nat → Nat) (hf : Fr w.heap lab) (A : Option Addr) (cap : Nat) (ho : Owns w.heap 0 103 2 (.slice A l.length cap) l.length (l.flatMap setCells)) (hlen : l.length ≤ 1099511627776) :
    Calls Tryz.prog 137 #[peerV P, .bool client, .slice A l.length cap] w (PostS w lab (.tuple #[peerV (applyF client P P l).1, .int .u32 (applyF client P P l).2])) := by
  obtain ⟨R, hR⟩ : ∃ R, applyF client P P l = R := ⟨_, rfl⟩
  rw [hR]
  have HR := Lib.hid hR
  clear hR
  have st1 := (Stp.refl 0 0 hf).alloc (.cells (peerCells P) 91)
  have st2 := st1.alloc (.cells zeroPeer 91)
  have st3 := st2.alloc (.cells (peerCells P) 91)
  have b1 := ((Blk.at_new w lab hf (peerCells P) 91).alloc (.cells zeroPeer 91)).alloc (.cells (peerCells P) 91)
  have b2 := (Blk.at_new (w.alloc (.cells (peerCells P) 91)) lab st1.fresh zeroPeer 91).alloc (.cells (peerCells P) 91)
  have b3 := Blk.at_new ((w.alloc (.cells (peerCells P) 91)).alloc (.cells zeroPeer 91)) lab st2.fresh (peerCells P) 91
  simp only [World.size_alloc] at b2 b3
  obtain ⟨L, hL⟩ : ∃ L, l.length = L := ⟨_, rfl⟩
  have ho' := ho
  rw [hL] at ho'
  rw [hL]
  dsimp only [peerV]
  unfold peerCells at *
  go_enter Tryz.func137, Tryz.ntmps137
  go_wp2
  go_loopw [15] (fun i wr => ∃ (done rest : List (Nat × Nat)) (cur : Peer), l = done ++ rest ∧ i = .int .i64 done.length ∧ applyF client P cur rest = R ∧ Blk wr.heap lab w.heap.size 0 (peerCells P) 91 ∧ Blk wr.heap lab (w.heap.size + 1) 0 zeroPeer 91 ∧ Blk wr.heap lab (w.heap.size + 1 + 1) 0 (peerCells cur) 91 ∧ Stp 0 0 w lab wr lab) (fun i _ => l.length - (intOf i).toNat)
  case atStart => exact ⟨[], l, P, rfl, rfl, HR.out, b1, b2, b3, st3⟩
  case round =>
    obtain ⟨done, rest, cur, hd, rfl, hap, e1, e2, e3, st⟩ := hrel
    cases rest with
    | nil =>
      have hdl : done.length = L := by rw [← hL, hd]; simp
      have hap2 : R = (cur, 0) := hap.symm
      have c0 := e3.cell 0 (v := .int .u32 cur.table) (by rfl)
      have c1 := e3.cell 1 (v := .int .u32 cur.streams) (by rfl)
      have c2 := e3.cell 2 (v := .int .u32 cur.window) (by rfl)
      have c3 := e3.cell 3 (v := .int .u32 cur.frame) (by rfl)
      have c4 := e3.cell 4 (v := .int .u32 cur.list) (by rfl)
      have c5 := e3.cell 5 (v := .bool cur.push) (by rfl)
      have z0 := e2.cell 0 (v := .int .u32 0) (by rfl)
      have k0 := e2.free 0
      have z1 := e2.cell 1 (v := .int .u32 0) (by rfl)
      have k1 := e2.free 1
      have z2 := e2.cell 2 (v := .int .u32 0) (by rfl)
      have k2 := e2.free 2
      have z3 := e2.cell 3 (v := .int .u32 0) (by rfl)
      have k3 := e2.free 3
      have z4 := e2.cell 4 (v := .int .u32 0) (by rfl)
      have k4 := e2.free 4
      have z5 := e2.cell 5 (v := .bool false) (by rfl)
      have k5 := e2.free 5
      have HAP := Lib.hid hap2
      clear hl hlen ho ho' hd hap hap2 HR b1 b2 b3 e1
      have g : decide ((done.length : Int) < L) = false := by simp; omega
      clear hL
      go_wp2
      refine bodyPost_ret ?_ rfl ⟨rfl, ?_⟩
      · rw [HAP.out]; simp [results, Tryz.results137, go_sem, z0, z1, z2, z3, z4, z5, peerCells]
      · exact ((((((st.setCell _ (.inl (by show w.heap.size ≤ w.heap.size + 1; omega))).setCell _ (.inl (by show w.heap.size ≤ w.heap.size + 1; omega))).setCell _ (.inl (by show w.heap.size ≤ w.heap.size + 1; omega))).setCell _ (.inl (by show w.heap.size ≤ w.heap.size + 1; omega))).setCell _ (.inl (by show w.heap.size ≤ w.heap.size + 1; omega))).setCell _ (.inl (by show w.heap.size ≤ w.heap.size + 1; omega)))
    | cons q rest =>
      subst hd
      obtain ⟨g, cap2, hv, q0, q1⟩ := Owns.setting (ho.kept st (fun _ _ _ => by omega))
      obtain ⟨rfl, -, -⟩ : A = some ⟨g, 0, none⟩ ∧ True ∧ True := by injection hv with h1 h2 h3; exact ⟨h1, trivial, trivial⟩
      have hq := hl q (by simp)
      have g' : decide (done.length < L) = true := by rw [← hL]; simp
      have gi : (done.length : Int) < (L : Int) := by rw [← hL]; simp; omega
      have ONE := Lib.hid fun (w' : World) (hb : Blk w'.heap lab (w.heap.size + 1 + 1) 0 (peerCells cur) 91) => one_spec client cur (w.heap.size + 1 + 1) q.1 q.2 w' lab 0 hb hq
      have hap2 : R = if ((oneF client cur q.1 q.2).2 != 0) = true then (P, (oneF client cur q.1 q.2).2) else applyF client P (oneF client cur q.1 q.2).1 rest := hap.symm
      generalize oneF client cur q.1 q.2 = nx at *
      obtain ⟨nP, nc⟩ := nx
      dsimp only at hap2 ONE
      have HAP := Lib.hid hap2
      have hdr : (done ++ q :: rest).length - done.length = rest.length + 1 := by simp
      have HDR := Lib.hid hdr
      have hdb : done.length ≤ 1099511627776 := by simp at hlen; omega
      clear hap hap2 hl hlen ho ho' HR b1 b2 b3 hdr hq
      have HL := Lib.hid hL
      clear hL
      go_wp2_with fail
      refine (ONE.out _ (e3.alloc _)).mono ?_
      rintro e w2 ⟨rfl, hw⟩
      obtain ⟨f1, f2, f3, s2⟩ : Blk w2.heap lab w.heap.size 0 (peerCells P) 91 ∧ Blk w2.heap lab (w.heap.size + 1) 0 zeroPeer 91 ∧ Blk w2.heap lab (w.heap.size + 1 + 1) 0 (peerCells nP) 91 ∧ Stp 0 0 w lab w2 lab := by
        rcases hw with ⟨rfl, rfl⟩ | ⟨k, x, rfl, hx⟩
        · exact ⟨(e1.alloc _).alloc _, (e2.alloc _).alloc _, (e3.alloc _).alloc _, (st.alloc _).alloc _⟩
        · refine ⟨((e1.alloc _).alloc _).other (by simp; omega) x, ((e2.alloc _).alloc _).other (by simp) x, ?_, ((st.alloc _).alloc _).setCell _ (.inl (by simp; omega))⟩
          have := ((e3.alloc (.cells #[.int .u16 q.1, .int .u32 q.2] 103)).alloc (.cells #[.int .u16 q.1, .int .u32 q.2] 103)).store k x
          rw [hx] at this
          exact this
      clear hw
      cases gc : (nc != 0)
      · have gc' : ((nc : Int) != 0) = false := bneI gc
        have hR : applyF client P nP rest = R := by rw [HAP.out, gc]; simp
        go_wp2
        go_roundw
        case rel =>
          exact ⟨done ++ [q], rest, nP, by simp, by rw [List.length_append]; go_num, hR, f1, f2, f3, s2⟩
        case measure => simp [intOf]; omega
      · have gc' : ((nc : Int) != 0) = true := bneI gc
        have hR : R = (P, nc) := by rw [HAP.out, gc]; simp
        have HRR := Lib.hid hR
        clear hR
        have c0 := f1.cell 0 (v := .int .u32 P.table) (by rfl)
        have c1 := f1.cell 1 (v := .int .u32 P.streams) (by rfl)
        have c2 := f1.cell 2 (v := .int .u32 P.window) (by rfl)
        have c3 := f1.cell 3 (v := .int .u32 P.frame) (by rfl)
        have c4 := f1.cell 4 (v := .int .u32 P.list) (by rfl)
        have c5 := f1.cell 5 (v := .bool P.push) (by rfl)
        have z0 := f2.cell 0 (v := .int .u32 0) (by rfl)
        have k0 := f2.free 0
        have z1 := f2.cell 1 (v := .int .u32 0) (by rfl)
        have k1 := f2.free 1
        have z2 := f2.cell 2 (v := .int .u32 0) (by rfl)
        have k2 := f2.free 2
        have z3 := f2.cell 3 (v := .int .u32 0) (by rfl)
        have k3 := f2.free 3
        have z4 := f2.cell 4 (v := .int .u32 0) (by rfl)
        have k4 := f2.free 4
        have z5 := f2.cell 5 (v := .bool false) (by rfl)
        have k5 := f2.free 5
        go_wp2
        refine bodyPost_ret ?_ rfl ⟨rfl, ?_⟩
        · rw [HRR.out]; simp [results, Tryz.results137, go_sem, z0, z1, z2, z3, z4, z5, peerCells]
        · exact ((((((s2.setCell _ (.inl (by show w.heap.size ≤ w.heap.size + 1; omega))).setCell _ (.inl (by show w.heap.size ≤ w.heap.size + 1; omega))).setCell _ (.inl (by show w.heap.size ≤ w.heap.size + 1; omega))).setCell _ (.inl (by show w.heap.size ≤ w.heap.size + 1; omega))).setCell _ (.inl (by show w.heap.size ≤ w.heap.size + 1; omega))).setCell _ (.inl (by show w.heap.size ≤ w.heap.size + 1; omega)))
end Go.Proofs.YtlbaiighiaanoaaGreatDoor

/- Contracts of Conn.push and flush where nothing waits and at most one stream is open. -/
namespace Go.Proofs.YtlbaiighiaanoaaGreatDoor
open Go Go.Proofs Go.RowKit
set_option maxRecDepth 100000
set_option linter.unusedVariables false
set_option linter.unusedSimpArgs false
theorem lookup_side (id : Int) (l : List (Int × Side)) (ok : Bool) : (if ok = true then Value.tuple #[((l.map fun p => (p.1, sideV p.2)).lookup id).getD (.agg #[.int .i64 0, .string ⟨#[]⟩, .bool false]), .bool ((l.map fun p => (p.1, sideV p.2)).lookup id).isSome] else ((l.map fun p => (p.1, sideV p.2)).lookup id).getD (.agg #[.int .i64 0, .string ⟨#[]⟩, .bool false]))
    = if ok = true then .tuple #[sideV ((l.lookup id).getD ⟨0, ⟨#[]⟩, false⟩), .bool (l.lookup id).isSome] else sideV ((l.lookup id).getD ⟨0, ⟨#[]⟩, false⟩) := by
  rw [show (l.map fun p => (p.1, sideV p.2)).lookup id = (l.lookup id).map sideV from lookup_map sideV id l]
  cases l.lookup id <;> rfl
theorem push_idle (w : World) (lab : Nat → Nat) (hf : Fr w.heap lab) (B p : Nat) (hB : 0 < B) (g : CG) (s : CS) (id : Int) (st : Int) (h : ConnAt fixedT w.heap lab B p g s) (hx : s.opens.lookup id = some ⟨st, ⟨#[]⟩, false⟩) :
    Calls Tryz.prog 87 #[ptr p, .int .u32 id] w (PostC w lab B p (putF s id ⟨st, ⟨#[]⟩, false⟩) (.tuple #[])) := by
  have c11 := h.blk.cell 11 (v := .map (some g.om)) rfl
  have hmp := h.parts.opens
  have hr := lookup_side id s.opens false
  rw [hx] at hr
  have hr2 := hr.trans (show _ = Value.agg #[.int .i64 st, .string ⟨#[]⟩, .bool false] from rfl)
  have HR := Lib.hid hr2
  clear hr2
  clear hr
  have hbx := Blk.at_new w lab hf #[.int .i64 st, .string ⟨#[]⟩, .bool false] 115
  have st0 := (Stp.refl 0 0 hf).alloc (.cells #[.int .i64 st, .string ⟨#[]⟩, .bool false] 115)
  have h1 := h.kept st0 (by omega) (by omega)
  have d0 := hbx.cell 0 rfl
  have d1 := hbx.cell 1 rfl
  have d2 := hbx.cell 2 rfl
  have PUT := Lib.hid (put_spec' _ lab st0.fresh B p hB g s id ⟨st, ⟨#[]⟩, false⟩ h1)
  go_enter Tryz.func87, Tryz.ntmps87
  go_wp2_with (at_lookup; refine wp_look rfl _ _ _ false rfl Tryz.underlying95 Tryz.underlying30 rfl hmp rfl zv_side HR.out ?_)
  go_loopw [5] (fun _ wr => wr = w.alloc (.cells #[.int .i64 st, .string ⟨#[]⟩, .bool false] 115)) (fun _ _ => 0)
  case atStart => rfl
  case round =>
    obtain rfl := hrel
    go_wp2_with fail
    refine PUT.out.mono ?_
    rintro e w2 ⟨g2, lab2, rfl, h2, st2⟩
    go_wp2
    go_end0
    exact ⟨g2, lab2, rfl, h2, (st0.any _ _).trans st2⟩
/-- What the windows let go, where nothing waits. -/
def flushIdleF (s : CS) : CS := match s.opens with | [] => s | (id, x) :: _ => putF s id x
theorem flush_idle (w : World) (lab : Nat → Nat) (hf : Fr w.heap lab) (B p : Nat) (hB : 0 < B) (g : CG) (s : CS) (h : ConnAt fixedT w.heap lab B p g s) (h1 : s.opens.length ≤ 1) (hk : ∀ x ∈ s.opens, 0 ≤ x.1 ∧ x.1 < 4294967296) (hi : ∀ x ∈ s.opens, x.2.wait = ⟨#[]⟩ ∧ x.2.fin = false) :
    Calls Tryz.prog 59 #[ptr p] w (PostC w lab B p (flushIdleF s) (.tuple #[])) := by
  have IDS := ids_one w lab hf B p g s h h1 hk
  obtain ⟨ops, hops⟩ : ∃ ops, s.opens = ops := ⟨_, rfl⟩
  rcases ops with _ | ⟨⟨id, x⟩, _ | ⟨y, l⟩⟩
  · have hfl : flushIdleF s = s := by unfold flushIdleF; rw [hops]
    rw [hfl]
    rw [hops] at IDS
    have IDS := Lib.hid IDS
    clear hops hfl hi hk h1
    go_enter Tryz.func59, Tryz.ntmps59
    go_wp2_with fail
    refine IDS.out.mono ?_
    rintro e w1 ⟨A, cap, rfl, ho, st1⟩
    have h1 := h.kept st1 (by omega) (by omega)
    go_wp2
    go_loopw [7] (fun i wr => i = .int .i64 0 ∧ wr = w1) (fun _ _ => 0)
    case atStart => exact ⟨rfl, rfl⟩
    case round =>
      obtain ⟨rfl, rfl⟩ := hrel
      go_wp2
      go_end0
      exact ⟨g, lab, rfl, h1, st1.any _ _⟩
  · obtain ⟨xs, xw, xf⟩ := x
    have hfl : flushIdleF s = putF s id ⟨xs, xw, xf⟩ := by unfold flushIdleF; rw [hops]
    obtain ⟨i1, i2⟩ := hi _ (by rw [hops]; exact List.mem_cons_self ..)
    dsimp only at i1 i2
    subst i1
    subst i2
    have hlk : s.opens.lookup id = some ⟨xs, ⟨#[]⟩, false⟩ := by rw [hops]; simp
    rw [hfl]
    rw [hops] at IDS
    have IDS := Lib.hid IDS
    have PSH := Lib.hid fun (w' : World) (hf' : Fr w'.heap lab) (h' : ConnAt fixedT w'.heap lab B p g s) => push_idle w' lab hf' B p hB g s id xs h' hlk
    generalize putF s id ⟨xs, ⟨#[]⟩, false⟩ = sF at *
    clear hops hfl hi hk h1 hlk
    go_enter Tryz.func59, Tryz.ntmps59
    go_wp2_with fail
    refine IDS.out.mono ?_
    rintro e w1 ⟨A, cap, rfl, ho, st1⟩
    have h1 := h.kept st1 (by omega) (by omega)
    have ho1 : Owns w1.heap w.heap.size 30 1 (.slice A 1 cap) 1 [.int .u32 id] := ho
    obtain ⟨gg, rfl, hc⟩ : ∃ gg, A = some ⟨gg, 0, none⟩ ∧ w1.cell? ⟨gg, 0, none⟩ = some (.int .u32 id) := by
      rcases ho1.2 with ⟨_, h0⟩ | ⟨gg, cp, cur, hv, _⟩
      · omega
      · have hA : A = some ⟨gg, 0, none⟩ := by injection hv
        subst hA
        have := World.ownsRow.cells (Owns.to ho1) (g := gg) rfl 0 (.int .u32 id) rfl
        exact ⟨gg, rfl, by simpa [Addr.add] using this⟩
    have hsl : (Value.slice (some ⟨gg, 0, none⟩) (idsF [(id, (⟨xs, ⟨#[]⟩, false⟩ : Side))]).length cap) = .slice (some ⟨gg, 0, none⟩) 1 cap := rfl
    rw [hsl]
    clear ho hsl
    go_wp2
    go_loopw [7] (fun i wr => (i = .int .i64 0 ∧ wr = w1) ∨ (i = .int .i64 1 ∧ ∃ g2 lab2, ConnAt fixedT wr.heap lab2 B p g2 sF ∧ Stp B (B + 16) w lab wr lab2)) (fun i _ => 1 - (intOf i).toNat)
    case atStart => exact .inl ⟨rfl, rfl⟩
    case round =>
      rcases hrel with ⟨rfl, rfl⟩ | ⟨rfl, g2, lab2, h2, st2⟩
      · go_wp2_with fail
        refine (PSH.out _ st1.fresh h1).mono ?_
        rintro e w2 ⟨g2, lab2, rfl, h2, st2⟩
        go_wp2
        go_roundw
        case rel => exact .inr ⟨by go_num, g2, lab2, h2, (st1.any _ _).trans st2⟩
        case measure => simp [intOf]
      · go_wp2
        go_end0
        exact ⟨g2, lab2, rfl, h2, st2⟩
  · rw [hops] at h1; simp at h1
end Go.Proofs.YtlbaiighiaanoaaGreatDoor

/- The contract of Conn.idle. -/
namespace Go.Proofs.YtlbaiighiaanoaaGreatDoor
open Go Go.Proofs Go.RowKit
set_option maxRecDepth 100000
set_option linter.unusedVariables false
set_option linter.unusedSimpArgs false
theorem and1_u32 (n : Nat) (h : n < 4294967296) : bits .and .u32 (n : Int) 1 = ((n % 2 : Nat) : Int) := by
  have := bits_mask .u32 32 (by decide) wraps_u32 1 (by decide) n (by omega) (by omega)
  rw [show (1 : Int) = 2 ^ 1 - 1 by decide, this]; omega
/-- Is a stream? -/
def idleF (s : CS) (id : Nat) : Bool := decide (s.last < id) || (id % 2 == 0)
theorem idle_spec (w : World) (lab : Nat → Nat) (B p : Nat) (g : CG) (s : CS) (id : Nat) (h : ConnAt fixedT w.heap lab B p g s) (hi : id < 4294967296) :
    Calls Tryz.prog 101 #[ptr p, .int .u32 id] w (PostV w (.bool (idleF s id))) := by
  have c13 := h.blk.cell 13 (v := .int .u32 s.last) (by rfl)
  have hm := and1_u32 id hi
  have hf : idleF s id = (decide (s.last < id) || (id % 2 == 0)) := rfl
  cases g1 : decide (s.last < id) <;> cases g2 : (id % 2 == 0)
  all_goals
    rw [g1, g2] at hf
    have hz : id % 2 = (if (id % 2 == 0) = true then 0 else 1) := by
      rcases Nat.mod_two_eq_zero_or_one id with q | q <;> simp [q]
    rw [g2] at hz
    simp only [if_true, if_false, Bool.false_eq_true] at hz
    rw [hz] at hm
    rw [hf]
    clear hf g2 hz
    go_enter Tryz.func101, Tryz.ntmps101
    go_wp2
    go_ret
    exact ⟨rfl, rfl⟩
end Go.Proofs.YtlbaiighiaanoaaGreatDoor

/- The contract of Conn.wrong. -/
namespace Go.Proofs.YtlbaiighiaanoaaGreatDoor
open Go Go.Proofs Go.RowKit
set_option maxRecDepth 100000
set_option linter.unusedVariables false
set_option linter.unusedSimpArgs false
/-- A frame is wrong by its stream. -/
def wrongCF (s : CS) (id code : Int) : CS := if (s.opens.lookup id).isSome then resetCF s id code else if idleF s id.toNat then failF s code else s
theorem wrong_few (w : World) (lab : Nat → Nat) (hf : Fr w.heap lab) (B p : Nat) (hB : 0 < B) (g : CG) (s : CS) (id code : Nat) (h : ConnAt fixedT w.heap lab B p g s) (hl : s.out.length ≤ 70368744177664) (hle : s.events.length ≤ 1099511627776) (hgn : s.gone.length < 64)
    (h0 : 0 ≤ s.last) (h1 : s.last < 4294967296) (hi1 : id < 4294967296) (hc1 : code < 4294967296) :
    Calls Tryz.prog 74 #[ptr p, .int .u32 id, .int .u32 code] w (PostC w lab B p (wrongCF s id code) (.tuple #[])) := by
  have hw : wrongCF s id code = if (s.opens.lookup (id : Int)).isSome then resetCF s id code else if idleF s id then failF s code else s := rfl
  have c11 := h.blk.cell 11 (v := .map (some g.om)) rfl
  have hmp := h.parts.opens
  have hr := lookup_side (id : Int) s.opens true
  obtain ⟨⟨xs, xw, xf⟩, hx⟩ : ∃ x, (s.opens.lookup (id : Int)).getD ⟨0, ⟨#[]⟩, false⟩ = x := ⟨_, rfl⟩
  rw [hx] at hr
  obtain ⟨hb, hhb⟩ : ∃ b, (s.opens.lookup (id : Int)).isSome = b := ⟨_, rfl⟩
  rw [hhb] at hr hw
  have hr2 := hr.trans (show _ = Value.tuple #[.agg #[.int .i64 xs, .string xw, .bool xf], .bool hb] from rfl)
  have HR := Lib.hid hr2
  clear hr hr2 hx hhb
  have st0 := (Stp.refl 0 0 hf).alloc (.cells #[.int .i64 xs, .string xw, .bool xf] 115)
  have h1' := h.kept st0 (by omega) (by omega)
  cases hb
  · rw [if_neg (by decide)] at hw
    have IDL := Lib.hid (idle_spec _ lab B p g s id h1' hi1)
    cases gi : idleF s id
    · rw [gi, if_neg (by decide)] at hw
      rw [gi] at IDL
      rw [hw]
      clear hw gi
      go_enter Tryz.func74, Tryz.ntmps74
      go_wp2_with (at_lookup; refine wp_look rfl _ _ _ true rfl Tryz.underlying95 Tryz.underlying30 rfl hmp rfl zv_side HR.out ?_)
      refine IDL.out.mono ?_
      rintro e w2 ⟨rfl, rfl⟩
      go_wp2
      go_end0
      exact ⟨g, lab, rfl, h1', st0.any _ _⟩
    · rw [gi, if_pos rfl] at hw
      rw [gi] at IDL
      have FL := Lib.hid (fail_spec _ lab st0.fresh B p hB g s code h1' hl hle h0 h1 (by omega) (by omega))
      rw [hw]
      clear hw gi h0 h1
      go_enter Tryz.func74, Tryz.ntmps74
      go_wp2_with (at_lookup; refine wp_look rfl _ _ _ true rfl Tryz.underlying95 Tryz.underlying30 rfl hmp rfl zv_side HR.out ?_)
      refine IDL.out.mono ?_
      rintro e w2 ⟨rfl, rfl⟩
      go_wp2_with fail
      refine FL.out.mono ?_
      rintro e w2 ⟨g2, lab2, rfl, h2, st2⟩
      go_wp2
      go_end0
      exact ⟨g2, lab2, rfl, h2, (st0.any _ _).trans st2⟩
  · rw [if_pos rfl] at hw
    have RS := Lib.hid (reset_few _ lab st0.fresh B p hB g s id code h1' hl hle hgn (by omega) (by omega) (by omega) (by omega))
    rw [hw]
    clear hw h0 h1
    go_enter Tryz.func74, Tryz.ntmps74
    go_wp2_with (at_lookup; refine wp_look rfl _ _ _ true rfl Tryz.underlying95 Tryz.underlying30 rfl hmp rfl zv_side HR.out ?_)
    refine RS.out.mono ?_
    rintro e w2 ⟨g2, lab2, rfl, h2, st2⟩
    go_wp2
    go_end0
    exact ⟨g2, lab2, rfl, h2, (st0.any _ _).trans st2⟩
end Go.Proofs.YtlbaiighiaanoaaGreatDoor
