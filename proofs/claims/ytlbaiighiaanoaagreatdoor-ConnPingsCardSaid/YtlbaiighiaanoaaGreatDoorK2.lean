/- Contracts and plain laws for Pings, part 2; no conditions but those that each theorem states. -/
import Derived.Test.YtlbaiighiaanoaaGreatDoorK1
import Derived.Lib.AppendStr
import Derived.OwnWalk
import Derived.Lib.ConvBytes
import Derived.Laws.BytesArg
import Derived.Laws.BitsLemmas
/- Appends: one law for a slice that owns its array, whatever is appended (a slice's elements, a string's bytes); the walk's arms for appends and maps. -/
namespace Go.Proofs.YtlbaiighiaanoaaGreatDoor
open Go Go.Proofs Go.RowKit Go.MapKept

/-- What the table says of a slice type t of elements e. -/
structure ElemI (P : Program) (t e : TypeId) (size bytes : Nat) (z : Value) : Prop where
  under : P.underlying t = some (.slice e)
  info : ∃ i, P.info? e = some i ∧ i.zero = some z ∧ i.size = size ∧ i.bytes = bytes
  zs : z.cells.size = size
  pos : 0 < size

/-- x is a slice or a string whose first m elements are the cells news, in whatever world with w's heap. -/
structure Src (P : Program) (w : World) (size m : Nat) (x : Value) (news : List Value) : Prop where
  len : ∀ w' : World, (Builtin.lenOf x).run P w' = .ok m w'
  first : ∀ w' : World, w'.heap = w.heap → (Builtin.firstCells size m x).run P w' = .ok news.toArray w'
  count : news.length = m * size
  one : ∀ u ∈ news, u.oneCell' = true
theorem Src.ofString (P : Program) (w : World) (s : ByteArray) : Src P w 1 s.size (.string s) (Lib.strCells s) :=
  ⟨fun w' => by simp [Builtin.lenOf], fun w' _ => Lib.run_firstCells_string (P := P) w' 1 s, by simp [Lib.strCells_length], Lib.strCells_oneCell s⟩
theorem Src.ofCells (P : Program) (w : World) (size m c : Nat) (a : Addr) (news : List Value) (hl : news.length = m * size) (hc : ∀ j u, news[j]? = some u → w.cell? (a.add j) = some u) (h1 : ∀ u ∈ news, u.oneCell' = true) : Src P w size m (.slice (some a) m c) news :=
  ⟨fun w' => by simp [Builtin.lenOf], fun w' hw => run_firstCells_some (P := P) w' size m a m c news hl (fun j u h => by rw [← hc j u h]; simp [World.cell?, hw]), hl, h1⟩
theorem Src.ofNil (P : Program) (w : World) (size : Nat) : Src P w size 0 (.slice none 0 0) [] :=
  ⟨fun w' => by simp [Builtin.lenOf], fun w' _ => by simp [Builtin.firstCells], by simp, by simp⟩
/-- The single element of a literal slice that was just made. -/
theorem Src.ofBlock (P : Program) {w : World} {b e m c : Nat} {size : Nat} {cs : Array Value} {fz : Nat × Nat} (hb : w.heap[b]? = some (.cells cs e fz)) (hm : cs.size = m * size) (h1 : ∀ u ∈ cs.toList, u.oneCell' = true) : Src P w size m (.slice (some ⟨b, 0, none⟩) m c) cs.toList :=
  Src.ofCells P w size m c ⟨b, 0, none⟩ cs.toList (by simpa using hm) (fun j u h => by
    have : (⟨b, 0, none⟩ : Addr).add j = ⟨b, j, none⟩ := by unfold Addr.add; split <;> simp_all
    rw [this]
    simp only [World.cell?, hb]
    simpa using h) h1
theorem Src.ofRow (P : Program) {w : World} {base e size n : Nat} {v : Value} {xs : List Value} (h : w.ownsRow base e size v n xs) (h1 : ∀ u ∈ xs, u.oneCell' = true) : Src P w size n v xs := by
  rcases h.2 with ⟨rfl, rfl⟩ | ⟨g, cap, cur, rfl, _, hg, _, _, _, ht⟩
  · obtain rfl : xs = [] := List.eq_nil_of_length_eq_zero (by simpa using h.1)
    exact Src.ofNil P w size
  · exact Src.ofCells P w size n cap ⟨g, 0, none⟩ xs h.1 (fun j u hj => h.cells rfl j u hj) h1

section
variable {P : Program} {w : World}
theorem run_firstNil (size n : Nat) (l c : Nat) : (Builtin.firstCells size n (.slice none l c)).run P w = .ok #[] w := by simp [Builtin.firstCells]
theorem run_app {base t e size bytes u : Nat} {z : Value} (E : ElemI P t e size bytes z) (hu : P.underlying u = some .string ∨ ∃ e', P.underlying u = some (.slice e')) (ty : TypeId)
    {v : Value} {n : Nat} {xs : List Value} (hown : w.ownsRow base e size v n xs) {x : Value} {m : Nat} {news : List Value} (hs : Src P w size m x news)
    (h63 : n + m ≤ maxLen) (hbytes : (n + m) * bytes ≤ 140737488355328) (hbase : base ≤ w.heap.size) :
    ∃ A cap w', (Builtin.append_ #[t, u] ty #[v, x]).run P w = .ok (.slice A (n + m) cap) w' ∧ w'.ownsRow base e size (.slice A (n + m) cap) (n + m) (xs ++ news) ∧ w.grownBy w' v.ownBlock ∧
      ((Value.slice A (n + m) cap).ownBlock = v.ownBlock ∨ (Value.slice A (n + m) cap).ownBlock = some w.heap.size) := by
  obtain ⟨ht, ⟨i, hi, hz, rfl, rfl⟩, hzs, hsz⟩ := E
  have hlen : (xs ++ news).length = (n + m) * i.size := by rw [List.length_append, hown.1, hs.count, Nat.add_mul]
  have hsmall : n + m ≤ 9223372036854775807 := by simp only [maxLen] at h63; omega
  have grown : ∀ (old : Nat), old < n + m → ∀ (row : Option Nat),
      (w.drew.alloc (.cells (xs.toArray ++ news.toArray ++ Builtin.zeroCells z.cells (grownCap w (n + m) old e - (n + m))) e)).ownsRow base e i.size
        (.slice (some ⟨w.heap.size, 0, none⟩) (n + m) (grownCap w (n + m) old e)) (n + m) (xs ++ news) ∧
      w.grownBy (w.drew.alloc (.cells (xs.toArray ++ news.toArray ++ Builtin.zeroCells z.cells (grownCap w (n + m) old e - (n + m))) e)) row := by
    intro old ho row
    have hge := grownCap_ge w (n + m) old e
    have hcm : grownCap w (n + m) old e ≤ maxLen := grownCap_le_maxLen w (n + m) old e h63
    refine ⟨⟨hlen, .inr ⟨w.heap.size, _, _, rfl, hbase, heap_alloc_new w.drew _, hge, hcm, ?_, ?_⟩⟩, ⟨rfl, rfl, rfl, by simp, fun k hk _ => Below.heap_alloc w.drew _ k hk⟩⟩
    · simp only [Array.size_append, List.size_toArray, size_zeroCells, hzs, hown.1, hs.count, ← Nat.add_mul]
      congr 1
      omega
    · simp only [Array.toList_append, List.append_assoc]
      rw [← List.append_assoc, ← hlen]
      exact List.take_left
  rcases hown.2 with ⟨rfl, rfl⟩ | ⟨g, cap, cur, rfl, hbg, hg, hnc, hcm, hcs, htake⟩
  · obtain rfl : xs = [] := List.eq_nil_of_length_eq_zero (by simpa using hown.1)
    by_cases hm : m = 0
    · subst hm
      obtain rfl : news = [] := List.eq_nil_of_length_eq_zero (by simpa using hs.count)
      refine ⟨none, 0, w, ?_, World.ownsRow_nil w base e i.size, ⟨rfl, rfl, rfl, Nat.le_refl _, fun _ _ _ => rfl⟩, Or.inl rfl⟩
      rcases hu with hu | ⟨e', hu⟩ <;> simp [Builtin.append_, run_underlying ht, run_underlying hu, sizeOf, typeInfo, hi, hs.len, hs.first]
    · have hgr := grown 0 (by omega) (Value.ownBlock (.slice none 0 0))
      refine ⟨_, _, _, ?_, hgr.1, hgr.2, Or.inr rfl⟩
      have hn : ¬ (m ≤ 0) := by omega
      have h63' : ¬ (9223372036854775807 < (m : Int)) := by omega
      have h48' : ¬ (281474976710656 < Builtin.nextslicecap m 0 * i.bytes) := by
        have := growslice_fits (need := 0 + m) (old := 0) (by omega) hbytes
        simp only [Nat.zero_add] at this
        omega
      have hf := hs.first w.drew rfl
      simp only [Nat.zero_add, List.nil_append] at hgr ⊢
      rcases hu with hu | ⟨e', hu⟩ <;> simp [Builtin.append_, run_underlying ht, run_underlying hu, sizeOf, typeInfo, zeroValue, hi, hz, hs.len, h63', h48', hm, Question.forced, hf, run_firstNil, newRow, grownCap]
  · by_cases hroom : n + m ≤ cap
    · have hfit : n * i.size + news.length ≤ cur.size := by rw [hs.count, hcs, ← Nat.add_mul]; exact Nat.mul_le_mul_right _ hroom
      have hst := run_storeCells_at P g (n * i.size) e news 0 cur w hg (by simpa using hfit) hs.one
      simp only [Nat.add_zero] at hst
      refine ⟨some ⟨g, 0, none⟩, cap, w.setRow g (cur.toList.take (n * i.size) ++ news ++ cur.toList.drop (n * i.size + news.length)).toArray, ?_, ⟨hlen, .inr ⟨g, cap, _, rfl, hbg, setRow_heap w g cur _ e _ hg, hroom, hcm, ?_, ?_⟩⟩, ⟨rfl, rfl, rfl, by simp, fun k _ hk => setRow_other w g k _ (fun e => hk (by simp [Value.ownBlock, e]))⟩, Or.inl rfl⟩
      · rcases hu with hu | ⟨e', hu⟩ <;> simp [Builtin.append_, run_underlying ht, run_underlying hu, sizeOf, typeInfo, hi, hs.len, hroom, hs.first w rfl, Addr.add_lit, hst]
      · simp only [List.size_toArray, List.length_append, List.length_take, List.length_drop, Array.length_toList]
        omega
      · rw [htake, ← hlen]
        exact List.take_left
    · have holds : ∀ j u, xs[j]? = some u → w.cell? ((⟨g, 0, none⟩ : Addr).add j) = some u := hown.cells (g := g) rfl
      have hgr := grown cap (by omega) (Value.ownBlock (.slice (some ⟨g, 0, none⟩) n cap))
      refine ⟨_, _, _, ?_, hgr.1, hgr.2, Or.inr rfl⟩
      have hn : ¬ (n + m ≤ cap) := hroom
      have h63' : ¬ (9223372036854775807 < ((n : Int) + (m : Int))) := by omega
      have h48' : ¬ (281474976710656 < Builtin.nextslicecap (n + m) cap * i.bytes) := by
        have := growslice_fits (need := n + m) (old := cap) (by omega) hbytes
        omega
      have hf := hs.first w.drew rfl
      have hfo := run_firstCells_some (P := P) w.drew i.size n ⟨g, 0, none⟩ n cap xs hown.1 (by simpa using holds)
      rcases hu with hu | ⟨e', hu⟩ <;> simp [Builtin.append_, run_underlying ht, run_underlying hu, sizeOf, typeInfo, zeroValue, hi, hz, hs.len, hn, h63', h48', Question.forced, hf, hfo, newRow, grownCap]
      all_goals (congr 2; apply Array.ext'; simp [List.append_assoc])

/-! ### Arms -/
variable {ops : Array Oper} {rest : List Oper} {o : Oper} {a : Act} {Q : Exit → Act → World → Prop} {lab : Nat → Nat}
/-- append onto a row with a label. -/
theorem wp_app (hgd : o.guard = none) (s x : Operand) (t u : TypeId) (ho : o.op = .call { callee := .builtin .append, args := #[s, x], argTypes := #[t, u] })
    {e size bytes : Nat} {z : Value} (E : ElemI P t e size bytes z) (hu : P.underlying u = some .string ∨ ∃ e', P.underlying u = some (.slice e'))
    {l : Nat} {v : Value} {n : Nat} {xs : List Value} (hv : a.eval s = v) (hr : Row w.heap lab l e size v n xs) (hf : Fr w.heap lab)
    {xv : Value} (hx : a.eval x = xv) {m : Nat} {news : List Value} (hs : Src P w size m xv news)
    (h63 : n + m ≤ maxLen) (hbytes : (n + m) * bytes ≤ 140737488355328)
    (h : ∀ A cap w' lab', Row w'.heap lab' l e size (.slice A (n + m) cap) (n + m) (xs ++ news) → Stp l (l + 1) w lab w' lab' → wpList P ops Q rest (a.put o.dst (.slice A (n + m) cap)) w') : wpList P ops Q (o :: rest) a w := by
  refine wpList_plain hgd fun K' hK' => ?_
  obtain ⟨A, cap, w', hrun, h2, h3, h4⟩ := run_app (w := w) E hu o.type hr.1 hs h63 hbytes (Nat.zero_le _)
  unfold Oper.wp execOp
  simp only [ho, resolve, invoke, builtin, Sem.run_bind, Sem.run_pure, Result.andThen_ok, List.map_toArray, List.map_cons, List.map_nil, hv, hx, hrun]
  apply hK'
  have hst : Stp l (l + 1) w lab w' lab := (Stp.refl l (l + 1) hf).grown h3 (fun k hk => .inr (by rw [hr.2 k hk]; omega))
  rcases h4 with h4 | h4
  · exact h A cap w' lab ⟨h2, fun k hk => hr.2 k (h4 ▸ hk)⟩ hst
  · refine h A cap w' (upd lab w.heap.size l) ⟨h2, fun k hk => ?_⟩ ?_
    · rw [h4] at hk
      simp only [Option.some.injEq] at hk
      subst hk
      exact upd_same _ _ _
    · have hlt : w.heap.size < w'.heap.size := (h2.lt _ h4).2
      exact hst.label l (Nat.le_refl _) hlt
/-- append onto a list of the call's own (blocks from base on). -/
theorem wp_appOwn (hgd : o.guard = none) (s x : Operand) (t u : TypeId) (ho : o.op = .call { callee := .builtin .append, args := #[s, x], argTypes := #[t, u] })
    {e size bytes : Nat} {z : Value} (E : ElemI P t e size bytes z) (hu : P.underlying u = some .string ∨ ∃ e', P.underlying u = some (.slice e'))
    {base : Nat} {v : Value} {n : Nat} {xs : List Value} (hv : a.eval s = v) (hr : Owns w.heap base e size v n xs)
    {xv : Value} (hx : a.eval x = xv) {m : Nat} {news : List Value} (hs : Src P w size m xv news)
    (h63 : n + m ≤ maxLen) (hbytes : (n + m) * bytes ≤ 140737488355328) (hbase : base ≤ w.heap.size)
    (h : ∀ A cap w', Owns w'.heap base e size (.slice A (n + m) cap) (n + m) (xs ++ news) → w.grownBy w' v.ownBlock → wpList P ops Q rest (a.put o.dst (.slice A (n + m) cap)) w') : wpList P ops Q (o :: rest) a w := by
  refine wpList_plain hgd fun K' hK' => ?_
  obtain ⟨A, cap, w', hrun, h2, h3, _⟩ := run_app (w := w) E hu o.type hr hs h63 hbytes hbase
  unfold Oper.wp execOp
  simp only [ho, resolve, invoke, builtin, Sem.run_bind, Sem.run_pure, Result.andThen_ok, List.map_toArray, List.map_cons, List.map_nil, hv, hx, hrun]
  exact hK' _ _ (h A cap w' h2 h3)

theorem wp_mput (hgd : o.guard = none) (mo x v : Operand) (t : TypeId) (hop : o.op = Op.mapUpdate t mo x v) {kt et : TypeId} (ht : P.underlying t = some (.map kt et)) (hk : P.underlying kt = some (.int .u32))
    {b ml : Nat} {l : List (Int × Value)} (hm : a.eval mo = .map (some b)) (h : Mp w.heap lab b ml l) (hf : Fr w.heap lab) {k : Int} {val : Value} (hx : a.eval x = .int .u32 k) (hv : a.eval v = val)
    (hK : ∀ w', Mp w'.heap lab b ml (mput k val l) → Stp ml (ml + 1) w lab w' lab → wpList P ops Q rest (a.put o.dst undef) w') : wpList P ops Q (o :: rest) a w := by
  refine wpList_plain hgd fun K' hK' => ?_
  obtain ⟨w', hrun, h1, h2⟩ := h.run_put ht hk k val
  unfold Oper.wp
  simp [execOp, hop, hm, hx, hv, hrun, Result.andThen]
  exact hK' _ _ (hK w' h1 ((Stp.refl _ _ hf).grown h2 (fun j hj => .inr (by cases hj; rw [h.1]; omega))))
theorem wp_mdel (hgd : o.guard = none) (mo x : Operand) (t ktt : TypeId) (hop : o.op = .call { callee := .builtin .delete, args := #[mo, x], argTypes := #[t, ktt] }) {kt et : TypeId} (ht : P.underlying t = some (.map kt et)) (hk : P.underlying kt = some (.int .u32))
    {b ml : Nat} {l : List (Int × Value)} (hm : a.eval mo = .map (some b)) (h : Mp w.heap lab b ml l) (hf : Fr w.heap lab) {k : Int} (hx : a.eval x = .int .u32 k)
    (hK : ∀ w', Mp w'.heap lab b ml (mdel k l) → Stp ml (ml + 1) w lab w' lab → wpList P ops Q rest (a.put o.dst (.tuple #[])) w') : wpList P ops Q (o :: rest) a w := by
  refine wpList_plain hgd fun K' hK' => ?_
  obtain ⟨w', hrun, h1, h2⟩ := h.run_del ht hk k o.type ktt
  unfold Oper.wp execOp
  simp only [hop, resolve, invoke, builtin, Sem.run_bind, Sem.run_pure, Result.andThen_ok, List.map_toArray, List.map_cons, List.map_nil, hm, hx, hrun]
  exact hK' _ _ (hK w' h1 ((Stp.refl _ _ hf).grown h2 (fun j hj => .inr (by cases hj; rw [h.1]; omega))))
theorem wp_mlen (hgd : o.guard = none) (mo : Operand) (t : TypeId) (hop : o.op = .call { callee := .builtin .len, args := #[mo], argTypes := #[t] }) {kt et : TypeId} (ht : P.underlying t = some (.map kt et))
    {b ml : Nat} {l : List (Int × Value)} (hm : a.eval mo = .map (some b)) (h : Mp w.heap lab b ml l)
    (hK : wpList P ops Q rest (a.put o.dst (.int .i64 l.length)) w) : wpList P ops Q (o :: rest) a w := by
  refine wpList_plain hgd fun K' hK' => ?_
  have hrun := h.run_len ht o.type w rfl
  unfold Oper.wp execOp
  simp only [hop, resolve, invoke, builtin, Sem.run_bind, Sem.run_pure, Result.andThen_ok, List.map_toArray, List.map_cons, List.map_nil, hm, hrun]
  exact hK' _ _ hK
theorem wp_look (hgd : o.guard = none) (mo x : Operand) (t : TypeId) (ok : Bool) (hop : o.op = Op.lookup t mo x ok) {kt et : TypeId} (ht : P.underlying t = some (.map kt et)) (hk : P.underlying kt = some (.int .u32))
    {b ml : Nat} {l : List (Int × Value)} (hm : a.eval mo = .map (some b)) (h : Mp w.heap lab b ml l) {k : Int} (hx : a.eval x = .int .u32 k) {z : Value} (hz : ∀ w, (zeroValue et).run P w = .ok z w) {r : Value}
    (hr : (if ok then Value.tuple #[(l.lookup k).getD z, .bool (l.lookup k).isSome] else (l.lookup k).getD z) = r)
    (hK : wpList P ops Q rest (a.put o.dst r) w) : wpList P ops Q (o :: rest) a w := by
  refine wpList_plain hgd fun K' hK' => ?_
  have hrun := h.run_look ht hk k hz ok w rfl
  rw [hr] at hrun
  unfold Oper.wp
  simp [execOp, hop, hm, hx, hrun, Result.andThen]
  exact hK' _ _ hK
/-- 'make([]T, n, c)': n zero elements at the head of a new array. -/
theorem wp_make (hgd : o.guard = none) (l c : Operand) (t : TypeId) (hop : o.op = Op.makeSlice t l c) {e size bytes : Nat} {z : Value} (E : ElemI P t e size bytes z)
    {kl kc : IntKind} {L C : Int} {n m : Nat} (hl : a.eval l = .int kl L) (hc : a.eval c = .int kc C) (hL : L = n) (hC : C = m) (hnm : n ≤ m) (hb : bytes * m ≤ 281474976710656) (hm : m ≤ maxLen)
    (base : Nat) (hbase : base ≤ w.heap.size)
    (h : ∀ g w', base ≤ g → Owns w'.heap base e size (.slice (some ⟨g, 0, none⟩) n m) n ((madeCells z.cells (m * size)).toList.take (n * size)) → w.grownBy w' none → w.heap.size < w'.heap.size → wpList P ops Q rest (a.put o.dst (.slice (some ⟨g, 0, none⟩) n m)) w') : wpList P ops Q (o :: rest) a w := by
  refine wpList_plain hgd fun K' hK' => ?_
  obtain ⟨ht, ⟨i, hi, hz, rfl, rfl⟩, hzs, hsz⟩ := E
  subst hL
  subst hC
  have h63 : (m : Int) ≤ 9223372036854775807 := by simp only [maxLen] at hm; omega
  have hb' : (i.bytes : Int) * (m : Int) ≤ 281474976710656 := by
    have h : ((i.bytes * m : Nat) : Int) ≤ 281474976710656 := by omega
    rwa [Int.natCast_mul] at h
  have hr := run_make (P := P) w t e i z ht hi hz kl kc n m (by omega) (by omega) hb' h63
  simp only [Int.toNat_natCast] at hr
  unfold Oper.wp
  simp only [execOp, hop, hl, hc, Sem.run_bind, hr, Result.andThen_ok, Sem.run_pure]
  apply hK'
  refine h _ _ hbase ⟨?_, .inr ⟨w.heap.size, m, _, rfl, hbase, heap_alloc_new w _, hnm, hm, by rw [size_madeCells], rfl⟩⟩ (World.grownBy_alloc w _ none) (by simp)
  simp only [List.length_take, Array.length_toList, size_madeCells]
  exact Nat.min_eq_left (Nat.mul_le_mul_right _ hnm)
/-- 'copy(dst, src)', dst a list of the call's own at least as long as src. -/
theorem wp_copy (hgd : o.guard = none) (d s : Operand) (t u : TypeId) (ho : o.op = .call { callee := .builtin .copy, args := #[d, s], argTypes := #[t, u] })
    {e size bytes : Nat} {z : Value} (E : ElemI P t e size bytes z) {base : Nat} {v : Value} {n : Nat} {xs : List Value} (hv : a.eval d = v) (hr : Owns w.heap base e size v n xs)
    {xv : Value} (hx : a.eval s = xv) {m : Nat} {news : List Value} (hs : Src P w size m xv news) (hmn : m ≤ n)
    (h : ∀ w', Owns w'.heap base e size v n (news ++ xs.drop news.length) → w.grownBy w' v.ownBlock → wpList P ops Q rest (a.put o.dst (.int .i64 m)) w') : wpList P ops Q (o :: rest) a w := by
  refine wpList_plain hgd fun K' hK' => ?_
  obtain ⟨ht, ⟨i, hi, hz, rfl, rfl⟩, hzs, hsz⟩ := E
  have hmin : Nat.min m n = m := Nat.min_eq_left hmn
  rcases hr.2 with ⟨rfl, rfl⟩ | ⟨g, cap, cur, rfl, hbg, hg, hnc, hcm, hcs, htake⟩
  · obtain rfl : xs = [] := List.eq_nil_of_length_eq_zero (by simpa using hr.1)
    obtain rfl : m = 0 := by omega
    obtain rfl : news = [] := List.eq_nil_of_length_eq_zero (by simpa using hs.count)
    have hrun : (Builtin.copy_ #[t, u] o.type #[.slice none 0 0, xv]).run P w = .ok (.int .i64 0) w := by
      simp [Builtin.copy_, run_underlying ht, hs.len, hs.first w rfl, sizeOf, typeInfo, hi, goInt]
    unfold Oper.wp execOp
    simp only [ho, resolve, invoke, builtin, Sem.run_bind, Sem.run_pure, Result.andThen_ok, List.map_toArray, List.map_cons, List.map_nil, hv, hx, hrun]
    exact hK' _ _ (h w (by simpa using hr) ⟨rfl, rfl, rfl, Nat.le_refl _, fun _ _ _ => rfl⟩)
  · have hfit : news.length ≤ cur.size := by rw [hs.count, hcs]; exact Nat.mul_le_mul_right _ (Nat.le_trans hmn hnc)
    have hst := run_storeCells_at P g 0 e news 0 cur w hg (by simpa using hfit) hs.one
    simp only [Nat.add_zero, List.take_zero, List.nil_append, Nat.zero_add] at hst
    have hrun : (Builtin.copy_ #[t, u] o.type #[.slice (some ⟨g, 0, none⟩) n cap, xv]).run P w = .ok (.int .i64 m) (w.setRow g (news ++ cur.toList.drop news.length).toArray) := by
      simp [Builtin.copy_, run_underlying ht, hs.len, hmin, hs.first w rfl, sizeOf, typeInfo, hi, goInt, hst]
    unfold Oper.wp execOp
    simp only [ho, resolve, invoke, builtin, Sem.run_bind, Sem.run_pure, Result.andThen_ok, List.map_toArray, List.map_cons, List.map_nil, hv, hx, hrun]
    apply hK'
    have hml : news.length ≤ n * i.size := by rw [hs.count]; exact Nat.mul_le_mul_right _ hmn
    refine h _ ⟨?_, .inr ⟨g, cap, _, rfl, hbg, setRow_heap w g cur _ e _ hg, hnc, hcm, ?_, ?_⟩⟩ ⟨rfl, rfl, rfl, by simp, fun k _ hk => setRow_other w g k _ (fun e => hk (by simp [Value.ownBlock, e]))⟩
    · have := hr.1
      simp only [List.length_append, List.length_drop]
      omega
    · simp only [List.size_toArray, List.length_append, List.length_drop, Array.length_toList]
      omega
    · simp only []
      rw [List.take_append, List.take_of_length_le hml, List.take_drop, show news.length + (n * i.size - news.length) = n * i.size by omega, htake]
/-- 'string(b)'. -/
theorem run_convBS {src dst e : TypeId} (hs : P.underlying src = some (.slice e)) (hd : P.underlying dst = some .string) (he : P.underlying e = some (.int .u8))
    {base n : Nat} {v : Value} {l : List UInt8} (hr : Owns w.heap base e 1 v n (l.map fun c => Value.int .u8 c.toNat)) : (convert src dst v).run P w = .ok (.string ⟨l.toArray⟩) w := by
  rcases hr.2 with ⟨rfl, rfl⟩ | ⟨g, cap, cur, rfl, _⟩
  · obtain rfl : l = [] := List.eq_nil_of_length_eq_zero (by simpa using hr.1)
    exact run_convert_bytes_nil w src e hs he 0 0 dst hd
  · have hl : l.length = n := by simpa using hr.1
    have := run_convert_bytes_arg w src e hs he g 0 n cap (l.map fun c => (c.toNat : Int)) (by simpa using hl) (fun i hi => by
      have hc := World.ownsRow.cells (Owns.to hr) (g := g) rfl i (.int .u8 ((l[i]'(by omega)).toNat)) (by simp [hl, hi])
      have hadd : (⟨g, 0, none⟩ : Addr).add i = ⟨g, i, none⟩ := by unfold Addr.add; split <;> simp_all
      rw [hadd] at hc
      rw [Nat.zero_add, hc]
      simp [List.getD, hl, hi]) dst hd
    rw [this]
    congr 2
    unfold strOfNums
    congr 1
    rw [List.map_map]
    congr 1
    conv => rhs; rw [← List.map_id l]
    apply List.map_congr_left
    intro c _
    simp
theorem wp_convBS (hgd : o.guard = none) (x : Operand) (src dst : TypeId) (hop : o.op = Op.convert src dst x) {e : TypeId} (hs : P.underlying src = some (.slice e)) (hd : P.underlying dst = some .string) (he : P.underlying e = some (.int .u8))
    {base n : Nat} {v : Value} {l : List UInt8} (hx : a.eval x = v) (hr : Owns w.heap base e 1 v n (l.map fun c => Value.int .u8 c.toNat))
    (h : wpList P ops Q rest (a.put o.dst (.string ⟨l.toArray⟩)) w) : wpList P ops Q (o :: rest) a w := by
  refine wpList_plain hgd fun K' hK' => ?_
  have hrun := run_convBS hs hd he hr
  unfold Oper.wp
  simp only [execOp, hop, hx, Sem.run_bind, hrun, Result.andThen_ok, Sem.run_pure]
  exact hK' _ _ h
/-- append onto a list of the call's own, as a step of a region that draws. -/
theorem step_appOwn {K : Act → World → Prop} {E0 : Prop} (hgd : o.guard = none) (s x : Operand) (t u : TypeId) (ho : o.op = .call { callee := .builtin .append, args := #[s, x], argTypes := #[t, u] })
    {e size bytes : Nat} {z : Value} (E : ElemI P t e size bytes z) (hu : P.underlying u = some .string ∨ ∃ e', P.underlying u = some (.slice e'))
    {base : Nat} {v : Value} {n : Nat} {xs : List Value} (hv : a.eval s = v) (hr : Owns w.heap base e size v n xs)
    {xv : Value} (hx : a.eval x = xv) {m : Nat} {news : List Value} (hs : Src P w size m xv news)
    (h63 : n + m ≤ maxLen) (hbytes : (n + m) * bytes ≤ 140737488355328) (hbase : base ≤ w.heap.size)
    (h : ∀ A cap w', Owns w'.heap base e size (.slice A (n + m) cap) (n + m) (xs ++ news) → w.grownBy w' v.ownBlock → K (a.put o.dst (.slice A (n + m) cap)) w') :
    if Region.wanted o (yielded ops a.tmps) = true then Oper.wp P o a w K Q else E0 := by
  rw [if_pos (by simp [Region.wanted, hgd])]
  obtain ⟨A, cap, w', hrun, h2, h3, _⟩ := run_app (w := w) E hu o.type hr hs h63 hbytes hbase
  unfold Oper.wp execOp
  simp only [ho, resolve, invoke, builtin, Sem.run_bind, Sem.run_pure, Result.andThen_ok, List.map_toArray, List.map_cons, List.map_nil, hv, hx, hrun]
  exact h A cap w' h2 h3
/-- '[]byte(s)': a new array with the string's bytes, that is only read. -/
theorem wp_convSB (hgd : o.guard = none) (x : Operand) (src dst : TypeId) (hop : o.op = Op.convert src dst x) {e : TypeId} (hs : P.underlying src = some .string) (hd : P.underlying dst = some (.slice e)) (he : P.underlying e = some (.int .u8))
    {s : ByteArray} (hx : a.eval x = .string s) (hf : Fr w.heap lab)
    (h : ∀ b cap w', w.heap.size ≤ b → b < w'.heap.size → Stp 0 0 w lab w' lab → (∀ j, j < s.size → w'.cell? ⟨b, j, none⟩ = some (.int .u8 (s.data.toList[j]?.getD 0).toNat)) → wpList P ops Q rest (a.put o.dst (.slice (some ⟨b, 0, none⟩) s.size cap)) w') : wpList P ops Q (o :: rest) a w := by
  refine wpList_plain hgd fun K' hK' => ?_
  have hrun := Lib.run_convert_string_bytes w src dst e s hs hd he
  unfold Oper.wp
  simp only [execOp, hop, hx, Sem.run_bind, hrun, Result.andThen_ok, Sem.run_pure]
  apply hK'
  refine h _ _ _ (Nat.le_refl _) (by rw [Lib.bytesWorld_size]; omega) ?_ (fun j hj => by rw [Lib.bytesWorld_cell w e s j hj]; rfl)
  exact ⟨rfl, by rw [Lib.bytesWorld_size]; omega, fun _ _ => rfl, fun k hk _ => Lib.bytesWorld_at_old w e s k hk, fun k hk => hf k (by rw [Lib.bytesWorld_size] at hk; omega)⟩
end
end Go.Proofs.YtlbaiighiaanoaaGreatDoor

/- What a connection is in plain Lean (a state), and what it is in memory. -/
namespace Go.Proofs.YtlbaiighiaanoaaGreatDoor
open Go Go.Proofs Go.RowKit

/-! ### Plain states -/
structure Fld where
  name : ByteArray
  value : ByteArray
  never : Bool
structure Frm where
  type : Nat
  flags : Nat
  stream : Int
  data : ByteArray
structure Ev where
  kind : Int
  stream : Int
  fields : List Fld
  data : ByteArray
  fin : Bool
  code : Int
structure Feed where
  held : ByteArray
  want : Bool
  down : Bool
structure Tab where
  most : Int
  size : Int
  list : List (ByteArray × ByteArray)
structure Dec where
  tab : Tab
  down : Bool
structure Enc where
  tab : Tab
  least : Int
  changed : Bool
structure Peer where
  table : Int
  streams : Int
  window : Int
  frame : Int
  list : Int
  push : Bool
structure Book where
  conn : Int
  first : Int
  of : List (Int × Int)
structure Side where
  state : Int
  wait : ByteArray
  fin : Bool
structure Blck where
  on : Bool
  stream : Int
  data : ByteArray
  fin : Bool
  code : Int
structure CS where
  client : Bool
  feed : Feed
  dec : Dec
  enc : Enc
  peer : Peer
  book : Book
  opens : List (Int × Side)
  gone : List Int
  last : Int
  block : Blck
  out : List UInt8
  events : List Ev
  begun : Bool
  acked : Bool
  leave : Bool
  over : Bool
  code : Int

/-! ### In memory -/
abbrev ptr (b : Nat) : Value := .pointer (some ⟨b, 0, none⟩)
def fldCells (f : Fld) : List Value := [.string f.name, .string f.value, .bool f.never]
def fldsCells (l : List Fld) : List Value := l.flatMap fldCells
def frmV (f : Frm) : Value := .agg #[.int .u8 f.type, .int .u8 f.flags, .int .u32 f.stream, .string f.data]
def evCells (e : Ev) (fv : Value) : List Value := [.int .i64 e.kind, .int .u32 e.stream, fv, .string e.data, .bool e.fin, .int .u32 e.code]
def entCells (l : List (ByteArray × ByteArray)) : List Value := l.flatMap fun p => [.string p.1, .string p.2]
def byteV (c : UInt8) : Value := .int .u8 c.toNat
def sideV (s : Side) : Value := .agg #[.int .i64 s.state, .string s.wait, .bool s.fin]
def u32V (n : Int) : Value := .int .u32 n

/-- A slice of fields, in memory that nobody turns any more. -/
def FldsAt (H : Array Obj) (lab : Nat → Nat) (fv : Value) (l : List Fld) : Prop := Row H lab 0 57 3 fv l.length (fldsCells l)
def EvsAt (H : Array Obj) (lab : Nat → Nat) (m : Nat) (v : Value) (l : List Ev) : Prop :=
  ∃ fvs : List Value, fvs.length = l.length ∧ Row H lab m 45 6 v l.length ((l.zip fvs).flatMap fun p => evCells p.1 p.2) ∧ ∀ p ∈ l.zip fvs, FldsAt H lab p.2 p.1.fields
def FeedAt (H : Array Obj) (lab : Nat → Nat) (m b : Nat) (s : Feed) : Prop := Blk H lab b m #[.string s.held, .bool s.want, .bool s.down] 140
def TabAt (fixed : List (ByteArray × ByteArray)) (H : Array Obj) (lab : Nat → Nat) (m b : Nat) (s : Tab) : Prop :=
  ∃ lv fv, Blk H lab b m #[.int .i64 s.most, .int .i64 s.size, lv, fv] 176 ∧ Row H lab (m + 1) 203 2 lv s.list.length (entCells s.list) ∧ Row H lab 0 203 2 fv fixed.length (entCells fixed)
def DecAt (fixed : List (ByteArray × ByteArray)) (H : Array Obj) (lab : Nat → Nat) (m b : Nat) (s : Dec) : Prop :=
  ∃ tb, Blk H lab b m #[ptr tb, .bool s.down] 144 ∧ TabAt fixed H lab (m + 1) tb s.tab
def EncAt (fixed : List (ByteArray × ByteArray)) (H : Array Obj) (lab : Nat → Nat) (m b : Nat) (s : Enc) : Prop :=
  ∃ tb, Blk H lab b m #[ptr tb, .int .i64 s.least, .bool s.changed] 146 ∧ TabAt fixed H lab (m + 1) tb s.tab
def BookAt (H : Array Obj) (lab : Nat → Nat) (m b : Nat) (s : Book) : Prop :=
  ∃ mb, Blk H lab b m #[.int .i64 s.conn, .int .i64 s.first, .map (some mb)] 149 ∧ Mp H lab mb (m + 1) (s.of.map fun p => (p.1, .int .i64 p.2))

/-- Where a connection's parts lie. -/
structure CG where
  fp : Nat
  dp : Nat
  ep : Nat
  bp : Nat
  om : Nat
  gone : Value
  out : Value
  events : Value
def connCells (g : CG) (s : CS) : Array Value :=
  #[.bool s.client, ptr g.fp, ptr g.dp, ptr g.ep, .int .u32 s.peer.table, .int .u32 s.peer.streams, .int .u32 s.peer.window, .int .u32 s.peer.frame, .int .u32 s.peer.list, .bool s.peer.push,
    ptr g.bp, .map (some g.om), g.gone, .int .u32 s.last, .bool s.block.on, .int .u32 s.block.stream, .string s.block.data, .bool s.block.fin, .int .u32 s.block.code, g.out, g.events,
    .bool s.begun, .bool s.acked, .bool s.leave, .bool s.over, .int .u32 s.code]
/-- The parts behind a connection's own block. -/
structure CParts (fixed : List (ByteArray × ByteArray)) (H : Array Obj) (lab : Nat → Nat) (B : Nat) (g : CG) (s : CS) : Prop where
  feed : FeedAt H lab (B + 1) g.fp s.feed
  dec : DecAt fixed H lab (B + 2) g.dp s.dec
  enc : EncAt fixed H lab (B + 5) g.ep s.enc
  book : BookAt H lab (B + 8) g.bp s.book
  opens : Mp H lab g.om (B + 10) (s.opens.map fun p => (p.1, sideV p.2))
  gone : Row H lab (B + 11) 30 1 g.gone s.gone.length (s.gone.map u32V)
  out : Row H lab (B + 12) 5 1 g.out s.out.length (s.out.map byteV)
  events : EvsAt H lab (B + 13) g.events s.events
structure ConnAt (fixed : List (ByteArray × ByteArray)) (H : Array Obj) (lab : Nat → Nat) (B p : Nat) (g : CG) (s : CS) : Prop where
  blk : Blk H lab p B (connCells g s) 99
  parts : CParts fixed H lab B g s

/-! ### Frames -/
section
variable {a b : Nat} {H H1 : Array Obj} {R R1 : Rest} {lab lab1 : Nat → Nat} {m n p : Nat} {fixed : List (ByteArray × ByteArray)}
theorem FldsAt.kept {fv : Value} {l : List Fld} (h : FldsAt H lab fv l) (s : StpH a b H R lab H1 R1 lab1) (ha : 0 < a ∨ b ≤ 0) : FldsAt H1 lab1 fv l := Row.kept h s ha
theorem EvsAt.kept {v : Value} {l : List Ev} (h : EvsAt H lab m v l) (s : StpH a b H R lab H1 R1 lab1) (hm : m < a ∨ b ≤ m) (ha : 0 < a ∨ b ≤ 0) : EvsAt H1 lab1 m v l := by
  obtain ⟨fvs, h1, h2, h3⟩ := h
  exact ⟨fvs, h1, h2.kept s hm, fun p hp => (h3 p hp).kept s ha⟩
theorem FeedAt.kept {s0 : Feed} (h : FeedAt H lab m p s0) (s : StpH a b H R lab H1 R1 lab1) (hm : m < a ∨ b ≤ m) : FeedAt H1 lab1 m p s0 := Blk.kept h s hm
theorem TabAt.kept {s0 : Tab} (h : TabAt fixed H lab m p s0) (s : StpH a b H R lab H1 R1 lab1) (hm : m + 1 < a ∨ b ≤ m) (ha : 0 < a ∨ b ≤ 0) : TabAt fixed H1 lab1 m p s0 := by
  obtain ⟨lv, fv, h1, h2, h3⟩ := h
  exact ⟨lv, fv, h1.kept s (by omega), h2.kept s (by omega), h3.kept s ha⟩
theorem DecAt.kept {s0 : Dec} (h : DecAt fixed H lab m p s0) (s : StpH a b H R lab H1 R1 lab1) (hm : m + 2 < a ∨ b ≤ m) (ha : 0 < a ∨ b ≤ 0) : DecAt fixed H1 lab1 m p s0 := by
  obtain ⟨tb, h1, h2⟩ := h
  exact ⟨tb, h1.kept s (by omega), h2.kept s (by omega) ha⟩
theorem EncAt.kept {s0 : Enc} (h : EncAt fixed H lab m p s0) (s : StpH a b H R lab H1 R1 lab1) (hm : m + 2 < a ∨ b ≤ m) (ha : 0 < a ∨ b ≤ 0) : EncAt fixed H1 lab1 m p s0 := by
  obtain ⟨tb, h1, h2⟩ := h
  exact ⟨tb, h1.kept s (by omega), h2.kept s (by omega) ha⟩
theorem BookAt.kept {s0 : Book} (h : BookAt H lab m p s0) (s : StpH a b H R lab H1 R1 lab1) (hm : m + 1 < a ∨ b ≤ m) : BookAt H1 lab1 m p s0 := by
  obtain ⟨mb, h1, h2⟩ := h
  exact ⟨mb, h1.kept s (by omega), h2.kept s (by omega)⟩
theorem CParts.kept {g : CG} {s0 : CS} {B : Nat} (h : CParts fixed H lab B g s0) (s : StpH a b H R lab H1 R1 lab1) (hm : B + 15 < a ∨ b ≤ B + 1) (ha : 0 < a ∨ b ≤ 0) : CParts fixed H1 lab1 B g s0 :=
  ⟨h.feed.kept s (by omega), h.dec.kept s (by omega) ha, h.enc.kept s (by omega) ha, h.book.kept s (by omega), h.opens.kept s (by omega),
    h.gone.kept s (by omega), h.out.kept s (by omega), h.events.kept s (by omega) ha⟩
theorem ConnAt.kept {g : CG} {s0 : CS} {B : Nat} (h : ConnAt fixed H lab B p g s0) (s : StpH a b H R lab H1 R1 lab1) (hm : B + 15 < a ∨ b ≤ B) (ha : 0 < a ∨ b ≤ 0) : ConnAt fixed H1 lab1 B p g s0 :=
  ⟨h.blk.kept s (by omega), h.parts.kept s (by omega) ha⟩
end

/-! ### A connection's own cells -/
section
variable {w : World} {lab : Nat → Nat} {B p : Nat} {g g' : CG} {s s' : CS} {fixed : List (ByteArray × ByteArray)}
/-- A store into a labelled block, as a step. -/
theorem Blk.storeStp {l : Nat} {cs : Array Value} {t : TypeId} (h : Blk w.heap lab p l cs t) (hf : Fr w.heap lab) (k : Nat) (v : Value) : Stp l (l + 1) w lab (w.setCell ⟨p, k, none⟩ v) lab :=
  (Stp.refl l (l + 1) hf).setCell v (.inr (by rw [h.1]; omega))
/-- A store into one of the connection's own cells. -/
theorem ConnAt.store (h : ConnAt fixed w.heap lab B p g s) (hB : 0 < B) (hf : Fr w.heap lab) (k : Nat) (v : Value) (hc : (connCells g s).setIfInBounds k v = connCells g' s') (hp : CParts fixed w.heap lab B g' s') : ConnAt fixed (w.setCell ⟨p, k, none⟩ v).heap lab B p g' s' :=
  ⟨by have := h.blk.store k v; rw [hc] at this; exact this, hp.kept (h.blk.storeStp hf k v) (by omega) (by omega)⟩
theorem ConnAt.alloc (h : ConnAt fixed w.heap lab B p g s) (o : Obj) (hf : Fr w.heap lab) : ConnAt fixed (w.alloc o).heap lab B p g s :=
  h.kept ((Stp.refl 0 0 hf).alloc o) (by omega) (by omega)
end
end Go.Proofs.YtlbaiighiaanoaaGreatDoor

/- Plain lemmas on numbers, bits and bytes. -/
namespace Go.Proofs.YtlbaiighiaanoaaGreatDoor
open Go Go.Proofs Go.RowKit
theorem wrap_u64' (n : Int) : IntKind.u64.wrap n = n % 18446744073709551616 := by simp [IntKind.wrap, IntKind.bits, IntKind.signed]
theorem wraps_u64 (n : Int) (h0 : 0 ≤ n) (h1 : n < 2 ^ 64) : IntKind.u64.wrap n = n := by rw [wrap_u64']; omega
theorem wraps_u32 (n : Int) (h0 : 0 ≤ n) (h1 : n < 2 ^ 32) : IntKind.u32.wrap n = n := by rw [IntKind.wrap_u32]; omega
theorem or_u64_256 (a c : Nat) (ha : a < 72057594037927936) (hc : c < 256) : bits .or .u64 ((a : Int) * 256) c = ((a * 256 + c : Nat) : Int) := by
  have := bits_join .u64 64 (by decide) wraps_u64 8 ((a : Int) * 256) c (by omega) (by omega) (by omega) (by omega) (by omega) (by omega)
  rw [this]; simp

/-- Bytes as a number, the highest first. -/
def beNum (l : List UInt8) : Nat := l.foldl (fun n c => n * 256 + c.toNat) 0
theorem beNum_snoc (l : List UInt8) (c : UInt8) : beNum (l ++ [c]) = beNum l * 256 + c.toNat := by simp [beNum]
theorem beNum_lt (l : List UInt8) : beNum l < 256 ^ l.length := by
  unfold beNum
  suffices h : ∀ (l : List UInt8) (n k : Nat), n < 256 ^ k → l.foldl (fun n c => n * 256 + c.toNat) n < 256 ^ (k + l.length) by
    have := h l 0 0 (by simp)
    simpa using this
  intro l
  induction l with
  | nil => intro n k h; simpa using h
  | cons c l ih =>
    intro n k h
    rw [List.foldl_cons, List.length_cons, show k + (l.length + 1) = (k + 1) + l.length by omega]
    apply ih
    have hc : c.toNat < 256 := c.toNat_lt
    rw [Nat.pow_succ]
    generalize 256 ^ k = q at *
    omega
/-- A number's bytes, the highest first. -/
def beBytes : Nat → Nat → List UInt8
  | 0, _ => []
  | k + 1, n => UInt8.ofNat (n / 256 ^ k) :: beBytes k n
theorem beBytes_length : ∀ k n, (beBytes k n).length = k
  | 0, _ => rfl
  | k + 1, n => by simp [beBytes, beBytes_length k n]
/-- The number of n bytes of s from a on. -/
def getN (s : ByteArray) (a n : Nat) : Nat := beNum ((s.data.toList.drop a).take n)
theorem getN_lt (s : ByteArray) (a n : Nat) : getN s a n < 256 ^ n := by
  unfold getN
  refine Nat.lt_of_lt_of_le (beNum_lt _) (Nat.pow_le_pow_right (by decide) ?_)
  simp; omega
theorem len_bytes (t : ByteArray) : t.data.toList.length = t.size := by simp
theorem take_snoc' (l : List UInt8) (k : Nat) (h : k < l.length) : l.take (k + 1) = l.take k ++ [l[k]?.getD 0] := by
  rw [List.take_succ_eq_append_getElem h]
  simp [h]
theorem beqI {n k : Nat} {b : Bool} (h : (n == k) = b) : ((n : Int) == (k : Int)) = b := by
  rw [← h, Bool.eq_iff_iff]; simp; omega
theorem bneI {n k : Nat} {b : Bool} (h : (n != k) = b) : ((n : Int) != (k : Int)) = b := by
  rw [← h, Bool.eq_iff_iff]; simp; omega
theorem ltI {n k : Nat} {b : Bool} (h : decide (n < k) = b) : decide ((n : Int) < (k : Int)) = b := by
  rw [← h, Bool.eq_iff_iff]; simp
end Go.Proofs.YtlbaiighiaanoaaGreatDoor

/- Contracts of package num. -/
namespace Go.Proofs.YtlbaiighiaanoaaGreatDoor
open Go Go.Proofs Go.RowKit
set_option maxRecDepth 100000
set_option linter.unusedVariables false
set_option linter.unusedSimpArgs false

def PostV (w : World) (v : Value) (e : Ending) (w' : World) : Prop := e = .returned v ∧ w = w'
def PostS (w : World) (lab : Nat → Nat) (v : Value) (e : Ending) (w' : World) : Prop := e = .returned v ∧ Stp 0 0 w lab w' lab
theorem part_yes (s : ByteArray) (at_ size : Int) (w : World) (h1 : 0 ≤ at_) (h2 : 0 ≤ size) (h3 : at_ + size ≤ s.size) (hs : s.size ≤ 9223372036854775807) :
    Calls Tryz.prog 93 #[.string s, .int .i64 at_, .int .i64 size] w (PostV w (.tuple #[.string (s.extract at_.toNat (at_ + size).toNat), .bool true])) := by
  have a1 : decide (at_ < 0) = false := by simp; omega
  have a2 : decide (size < 0) = false := by simp; omega
  have a3 : decide ((s.size : Int) < at_) = false := by simp; omega
  have a4 : decide ((s.size : Int) - at_ < size) = false := by simp; omega
  go_enter Tryz.func93, Tryz.ntmps93
  go_wp2
  go_ret2
  exact ⟨rfl, rfl⟩
theorem part_no (s : ByteArray) (at_ size : Int) (w : World) (h : at_ < 0 ∨ size < 0 ∨ s.size < at_ ∨ s.size - at_ < size) (hs : s.size ≤ 9223372036854775807) (h1 : -9223372036854775808 ≤ at_) (h2 : at_ ≤ 9223372036854775807) :
    Calls Tryz.prog 93 #[.string s, .int .i64 at_, .int .i64 size] w (PostV w (.tuple #[.string ⟨#[]⟩, .bool false])) := by
  have H := Lib.hid h
  clear h
  go_enter Tryz.func93, Tryz.ntmps93
  go_wp2
  all_goals (first | (go_ret2; exact ⟨rfl, rfl⟩) | (exfalso; have := H.out; omega))

theorem get_yes (s : ByteArray) (at_ size : Int) (w : World) (lab : Nat → Nat) (hf : Fr w.heap lab) (h1 : 0 ≤ at_) (h2 : 1 ≤ size) (h22 : size ≤ 8) (h3 : at_ + size ≤ s.size) (hs : s.size ≤ 9223372036854775807) :
    Calls Tryz.prog 94 #[.string s, .int .i64 at_, .int .i64 size] w (PostS w lab (.tuple #[.int .u64 (getN s at_.toNat size.toNat), .bool true])) := by
  obtain ⟨a, rfl⟩ := Int.eq_ofNat_of_zero_le h1
  obtain ⟨n, rfl⟩ := Int.eq_ofNat_of_zero_le (show 0 ≤ size by omega)
  rw [Int.toNat_natCast, Int.toNat_natCast]
  have H := Lib.hid hs
  have a1 : decide ((n : Int) < 1) = false := by simp; omega
  have a2 : decide (8 < (n : Int)) = false := by simp; omega
  go_enter Tryz.func94, Tryz.ntmps94
  go_wp2_with fail
  refine (part_yes s a n w h1 (by omega) h3 H.out).mono ?_
  rintro e w' ⟨rfl, rfl⟩
  rw [show ((a : Int)).toNat = a by omega, show ((a : Int) + n).toNat = a + n by omega]
  have hg : getN s a n = beNum (s.extract a (a + n)).data.toList := by
    unfold getN
    congr 1
    simp [List.take_drop]
  have HG := Lib.hid hg
  clear hg
  generalize ht : s.extract a (a + n) = t at *
  have htl : t.size = n := by rw [← ht]; simp; omega
  clear ht
  go_wp2_with (refine wp_convSB rfl _ 9 46 rfl Tryz.underlying9 Tryz.underlying46 Tryz.underlying5 rfl hf ?_; intro b cap w1 hb hsz hst hcell)
  have HC := Lib.hid hcell
  clear hcell
  have HT := Lib.hid htl
  clear htl
  go_loop [10, 33] (fun v i => ∃ k : Nat, k ≤ n ∧ i = .int .i64 k ∧ v = .int .u64 (beNum (t.data.toList.take k))) (fun _ i => n - (intOf i).toNat)
  case atStart => exact ⟨0, Nat.zero_le _, rfl, rfl⟩
  case round =>
    obtain ⟨k, hk, rfl, rfl⟩ := hrel
    by_cases hlt : k < n
    · have hc := HC.out k (by rw [HT.out]; exact hlt)
      have hsn := take_snoc' t.data.toList k (by rw [len_bytes, HT.out]; omega)
      generalize hcc : t.data.toList[k]?.getD 0 = c at hc hsn
      have hcb : c.toNat < 256 := c.toNat_lt
      have hbn : beNum (t.data.toList.take k) < 72057594037927936 := by
        refine Nat.lt_of_lt_of_le (beNum_lt _) ?_
        have : (t.data.toList.take k).length ≤ 7 := by simp; omega
        exact Nat.le_trans (Nat.pow_le_pow_right (by decide) this) (by decide)
      have HS := Lib.hid hsn
      clear hcc hsn
      go_wp2
      go_round
      case rel => exact ⟨k + 1, by omega, by go_num, by rw [HS.out, beNum_snoc, or_u64_256 _ _ hbn hcb]⟩
      case measure => simp [intOf]; omega
    · go_wp2
      obtain rfl : k = n := by omega
      have he : t.data.toList.take k = t.data.toList := List.take_of_length_le (by rw [len_bytes, HT.out]; omega)
      rw [he]
      go_ret2
      rw [HG.out]
      exact ⟨rfl, hst⟩
end Go.Proofs.YtlbaiighiaanoaaGreatDoor
