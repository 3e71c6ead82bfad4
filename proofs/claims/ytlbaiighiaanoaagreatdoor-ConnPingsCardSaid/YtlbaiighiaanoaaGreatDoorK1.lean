/- Contracts and plain laws for Pings, part 1; no conditions but those that each theorem states. -/
import Derived.Test.YtlbaiighiaanoaaGreatDoorProg
import Derived.WalkKit
import Derived.WalkLawsBesides
import Derived.WalkSpells
import Derived.Deep.AppendLies
import Derived.StillTailTactics
import Derived.Lib.Hide
import Derived.Maps.OwnSet
import Derived.Maps.RangeWalk
/- The base of the conn proofs: what a step changes, by labels of blocks; blocks, rows and maps that a structure owns. -/
namespace Go.Proofs.YtlbaiighiaanoaaGreatDoor
open Go Go.Proofs Go.RowKit

theorem mixed : Tryz.prog.follows .mixedOrders = true := by kernel_rfl

/-- A region that draws: reads first, in the text's order, then a forced tail. -/
theorem region_tail {P : Program} {id : Nat} {Q : Exit → Act → World → Prop} {a : Act} {w : World} {l : List Oper} (n : Nat) (hm : P.follows .mixedOrders = true) (hB : Region.lexTailB .any l.toArray n = true)
    (h : wpStill P l.toArray w.drew (fun a' => wpList P l.toArray Q (l.drop n) a' w.drew) (l.take n) a) : (Code.region id l.toArray true).wp P Q a w :=
  wp_region_still_tail n hm hB h

/-- Fresh blocks bear the label 0. -/
def Fr (H : Array Obj) (lab : Nat → Nat) : Prop := ∀ k, H.size ≤ k → lab k = 0

/-- What else a world holds that no walk of ours turns. -/
structure Rest where
  os : Os
  tape : Nat → Question → Nat
  output : Array (Nat × ByteArray)
abbrev wrest (w : World) : Rest := ⟨w.os, w.tape, w.output⟩
/-- From one memory to another: of what was there, only blocks with labels from a on and below b may have turned; labels of old blocks stay. -/
structure StpH (a b : Nat) (H : Array Obj) (R : Rest) (lab : Nat → Nat) (H' : Array Obj) (R' : Rest) (lab' : Nat → Nat) : Prop where
  rest : R' = R
  size : H.size ≤ H'.size
  labs : ∀ k, k < H.size → lab' k = lab k
  block : ∀ k, k < H.size → ¬ (a ≤ lab k ∧ lab k < b) → H'[k]? = H[k]?
  fresh : Fr H' lab'
abbrev Stp (a b : Nat) (w : World) (lab : Nat → Nat) (w' : World) (lab' : Nat → Nat) : Prop := StpH a b w.heap (wrest w) lab w'.heap (wrest w') lab'

def upd (lab : Nat → Nat) (k i : Nat) : Nat → Nat := fun j => if j = k then i else lab j
theorem upd_same (lab : Nat → Nat) (k i : Nat) : upd lab k i k = i := by simp [upd]
theorem upd_other (lab : Nat → Nat) {k i j : Nat} (h : j ≠ k) : upd lab k i j = lab j := by simp [upd, h]

section
variable {a b : Nat} {w w' w1 w2 : World} {lab lab' lab1 lab2 : Nat → Nat} {H H1 H2 : Array Obj} {R R1 R2 : Rest}
theorem Stp.refl (a b : Nat) {H : Array Obj} {R : Rest} (h : Fr H lab) : StpH a b H R lab H R lab := ⟨rfl, Nat.le_refl _, fun _ _ => rfl, fun _ _ _ => rfl, h⟩
theorem StpH.trans (h : StpH a b H R lab H1 R1 lab1) (k : StpH a b H1 R1 lab1 H2 R2 lab2) : StpH a b H R lab H2 R2 lab2 :=
  ⟨k.rest.trans h.rest, Nat.le_trans h.size k.size,
   fun i hi => (k.labs i (Nat.lt_of_lt_of_le hi h.size)).trans (h.labs i hi),
   fun i hi hn => (k.block i (Nat.lt_of_lt_of_le hi h.size) (by rw [h.labs i hi]; exact hn)).trans (h.block i hi hn), k.fresh⟩
theorem StpH.mono (h : StpH a b H R lab H1 R1 lab1) {a' b' : Nat} (ha : a' ≤ a) (hb : b ≤ b') : StpH a' b' H R lab H1 R1 lab1 :=
  ⟨h.rest, h.size, h.labs, fun i hi hn => h.block i hi (fun ⟨x, y⟩ => hn ⟨Nat.le_trans ha x, Nat.lt_of_lt_of_le y hb⟩), h.fresh⟩
/-- What turned nothing. -/
theorem StpH.any (h : StpH 0 0 H R lab H1 R1 lab1) (a' b' : Nat) : StpH a' b' H R lab H1 R1 lab1 :=
  ⟨h.rest, h.size, h.labs, fun i hi _ => h.block i hi (by omega), h.fresh⟩
theorem StpH.then {a' b' : Nat} (h : StpH a b H R lab H1 R1 lab1) (k : StpH a' b' H1 R1 lab1 H2 R2 lab2) (ha : a ≤ a') (hb : b' ≤ b) : StpH a b H R lab H2 R2 lab2 := h.trans (k.mono ha hb)
theorem StpH.thenAny (h : StpH a b H R lab H1 R1 lab1) (k : StpH 0 0 H1 R1 lab1 H2 R2 lab2) : StpH a b H R lab H2 R2 lab2 := h.trans (k.any a b)
theorem Fr.alloc (h : Fr w.heap lab) (o : Obj) : Fr (w.alloc o).heap lab := fun k hk => h k (by simp at hk; omega)
theorem Fr.setCell (h : Fr w.heap lab) (p : Addr) (v : Value) : Fr (w.setCell p v).heap lab := fun k hk => h k (by simpa using hk)
theorem StpH.alloc (h : StpH a b H R lab w1.heap (wrest w1) lab1) (o : Obj) : StpH a b H R lab (w1.alloc o).heap (wrest (w1.alloc o)) lab1 :=
  ⟨h.rest, Nat.le_trans h.size (by simp), h.labs, fun i hi hn => (Below.heap_alloc _ _ _ (Nat.lt_of_lt_of_le hi h.size)).trans (h.block i hi hn), h.fresh.alloc o⟩
/-- A store into a block that may turn, or that is new. -/
theorem StpH.setCell (h : StpH a b H R lab w1.heap (wrest w1) lab1) {p : Addr} (v : Value) (hp : H.size ≤ p.block ∨ (a ≤ lab1 p.block ∧ lab1 p.block < b)) : StpH a b H R lab (w1.setCell p v).heap (wrest (w1.setCell p v)) lab1 :=
  ⟨h.rest, Nat.le_trans h.size (by simp), h.labs, fun i hi hn => by
    refine (Below.heap_setCell _ _ _ _ ?_).trans (h.block i hi hn)
    rintro rfl
    rcases hp with hp | hp
    · omega
    · rw [h.labs _ hi] at hp; exact hn hp, h.fresh.setCell p v⟩
/-- A new block gets a label. -/
theorem StpH.label (h : StpH a b H R lab H1 R1 lab1) {k : Nat} (i : Nat) (h1 : H.size ≤ k) (h2 : k < H1.size) : StpH a b H R lab H1 R1 (upd lab1 k i) :=
  ⟨h.rest, h.size, fun j hj => (upd_other _ (by omega)).trans (h.labs j hj), h.block, fun j hj => (upd_other _ (by omega)).trans (h.fresh j hj)⟩
/-- Behind a law that ends in 'grownBy'. -/
theorem StpH.grown (h : StpH a b H R lab w1.heap (wrest w1) lab1) {row : Option Nat} (hg : w1.grownBy w2 row) (hr : ∀ k, row = some k → H.size ≤ k ∨ (a ≤ lab1 k ∧ lab1 k < b)) : StpH a b H R lab w2.heap (wrest w2) lab1 :=
  ⟨by rw [← h.rest]; simp only [wrest, hg.os, hg.tape, hg.output], Nat.le_trans h.size hg.size, h.labs, fun i hi hn => by
    refine (hg.block i (Nat.lt_of_lt_of_le hi h.size) ?_).trans (h.block i hi hn)
    intro e
    rcases hr i e.symm with hp | hp
    · omega
    · rw [h.labs _ hi] at hp; exact hn hp, fun k hk => h.fresh k (Nat.le_trans hg.size hk)⟩
end

/-- What turned nothing keeps each cell. -/
theorem StpH.cell {w w1 : World} {R R1 : Rest} {lab lab1 : Nat → Nat} (h : StpH 0 0 w.heap R lab w1.heap R1 lab1) {p : Addr} {v : Value} (hc : w.cell? p = some v) : w1.cell? p = some v :=
  (World.cell?_of_block (h.block p.block (World.block_lt_of_cell? w p hc) (by omega))).trans hc
/-- A step keeps the cells of blocks with other labels. -/
theorem StpH.cellAt {a b : Nat} {w w1 : World} {R R1 : Rest} {lab lab1 : Nat → Nat} (h : StpH a b w.heap R lab w1.heap R1 lab1) {p : Addr} {v : Value} (hl : ¬ (a ≤ lab p.block ∧ lab p.block < b)) (hc : w.cell? p = some v) : w1.cell? p = some v :=
  (World.cell?_of_block (h.block p.block (World.block_lt_of_cell? w p hc) hl)).trans hc
theorem StpH.frozenAt {a b : Nat} {w w1 : World} {R R1 : Rest} {lab lab1 : Nat → Nat} (h : StpH a b w.heap R lab w1.heap R1 lab1) {p : Addr} (hp : p.block < w.heap.size) (hl : ¬ (a ≤ lab p.block ∧ lab p.block < b)) : w1.frozen? p = w.frozen? p :=
  World.frozen?_of_block (h.block p.block hp hl)

/-! ### Blocks -/
/-- Block b bears the label l and holds just these cells. -/
def Blk (H : Array Obj) (lab : Nat → Nat) (b l : Nat) (cs : Array Value) (t : TypeId) : Prop := lab b = l ∧ H[b]? = some (.cells cs t (0, 0))
section
variable {a b : Nat} {w w' w1 : World} {H H1 : Array Obj} {R R1 : Rest} {lab lab1 : Nat → Nat} {p l : Nat} {cs : Array Value} {t : TypeId}
theorem Blk.lt (h : Blk H lab p l cs t) : p < H.size := (Array.getElem?_eq_some_iff.1 h.2).1
theorem Blk.cell (h : Blk w.heap lab p l cs t) (k : Nat) {v : Value} (hk : cs[k]? = some v) : w.cell? ⟨p, k, none⟩ = some v := by simp [World.cell?, h.2, hk]
theorem Blk.free (h : Blk w.heap lab p l cs t) (k : Nat) : w.frozen? ⟨p, k, none⟩ = false := by simp [World.frozen?, h.2]
theorem Blk.kept (h : Blk H lab p l cs t) (s : StpH a b H R lab H1 R1 lab1) (hl : l < a ∨ b ≤ l) : Blk H1 lab1 p l cs t :=
  ⟨(s.labs p h.lt).trans h.1, (s.block p h.lt (by rw [h.1]; omega)).trans h.2⟩
theorem Blk.alloc (h : Blk w.heap lab p l cs t) (o : Obj) : Blk (w.alloc o).heap lab p l cs t := ⟨h.1, (Below.heap_alloc w o p h.lt).trans h.2⟩
theorem Blk.other (h : Blk w.heap lab p l cs t) {q : Addr} (hq : p ≠ q.block) (v : Value) : Blk (w.setCell q v).heap lab p l cs t := ⟨h.1, (Below.heap_setCell w q v p hq).trans h.2⟩
theorem Blk.store (h : Blk w.heap lab p l cs t) (k : Nat) (v : Value) : Blk (w.setCell ⟨p, k, none⟩ v).heap lab p l (cs.setIfInBounds k v) t :=
  ⟨h.1, by simp [World.setCell, Array.getElem?_modify, h.2]⟩
theorem Blk.new (w : World) (lab : Nat → Nat) (l : Nat) (cs : Array Value) (t : TypeId) : Blk (w.alloc (.cells cs t)).heap (upd lab w.heap.size l) w.heap.size l cs t :=
  ⟨upd_same _ _ _, heap_alloc_new w _⟩
/-- A new block of no owner. -/
theorem Blk.at_new (w : World) (lab : Nat → Nat) (hf : Fr w.heap lab) (cs : Array Value) (t : TypeId) : Blk (w.alloc (.cells cs t)).heap lab w.heap.size 0 cs t := ⟨hf _ (Nat.le_refl _), heap_alloc_new w _⟩
theorem Blk.relabel (h : Blk H lab p l cs t) {k i : Nat} (hk : p ≠ k) : Blk H (upd lab k i) p l cs t := ⟨(upd_other _ hk).trans h.1, h.2⟩
theorem Blk.ne {q m : Nat} {cs' : Array Value} {t' : TypeId} (h : Blk H lab p l cs t) (h' : Blk H lab q m cs' t') (hl : l ≠ m) : p ≠ q := by
  rintro rfl; exact hl (h.1.symm.trans h'.1)
end

/-! ### Rows: slices that own their array -/
/-- v is a slice of n elements of type e (size cells each) that holds the cells xs in an array of its own from its head on. -/
def Owns (H : Array Obj) (base : Nat) (e : TypeId) (size : Nat) (v : Value) (n : Nat) (xs : List Value) : Prop :=
  xs.length = n * size ∧
  ((v = .slice none 0 0 ∧ n = 0) ∨
   ∃ g cap cur, v = .slice (some ⟨g, 0, none⟩) n cap ∧ base ≤ g ∧ H[g]? = some (.cells cur e (0, 0)) ∧ n ≤ cap ∧ cap ≤ maxLen ∧ cur.size = cap * size ∧ cur.toList.take (n * size) = xs)
theorem Owns.of {w : World} {base : Nat} {e : TypeId} {size : Nat} {v : Value} {n : Nat} {xs : List Value} (h : w.ownsRow base e size v n xs) : Owns w.heap base e size v n xs := h
theorem Owns.to {w : World} {base : Nat} {e : TypeId} {size : Nat} {v : Value} {n : Nat} {xs : List Value} (h : Owns w.heap base e size v n xs) : w.ownsRow base e size v n xs := h
/-- .. and its array's block, if it has one, bears the label l. -/
def Row (H : Array Obj) (lab : Nat → Nat) (l : Nat) (e : TypeId) (size : Nat) (v : Value) (n : Nat) (xs : List Value) : Prop :=
  Owns H 0 e size v n xs ∧ ∀ k, v.ownBlock = some k → lab k = l
section
variable {a b : Nat} {w w' w1 : World} {H H1 : Array Obj} {R R1 : Rest} {lab lab1 : Nat → Nat} {l : Nat} {e : TypeId} {size : Nat} {v : Value} {n : Nat} {xs : List Value} {base : Nat}
theorem Owns.lt (h : Owns H base e size v n xs) : ∀ k, v.ownBlock = some k → base ≤ k ∧ k < H.size := by
  intro k hk
  rcases h.2 with ⟨rfl, _⟩ | ⟨g, cap, cur, rfl, hb, hg, _⟩
  · simp [Value.ownBlock] at hk
  · simp [Value.ownBlock] at hk
    subst hk
    exact ⟨hb, (Array.getElem?_eq_some_iff.1 hg).1⟩
theorem Owns.keep (h : Owns H base e size v n xs) (hs : ∀ k, v.ownBlock = some k → H1[k]? = H[k]?) : Owns H1 base e size v n xs := by
  refine ⟨h.1, ?_⟩
  rcases h.2 with h2 | ⟨g, cap, cur, rfl, hg, hh, r⟩
  · exact .inl h2
  · exact .inr ⟨g, cap, cur, rfl, hg, (hs g rfl).trans hh, r⟩
theorem Owns.base0 (h : Owns H base e size v n xs) : Owns H 0 e size v n xs := by
  refine ⟨h.1, ?_⟩
  rcases h.2 with h2 | ⟨g, cap, cur, rfl, hg, r⟩
  · exact .inl h2
  · exact .inr ⟨g, cap, cur, rfl, Nat.zero_le _, r⟩
/-- A list of the call's own behind a step that turns old blocks alone. -/
theorem Owns.kept (h : Owns H base e size v n xs) (s : StpH a b H R lab H1 R1 lab1) (hl : ∀ k, base ≤ k → k < H.size → ¬ (a ≤ lab k ∧ lab k < b)) : Owns H1 base e size v n xs :=
  h.keep fun k hk => s.block k (h.lt k hk).2 (hl k (h.lt k hk).1 (h.lt k hk).2)
theorem Row.nil (H : Array Obj) (lab : Nat → Nat) (l : Nat) (e : TypeId) (size : Nat) : Row H lab l e size (.slice none 0 0) 0 [] := ⟨⟨by simp, .inl ⟨rfl, rfl⟩⟩, by simp [Value.ownBlock]⟩
theorem Row.lt (h : Row H lab l e size v n xs) : ∀ k, v.ownBlock = some k → k < H.size := fun k hk => (h.1.lt k hk).2
theorem Row.keep (h : Row H lab l e size v n xs) (hs : ∀ k, v.ownBlock = some k → H1[k]? = H[k]?) (hl : ∀ k, v.ownBlock = some k → lab1 k = lab k) : Row H1 lab1 l e size v n xs :=
  ⟨h.1.keep hs, fun k hk => (hl k hk).trans (h.2 k hk)⟩
theorem Row.kept (h : Row H lab l e size v n xs) (s : StpH a b H R lab H1 R1 lab1) (hl : l < a ∨ b ≤ l) : Row H1 lab1 l e size v n xs :=
  h.keep (fun k hk => s.block k (h.lt k hk) (by rw [h.2 k hk]; omega)) (fun k hk => s.labs k (h.lt k hk))
theorem Row.alloc (h : Row w.heap lab l e size v n xs) (o : Obj) : Row (w.alloc o).heap lab l e size v n xs := h.keep (fun k hk => Below.heap_alloc w o k (h.lt k hk)) (fun _ _ => rfl)
theorem Row.other (h : Row w.heap lab l e size v n xs) {q : Addr} (hq : ∀ k, v.ownBlock = some k → k ≠ q.block) (u : Value) : Row (w.setCell q u).heap lab l e size v n xs :=
  h.keep (fun k hk => Below.heap_setCell w q u k (hq k hk)) (fun _ _ => rfl)
theorem Row.otherBlk {p m : Nat} {cs : Array Value} {t : TypeId} (h : Row w.heap lab l e size v n xs) (hb : Blk w.heap lab p m cs t) (hl : l ≠ m) (k : Nat) (u : Value) : Row (w.setCell ⟨p, k, none⟩ u).heap lab l e size v n xs :=
  h.other (fun j hj => by rintro rfl; exact hl ((h.2 _ hj).symm.trans hb.1)) u
theorem Row.relabel (h : Row H lab l e size v n xs) {k i : Nat} (hk : v.ownBlock ≠ some k) : Row H (upd lab k i) l e size v n xs :=
  h.keep (fun _ _ => rfl) (fun j hj => upd_other _ (by rintro rfl; exact hk hj))
end

/-! ### Maps with uint32 keys -/
/-- The entries of a map, in the order in which they were made. -/
def Ents (es : Array MapEntry) (clock : Nat) (l : List (Int × Value)) : Prop :=
  es.toList.map (fun e => (e.key, e.val)) = l.map (fun p => (Value.int .u32 p.1, p.2)) ∧ (l.map (·.1)).Nodup ∧ (∀ e ∈ es.toList, e.born < clock) ∧ (es.toList.map (·.born)).Nodup
def Mp (H : Array Obj) (lab : Nat → Nat) (b m : Nat) (l : List (Int × Value)) : Prop := lab b = m ∧ ∃ es clock, H[b]? = some (.map es clock) ∧ Ents es clock l
section
variable {a b : Nat} {w w' w1 : World} {H H1 : Array Obj} {R R1 : Rest} {lab lab1 : Nat → Nat} {p m : Nat} {l : List (Int × Value)}
theorem Mp.lt (h : Mp H lab p m l) : p < H.size := by obtain ⟨_, es, c, h2, _⟩ := h; exact (Array.getElem?_eq_some_iff.1 h2).1
theorem Mp.keep (h : Mp H lab p m l) (hs : H1[p]? = H[p]?) (hl : lab1 p = lab p) : Mp H1 lab1 p m l := by
  obtain ⟨h1, es, c, h2, h3⟩ := h; exact ⟨hl.trans h1, es, c, hs.trans h2, h3⟩
theorem Mp.kept (h : Mp H lab p m l) (s : StpH a b H R lab H1 R1 lab1) (hl : m < a ∨ b ≤ m) : Mp H1 lab1 p m l :=
  h.keep (s.block p h.lt (by rw [h.1]; omega)) (s.labs p h.lt)
theorem Mp.alloc (h : Mp w.heap lab p m l) (o : Obj) : Mp (w.alloc o).heap lab p m l := h.keep (Below.heap_alloc w o p h.lt) rfl
theorem Mp.other (h : Mp w.heap lab p m l) {q : Addr} (hq : p ≠ q.block) (v : Value) : Mp (w.setCell q v).heap lab p m l := h.keep (Below.heap_setCell w q v p hq) rfl
theorem Mp.otherBlk {q n : Nat} {cs : Array Value} {t : TypeId} (h : Mp w.heap lab p m l) (hb : Blk w.heap lab q n cs t) (hl : m ≠ n) (k : Nat) (u : Value) : Mp (w.setCell ⟨q, k, none⟩ u).heap lab p m l :=
  h.other (by rintro rfl; exact hl (h.1.symm.trans hb.1)) u
theorem Mp.relabel (h : Mp H lab p m l) {k i : Nat} (hk : p ≠ k) : Mp H (upd lab k i) p m l := h.keep rfl (upd_other _ hk)
theorem Mp.new (w : World) (lab : Nat → Nat) (m : Nat) : Mp (w.alloc (.map #[] 0)).heap (upd lab w.heap.size m) w.heap.size m [] :=
  ⟨upd_same _ _ _, #[], 0, heap_alloc_new w _, by simp [Ents]⟩
end
end Go.Proofs.YtlbaiighiaanoaaGreatDoor

/- Maps with uint32 keys: what look-up, store, delete, len and make do to a block that 'Mp' knows. -/
namespace Go.Proofs.YtlbaiighiaanoaaGreatDoor
open Go Go.Proofs Go.RowKit Go.MapKept

/-- A store: at its place where the key is there, else behind. -/
def mput (k : Int) (v : Value) (l : List (Int × Value)) : List (Int × Value) := if (l.lookup k).isSome then l.map (fun p => if p.1 = k then (k, v) else p) else l ++ [(k, v)]
def mdel (k : Int) (l : List (Int × Value)) : List (Int × Value) := l.filter (fun p => p.1 != k)

theorem lookup_none {k : Int} : ∀ {l : List (Int × Value)}, (∀ p ∈ l, p.1 ≠ k) → l.lookup k = none
  | [], _ => rfl
  | p :: l, h => by
    have h1 := h p (by simp)
    rw [List.lookup_cons, beq_eq_false_iff_ne.2 (Ne.symm h1)]
    exact lookup_none (fun q hq => h q (by simp [hq]))
theorem lookup_some_mem {k : Int} {v : Value} : ∀ {l : List (Int × Value)}, l.lookup k = some v → (k, v) ∈ l
  | [], h => by simp at h
  | p :: l, h => by
    rw [List.lookup_cons] at h
    split at h
    · rename_i hk
      have : k = p.1 := by simpa using hk
      simp only [Option.some.injEq] at h
      subst this; subst h
      simp
    · exact List.mem_cons_of_mem _ (lookup_some_mem h)
theorem lookup_of_mem {k : Int} {v : Value} : ∀ {l : List (Int × Value)}, (l.map (·.1)).Nodup → (k, v) ∈ l → l.lookup k = some v
  | [], _, h => by simp at h
  | p :: l, hn, h => by
    rw [List.map_cons, List.nodup_cons] at hn
    rw [List.lookup_cons]
    rcases List.mem_cons.1 h with rfl | h
    · simp
    · have : k ≠ p.1 := by
        rintro rfl
        exact hn.1 (List.mem_map.2 ⟨_, h, rfl⟩)
      rw [beq_eq_false_iff_ne.2 this]
      exact lookup_of_mem hn.2 h
theorem lookup_none_iff {k : Int} {l : List (Int × Value)} : l.lookup k = none ↔ ∀ p ∈ l, p.1 ≠ k := by
  constructor
  · intro h p hp e
    induction l with
    | nil => simp at hp
    | cons q l ih =>
      rw [List.lookup_cons] at h
      split at h
      · cases h
      · rename_i hk
        rcases List.mem_cons.1 hp with rfl | hp
        · simp [e] at hk
        · exact ih h hp
  · exact lookup_none
theorem mput_keys (k : Int) (v : Value) (l : List (Int × Value)) : (mput k v l).map (·.1) = if (l.lookup k).isSome then l.map (·.1) else l.map (·.1) ++ [k] := by
  unfold mput
  split
  · rw [List.map_map]
    apply List.map_congr_left
    intro p _
    simp only [Function.comp]
    split
    · rename_i h; exact h.symm
    · rfl
  · simp
theorem mput_nodup {k : Int} {v : Value} {l : List (Int × Value)} (h : (l.map (·.1)).Nodup) : ((mput k v l).map (·.1)).Nodup := by
  rw [mput_keys]
  split
  · exact h
  · rename_i hn
    rw [List.nodup_append]
    refine ⟨h, by simp, ?_⟩
    intro a ha b hb
    simp at hb
    subst hb
    have h0 : l.lookup b = none := Option.not_isSome_iff_eq_none.1 hn
    obtain ⟨p, hp, rfl⟩ := List.mem_map.1 ha
    exact lookup_none_iff.1 h0 p hp
theorem mdel_nodup {k : Int} {l : List (Int × Value)} (h : (l.map (·.1)).Nodup) : ((mdel k l).map (·.1)).Nodup := by
  exact (List.filter_sublist.map _).nodup h

section
variable {es : Array MapEntry} {clock : Nat} {l : List (Int × Value)}
theorem Ents.isKey (h : Ents es clock l) : ∀ x ∈ es.toList, IsKey (.int .u32) x.key := by
  intro x hx
  have : (x.key, x.val) ∈ es.toList.map (fun e => (e.key, e.val)) := List.mem_map.2 ⟨x, hx, rfl⟩
  rw [h.1] at this
  obtain ⟨p, _, hp⟩ := List.mem_map.1 this
  simp only [Prod.mk.injEq] at hp
  rw [← hp.1]
  simp [IsKey]
theorem Ents.get (h : Ents es clock l) (j : Nat) : (es.toList[j]?).map (fun e => (e.key, e.val)) = (l[j]?).map (fun p => (Value.int .u32 p.1, p.2)) := by
  rw [← List.getElem?_map, ← List.getElem?_map, h.1]
theorem Ents.size (h : Ents es clock l) : es.size = l.length := by
  have := congrArg List.length h.1
  simpa using this
theorem Ents.find (h : Ents es clock l) (k : Int) :
    (Instr.findNow (.int .u32) (.int .u32 k) es.toList 0 = some none ∧ l.lookup k = none) ∨
    ∃ j v, Instr.findNow (.int .u32) (.int .u32 k) es.toList 0 = some (some (j, v)) ∧ l[j]? = some (k, v) ∧ l.lookup k = some v := by
  have hk : IsKey (.int .u32) (.int .u32 k) := by simp [IsKey]
  rcases findNow_spec hk es.toList 0 h.isKey with ⟨h1, h2⟩ | ⟨j, e, h1, h2, h3⟩
  · refine .inl ⟨h1, lookup_none fun p hp hpk => ?_⟩
    have : (Value.int .u32 p.1, p.2) ∈ es.toList.map (fun e => (e.key, e.val)) := by rw [h.1]; exact List.mem_map.2 ⟨p, hp, rfl⟩
    obtain ⟨e, he, hee⟩ := List.mem_map.1 this
    simp only [Prod.mk.injEq] at hee
    exact h2 e he (by rw [hee.1, hpk])
  · have hg := h.get j
    rw [h2] at hg
    cases hl : l[j]? with
    | none => rw [hl] at hg; simp at hg
    | some p =>
      rw [hl] at hg
      simp only [Option.map_some, Option.some.injEq, Prod.mk.injEq] at hg
      have hp1 : p.1 = k := by
        have := hg.1.symm.trans h3
        simpa using this
      refine .inr ⟨j, e.val, by simpa using h1, ?_, ?_⟩
      · rw [hl, hg.2, ← hp1]
      · refine lookup_of_mem h.2.1 ?_
        have := List.mem_of_getElem? hl
        rw [hg.2, ← hp1]
        exact this
end

section
variable {P : Program} {w : World} {t kt et : TypeId} {lab : Nat → Nat} {b m : Nat} {l : List (Int × Value)}
/-- The look-up. -/
theorem Mp.run_look (h : Mp w.heap lab b m l) (ht : P.underlying t = some (.map kt et)) (hk : P.underlying kt = some (.int .u32)) (k : Int) {z : Value} (hz : ∀ w, (zeroValue et).run P w = .ok z w) (ok : Bool) (w' : World) (hw : w'.heap = w.heap) :
    (Instr.lookup t (.map (some b)) (.int .u32 k) ok).run P w' = .ok (if ok then .tuple #[(l.lookup k).getD z, .bool (l.lookup k).isSome] else (l.lookup k).getD z) w' := by
  obtain ⟨_, es, clock, hb, hE⟩ := h
  rw [← hw] at hb
  have hkey : IsKey (.int .u32) (.int .u32 k) := by simp [IsKey]
  rcases hE.find k with ⟨h1, h2⟩ | ⟨j, v, h1, _, h2⟩
  · cases ok <;> simp [Instr.lookup, run_underlying ht, MapKept.run_getObj_map hb, MapKept.run_checkKey hk hkey, MapKept.run_findKey hk h1, h2, hz]
  · cases ok <;> simp [Instr.lookup, run_underlying ht, MapKept.run_getObj_map hb, MapKept.run_checkKey hk hkey, MapKept.run_findKey hk h1, h2]

/-- The world with another object at a block. -/
def setObjW (w : World) (b : Nat) (o : Obj) : World := { w with heap := w.heap.setIfInBounds b o }
theorem grownBy_setObj (w : World) (b : Nat) (o : Obj) : w.grownBy (setObjW w b o) (some b) :=
  ⟨rfl, rfl, rfl, by simp [setObjW], fun k hk hne => by
    simp only [setObjW]
    rw [Array.getElem?_setIfInBounds_ne]
    intro e; exact hne (by rw [e])⟩
theorem heap_setObj {w : World} {b : Nat} (o : Obj) (h : b < w.heap.size) : (setObjW w b o).heap[b]? = some o := by
  simp [setObjW, h]


theorem map_eraseIdx' {α β : Type} (f : α → β) : ∀ (l : List α) (j : Nat), (l.eraseIdx j).map f = (l.map f).eraseIdx j
  | [], _ => by simp
  | x :: l, 0 => by simp
  | x :: l, j + 1 => by simp [map_eraseIdx' f l j]

/-- The store. -/
theorem Mp.run_put (h : Mp w.heap lab b m l) (ht : P.underlying t = some (.map kt et)) (hk : P.underlying kt = some (.int .u32)) (k : Int) (v : Value) :
    ∃ w', (Instr.mapUpdate t (.map (some b)) (.int .u32 k) v).run P w = .ok () w' ∧ Mp w'.heap lab b m (mput k v l) ∧ w.grownBy w' (some b) := by
  have hlt := h.lt
  obtain ⟨hl, es, clock, hb, hE⟩ := h
  have hkey : IsKey (.int .u32) (.int .u32 k) := by simp [IsKey]
  rcases hE.find k with ⟨h1, h2⟩ | ⟨j, v0, h1, hj, h2⟩
  · refine ⟨setObjW w b (.map (es.push { key := .int .u32 k, val := v, born := clock }) (clock + 1)), ?_, ⟨hl, _, _, heap_setObj _ hlt, ?_⟩, grownBy_setObj _ _ _⟩
    · simp [Instr.mapUpdate, run_underlying ht, MapKept.run_getObj_map hb, MapKept.run_checkKey hk hkey, MapKept.run_findKey hk h1, MapKept.run_setObj_map _ hb, setObjW]
    · refine ⟨?_, mput_nodup hE.2.1, ?_, ?_⟩
      · simp [mput, h2, hE.1]
      · intro e he
        simp at he
        rcases he with he | rfl
        · have := hE.2.2.1 e (by simpa using he); omega
        · simp
      · rw [Array.toList_push, List.map_append, List.nodup_append]
        refine ⟨hE.2.2.2, by simp, ?_⟩
        intro x hx y hy
        simp at hy
        obtain ⟨e, he, rfl⟩ := List.mem_map.1 hx
        have := hE.2.2.1 e he
        omega
  · have hes : ∃ e, es.toList[j]? = some e ∧ e.key = .int .u32 k := by
      have hg := hE.get j
      rw [hj] at hg
      cases he : es.toList[j]? with
      | none => rw [he] at hg; simp at hg
      | some e =>
        rw [he] at hg
        simp only [Option.map_some, Option.some.injEq, Prod.mk.injEq] at hg
        exact ⟨e, rfl, hg.1⟩
    obtain ⟨e, he, hek⟩ := hes
    have he' : es[j]? = some e := by simpa using he
    have hjl : j < es.size := (Array.getElem?_eq_some_iff.1 he').1
    refine ⟨setObjW w b (.map (es.modify j fun e => { e with key := .int .u32 k, val := v }) clock), ?_, ⟨hl, _, _, heap_setObj _ hlt, ?_⟩, grownBy_setObj _ _ _⟩
    · simp [Instr.mapUpdate, run_underlying ht, MapKept.run_getObj_map hb, MapKept.run_checkKey hk hkey, MapKept.run_findKey hk h1, MapKept.run_setObj_map _ hb, setObjW, he', hek, Instr.keyThatStays, Instr.sameBits]
    · have hmod : (es.modify j fun e => { e with key := .int .u32 k, val := v }).toList = es.toList.set j { e with key := .int .u32 k, val := v } := by
        rw [Array.toList_modify]
        apply List.ext_getElem?
        intro i
        rw [List.getElem?_modify, List.getElem?_set]
        by_cases hij : j = i
        · subst hij
          have hej : es[j] = e := (Array.getElem?_eq_some_iff.1 he').2
          simp [hjl, hej]
        · simp [hij]
      have hput : mput k v l = l.set j (k, v) := by
        unfold mput
        rw [h2]
        simp only [Option.isSome_some, if_true]
        apply List.ext_getElem?
        intro i
        rw [List.getElem?_map, List.getElem?_set]
        by_cases hij : j = i
        · subst hij
          have hjl' : j < l.length := (List.getElem?_eq_some_iff.1 hj).1
          have hlj : l[j] = (k, v0) := (List.getElem?_eq_some_iff.1 hj).2
          simp [hjl', hlj]
        · simp only [hij, if_false]
          cases hi : l[i]? with
          | none => rfl
          | some p =>
            simp only [Option.map_some, Option.some.injEq]
            split
            · rename_i hp
              exfalso
              apply hij
              have hnd := hE.2.1
              have h3 : (l.map (·.1))[j]? = some k := by rw [List.getElem?_map, hj]; rfl
              have h4 : (l.map (·.1))[i]? = some k := by rw [List.getElem?_map, hi, ← hp]; rfl
              exact (List.getElem?_inj (by simpa using (List.getElem?_eq_some_iff.1 hj).1) hnd).1 (h3.trans h4.symm)
            · rfl
      refine ⟨?_, mput_nodup hE.2.1, ?_, ?_⟩
      · rw [hmod, hput, List.map_set, List.map_set, hE.1]
      · intro x hx
        rw [hmod] at hx
        rcases List.mem_or_eq_of_mem_set hx with hx | rfl
        · exact hE.2.2.1 x hx
        · exact hE.2.2.1 e (List.mem_of_getElem? he)
      · rw [hmod, List.map_set]
        have : (es.toList.map (·.born)).set j e.born = es.toList.map (·.born) := by
          apply List.ext_getElem?
          intro i
          rw [List.getElem?_set]
          by_cases hij : j = i
          · subst hij
            have hej : es[j] = e := (Array.getElem?_eq_some_iff.1 he').2
            simp [hjl, hej]
          · simp [hij]
        simp only [this]
        exact hE.2.2.2

/-- The deletion. -/
theorem Mp.run_del (h : Mp w.heap lab b m l) (ht : P.underlying t = some (.map kt et)) (hk : P.underlying kt = some (.int .u32)) (k : Int) (ty kty : TypeId) :
    ∃ w', (Builtin.delete_ #[t, kty] ty #[.map (some b), .int .u32 k]).run P w = .ok (.tuple #[]) w' ∧ Mp w'.heap lab b m (mdel k l) ∧ w.grownBy w' (some b) := by
  have hlt := h.lt
  obtain ⟨hl, es, clock, hb, hE⟩ := h
  have hkey : IsKey (.int .u32) (.int .u32 k) := by simp [IsKey]
  rcases hE.find k with ⟨h1, h2⟩ | ⟨j, v0, h1, hj, h2⟩
  · refine ⟨setObjW w b (.map es clock), ?_, ⟨hl, _, _, heap_setObj _ hlt, ?_⟩, grownBy_setObj _ _ _⟩
    · simp [Builtin.delete_, run_underlying ht, MapKept.run_getObj_map hb, MapKept.run_checkKey hk hkey, MapKept.run_findKey hk h1, MapKept.run_setObj_map _ hb, setObjW]
    · have : mdel k l = l := by
        unfold mdel
        rw [List.filter_eq_self]
        intro p hp
        have := lookup_none_iff.1 h2 p hp
        simp [this]
      rw [this]
      exact hE
  · have hjl : j < l.length := (List.getElem?_eq_some_iff.1 hj).1
    have hje : j < es.size := by rw [hE.size]; exact hjl
    have hdel : mdel k l = l.eraseIdx j := by
      unfold mdel
      have hsp : l = l.take j ++ (k, v0) :: l.drop (j + 1) := by
        have := List.getElem_cons_drop hjl
        rw [(List.getElem?_eq_some_iff.1 hj).2] at this
        rw [this, List.take_append_drop]
      have hnd := hE.2.1
      have hno : ∀ p ∈ l.take j ++ l.drop (j + 1), p.1 ≠ k := by
        intro p hp e
        rw [hsp] at hnd
        simp only [List.map_append, List.map_cons, List.nodup_append, List.nodup_cons] at hnd
        obtain ⟨_, ⟨h5, _⟩, h6⟩ := hnd
        rcases List.mem_append.1 hp with hp | hp
        · exact h6 p.1 (List.mem_map.2 ⟨p, hp, rfl⟩) k (by simp) e
        · exact h5 (List.mem_map.2 ⟨p, hp, e⟩)
      rw [List.eraseIdx_eq_take_drop_succ]
      conv => lhs; rw [hsp]
      rw [List.filter_append, List.filter_cons]
      simp only [bne_self_eq_false, Bool.false_eq_true, if_false]
      rw [← List.filter_append, List.filter_eq_self]
      intro p hp
      simpa using hno p hp
    have herase : (es.eraseIdxIfInBounds j).toList = es.toList.eraseIdx j := by
      unfold Array.eraseIdxIfInBounds
      rw [dif_pos hje, Array.toList_eraseIdx]
    refine ⟨setObjW w b (.map (es.eraseIdxIfInBounds j) clock), ?_, ⟨hl, _, _, heap_setObj _ hlt, ?_⟩, grownBy_setObj _ _ _⟩
    · simp [Builtin.delete_, run_underlying ht, MapKept.run_getObj_map hb, MapKept.run_checkKey hk hkey, MapKept.run_findKey hk h1, MapKept.run_setObj_map _ hb, setObjW]
    · refine ⟨?_, mdel_nodup hE.2.1, ?_, ?_⟩
      · rw [herase, hdel, map_eraseIdx', map_eraseIdx', hE.1]
      · intro x hx
        rw [herase] at hx
        exact hE.2.2.1 x ((List.eraseIdx_sublist _ _).subset hx)
      · rw [herase]
        exact ((List.eraseIdx_sublist _ _).map _).nodup hE.2.2.2
theorem Mp.run_len (h : Mp w.heap lab b m l) (ht : P.underlying t = some (.map kt et)) (ty : TypeId) (w' : World) (hw : w'.heap = w.heap) : (Builtin.len_ #[t] ty #[.map (some b)]).run P w' = .ok (.int .i64 l.length) w' := by
  obtain ⟨_, es, clock, hb, hE⟩ := h
  rw [← hw] at hb
  simp [Builtin.len_, run_underlying ht, MapKept.run_getObj_map hb, hE.size, goInt]
end
end Go.Proofs.YtlbaiighiaanoaaGreatDoor
