/- Contracts and plain laws for Pings, part 8; no conditions but those that each theorem states. -/
import Derived.Test.YtlbaiighiaanoaaGreatDoorK7
import Derived.Sort.MapsRangeIn
import Derived.Sort.KeysCollected
import Derived.RangeFuncNested
import Derived.RangeFuncBound
import Derived.RangeFuncCalls
import Derived.RangeFuncLeaves
import Derived.RangeFuncGives
import Derived.RangeFuncStops
import Derived.Shelf.Abstract
import Derived.Shelf.AbstractIn
import Derived.OwnWalkIn
import Derived.TacticsInMore
import Derived.RegionIn
import Derived.LoopNIn
import Derived.LoopIn
import Derived.RangeFuncBox
import Derived.Maps.AppendAt
import Derived.Maps.OwnOps
/- Contracts of Conn.Out, Over, limit, pass, pong; of either, conn.number, stream.Next. -/
namespace Go.Proofs.YtlbaiighiaanoaaGreatDoor
open Go Go.Proofs Go.RowKit
set_option maxRecDepth 100000
set_option linter.unusedVariables false
set_option linter.unusedSimpArgs false
theorem out_spec (w : World) (lab : Nat → Nat) (hf : Fr w.heap lab) (B p : Nat) (hB : 0 < B) (g : CG) (s : CS) (h : ConnAt fixedT w.heap lab B p g s) :
    Calls Tryz.prog 14 #[ptr p] w (PostC w lab B p { s with out := [] } (.string ⟨s.out.toArray⟩)) := by
  have c19 := h.blk.cell 19 (v := g.out) (by rfl)
  have f19 := h.blk.free 19
  have hr := h.parts.out
  have ho := hr.1
  go_enter Tryz.func14, Tryz.ntmps14
  go_wp2_with (refine wp_convBS rfl _ _ 9 rfl Tryz.underlying46 Tryz.underlying9 Tryz.underlying5 rfl ho ?_)
  go_ret
  have hb2 := h.blk.store 19 (.slice none 0 0)
  have st := h.blk.storeStp hf 19 (.slice none 0 0)
  have hp2 : CParts fixedT w.heap lab B { g with out := .slice none 0 0 } { s with out := [] } := h.parts.setOut (R := wrest w) (R1 := wrest w) hB (Stp.refl _ _ hf) (Row.nil _ _ _ _ _)
  exact ⟨{ g with out := .slice none 0 0 }, lab, rfl, ⟨hb2, hp2.kept st (by omega) (by omega)⟩, st.mono (by omega) (by omega)⟩
theorem over_spec (w : World) (lab : Nat → Nat) (hf : Fr w.heap lab) (B p : Nat) (g : CG) (s : CS) (h : ConnAt fixedT w.heap lab B p g s) :
    Calls Tryz.prog 17 #[ptr p] w (PostC w lab B p s (.tuple #[.int .u32 s.code, .bool s.over])) := by
  have c24 := h.blk.cell 24 (v := .bool s.over) (by rfl)
  have c25 := h.blk.cell 25 (v := .int .u32 s.code) (by rfl)
  go_enter Tryz.func17, Tryz.ntmps17
  go_wp2
  go_region
  all_goals
    go_wp2
    go_ret2
    exact ⟨g, lab, rfl, h, Stp.refl _ _ hf⟩
theorem either_spec (e : Bool) (a b : Int) (w : World) : Calls Tryz.prog 55 #[.bool e, .int .i64 a, .int .i64 b] w (PostV w (.int .i64 (if e then a else b))) := by
  cases e
  all_goals
    go_enter Tryz.func55, Tryz.ntmps55
    go_wp2
    go_ret
    exact ⟨rfl, rfl⟩
theorem pass_spec (w : World) (lab : Nat → Nat) (hf : Fr w.heap lab) (B p : Nat) (g : CG) (s : CS) (f : Frm) (h : ConnAt fixedT w.heap lab B p g s) :
    Calls Tryz.prog 102 #[ptr p, frmV f] w (PostC w lab B p s (.tuple #[])) := by
  have st := (Stp.refl 0 0 hf).alloc (.cells (#[.int .u8 f.type, .int .u8 f.flags, .int .u32 f.stream, .string f.data] : Array Value) 32)
  dsimp only [frmV]
  go_enter Tryz.func102, Tryz.ntmps102
  go_wp2
  go_end0
  exact ⟨g, lab, rfl, h.kept st (by omega) (by omega), st.any _ _⟩
theorem limit_spec (w : World) (lab : Nat → Nat) (B p : Nat) (g : CG) (s : CS) (h : ConnAt fixedT w.heap lab B p g s) (h0 : 0 ≤ s.peer.frame) :
    Calls Tryz.prog 86 #[ptr p] w (PostV w (.int .i64 (min s.peer.frame 16384))) := by
  have c7 := h.blk.cell 7 (v := .int .u32 s.peer.frame) (by rfl)
  have hw : IntKind.i64.wrap (min s.peer.frame 16384) = min s.peer.frame 16384 := wrap_i64 _ (by omega) (by omega)
  go_enter Tryz.func86, Tryz.ntmps86
  go_wp2
  go_ret
  exact ⟨rfl, rfl⟩
theorem cnumber_spec (s : ByteArray) (at_ : Int) (w : World) (lab : Nat → Nat) (hf : Fr w.heap lab) (h1 : 0 ≤ at_) (h3 : at_ + 4 ≤ s.size) (hs : s.size ≤ 9223372036854775807) :
    Calls Tryz.prog 136 #[.string s, .int .i64 at_] w (PostS w lab (.int .u32 (getN s at_.toNat 4))) := by
  have hlt := getN_lt s at_.toNat 4
  have hw : IntKind.u32.wrap ((getN s at_.toNat 4 : Nat) : Int) = (getN s at_.toNat 4 : Nat) := wraps_u32 _ (by omega) (by omega)
  go_enter Tryz.func136, Tryz.ntmps136
  go_wp2_with fail
  refine (get_yes s at_ 4 w lab hf h1 (by omega) (by omega) h3 hs).mono ?_
  rintro e w1 ⟨rfl, hst⟩
  rw [show Int.toNat 4 = 4 from rfl]
  go_wp2
  go_ret
  exact ⟨rfl, hst⟩
theorem and1 : ∀ n : Nat, n < 256 → bits .and .u8 (n : Int) 1 = (if flg n 0 then 1 else 0) := fun n h => by
  have := bit8 n 0 (by omega) h
  simpa using this
/-- A ping that asks is answered. -/
def pongF (s : CS) (f : Frm) : CS := if flg f.flags 0 then s else sendF s { type := 6, flags := 1, stream := 0, data := f.data }
theorem pong_spec (w : World) (lab : Nat → Nat) (hf : Fr w.heap lab) (B p : Nat) (hB : 0 < B) (g : CG) (s : CS) (f : Frm) (h : ConnAt fixedT w.heap lab B p g s) (hfl : f.flags < 256) (hd : f.data.size ≤ 16384) (hl : s.out.length ≤ 70368744177664) :
    Calls Tryz.prog 107 #[ptr p, frmV f] w (PostC w lab B p (pongF s f) (.tuple #[])) := by
  have hp : pongF s f = if flg f.flags 0 then s else sendF s { type := 6, flags := 1, stream := 0, data := f.data } := rfl
  obtain ⟨ty, fl, st, d⟩ := f
  dsimp only [frmV] at *
  have hbx := Blk.at_new w lab hf #[.int .u8 ty, .int .u8 fl, .int .u32 st, .string d] 32
  have hst0 := (Stp.refl 0 0 hf).alloc (.cells #[.int .u8 ty, .int .u8 fl, .int .u32 st, .string d] 32)
  have h1 := h.kept hst0 (by omega) (by omega)
  obtain ⟨c0, c1, c2, c3⟩ := hbx.cells4
  have b0 := and1 fl hfl
  cases g0 : flg fl 0
  · rw [g0] at hp b0
    simp only [if_false, Bool.false_eq_true] at hp b0
    rw [hp]
    clear hp
    have SND := Lib.hid (send_spec _ lab hst0.fresh B p hB g s { type := 6, flags := 1, stream := 0, data := d } h1 ⟨by show 6 < 256; decide, by show 1 < 256; decide, by show (0 : Int) ≤ 0; decide, by show (0 : Int) ≤ 2147483647; decide, hd⟩ hl)
    go_enter Tryz.func107, Tryz.ntmps107
    go_wp2_with fail
    refine SND.out.mono ?_
    rintro e w2 ⟨g2, lab2, rfl, h2, st2⟩
    go_wp2
    go_end0
    exact ⟨g2, lab2, rfl, h2, (hst0.any _ _).trans st2⟩
  · rw [g0] at hp b0
    simp only [if_true] at hp b0
    rw [hp]
    clear hp
    go_enter Tryz.func107, Tryz.ntmps107
    go_wp2
    go_end0
    exact ⟨g, lab, rfl, h1, hst0.any _ _⟩
/-- A stream's next state: state, scope, code. -/
def nextL : List (Nat × Nat × Nat) :=
  [(1,0,0),(3,0,0),(0,2,1),(0,2,1),(0,2,1),(1,0,0),(2,0,0),(0,3,0),(0,3,0),(0,3,0),
   (1,0,0),(3,0,0),(1,0,0),(3,0,0),(4,0,0),(1,0,0),(2,0,0),(1,0,0),(2,0,0),(4,0,0),
   (2,0,0),(4,0,0),(2,0,0),(4,0,0),(4,0,0),(2,3,0),(2,3,0),(2,3,0),(2,3,0),(4,0,0),
   (3,1,5),(3,1,5),(3,1,5),(3,1,5),(4,0,0),(3,0,0),(4,0,0),(3,0,0),(4,0,0),(4,0,0),
   (4,2,5),(4,2,5),(4,2,5),(4,2,5),(4,0,0),(4,3,0),(4,3,0),(4,3,0),(4,3,0),(4,3,0)]
def nextF (s e : Nat) : Nat × Nat × Nat := nextL.getD (s * 10 + e - 1) (0, 0, 0)
abbrev rowsB : ByteArray := ⟨#[49, 51, 112, 112, 112, 49, 50, 45, 45, 45, 49, 51, 49, 51, 52, 49, 50, 49, 50, 52, 50, 52, 50, 52, 52, 45, 45, 45, 45, 52, 99, 99, 99, 99, 52, 51, 52, 51, 52, 52, 100, 100, 100, 100, 52, 45, 45, 45, 45, 45]⟩
theorem next_case (s e k c : Nat) (w : World) (hs : s ≤ 4) (he : 1 ≤ e ∧ e ≤ 10) (hk : s * 10 + e - 1 = k) (hc : nextF s e = if c = 112 then (s, 2, 1) else if c = 99 then (s, 1, 5) else if c = 100 then (s, 2, 5) else if c = 45 then (s, 3, 0) else (c - 48, 0, 0))
    (hr : k < 50 ∧ (rowsB[k]?.getD 0).toNat = c ∧ (c = 112 ∨ c = 99 ∨ c = 100 ∨ c = 45 ∨ (48 ≤ c ∧ c ≤ 52))) :
    Calls Tryz.prog 54 #[.int .i64 s, .int .i64 e] w (PostV w (.tuple #[.int .i64 (nextF s e).1, .int .i64 (nextF s e).2.1, .int .u32 (nextF s e).2.2])) := by
  obtain ⟨h50, hb, hcs⟩ := hr
  have a1 : decide ((s : Int) < 0) = false := by simp
  have a2 : decide ((4 : Int) < s) = false := by simp; omega
  have a3 : decide ((e : Int) < 1) = false := by simp; omega
  have a4 : decide ((10 : Int) < e) = false := by simp; omega
  have hbk : ∀ h : k < rowsB.size, (rowsB[k]'h).toNat = c := fun h => by
    have : rowsB[k]? = some (rowsB[k]'h) := by simp [h]
    rw [this] at hb; exact hb
  clear hb
  have hcs2 : c = 112 ∨ c = 99 ∨ c = 100 ∨ c = 45 ∨ c = 48 ∨ c = 49 ∨ c = 50 ∨ c = 51 ∨ c = 52 := by omega
  clear hcs
  rcases hcs2 with rfl | rfl | rfl | rfl | rfl | rfl | rfl | rfl | rfl
  all_goals
    have HC := Lib.hid hc
    clear hc
    go_enter Tryz.func54, Tryz.ntmps54
    go_wp2
    rw [HC.out]
    refine bodyPost_ret ?_ rfl ⟨rfl, rfl⟩
    simp [results, Tryz.results54, go_sem, hbk]
theorem next_spec (s e : Nat) (w : World) (hs : s ≤ 4) (h1 : 1 ≤ e) (h2 : e ≤ 10) :
    Calls Tryz.prog 54 #[.int .i64 s, .int .i64 e] w (PostV w (.tuple #[.int .i64 (nextF s e).1, .int .i64 (nextF s e).2.1, .int .u32 (nextF s e).2.2])) := by
  rcases (show s = 0 ∨ s = 1 ∨ s = 2 ∨ s = 3 ∨ s = 4 by omega) with rfl | rfl | rfl | rfl | rfl
  · rcases (show e = 1 ∨ e = 2 ∨ e = 3 ∨ e = 4 ∨ e = 5 ∨ e = 6 ∨ e = 7 ∨ e = 8 ∨ e = 9 ∨ e = 10 by omega) with rfl | rfl | rfl | rfl | rfl | rfl | rfl | rfl | rfl | rfl
    · exact next_case 0 1 0 49 w (by decide) (by decide) rfl rfl (by decide)
    · exact next_case 0 2 1 51 w (by decide) (by decide) rfl rfl (by decide)
    · exact next_case 0 3 2 112 w (by decide) (by decide) rfl rfl (by decide)
    · exact next_case 0 4 3 112 w (by decide) (by decide) rfl rfl (by decide)
    · exact next_case 0 5 4 112 w (by decide) (by decide) rfl rfl (by decide)
    · exact next_case 0 6 5 49 w (by decide) (by decide) rfl rfl (by decide)
    · exact next_case 0 7 6 50 w (by decide) (by decide) rfl rfl (by decide)
    · exact next_case 0 8 7 45 w (by decide) (by decide) rfl rfl (by decide)
    · exact next_case 0 9 8 45 w (by decide) (by decide) rfl rfl (by decide)
    · exact next_case 0 10 9 45 w (by decide) (by decide) rfl rfl (by decide)
  · rcases (show e = 1 ∨ e = 2 ∨ e = 3 ∨ e = 4 ∨ e = 5 ∨ e = 6 ∨ e = 7 ∨ e = 8 ∨ e = 9 ∨ e = 10 by omega) with rfl | rfl | rfl | rfl | rfl | rfl | rfl | rfl | rfl | rfl
    · exact next_case 1 1 10 49 w (by decide) (by decide) rfl rfl (by decide)
    · exact next_case 1 2 11 51 w (by decide) (by decide) rfl rfl (by decide)
    · exact next_case 1 3 12 49 w (by decide) (by decide) rfl rfl (by decide)
    · exact next_case 1 4 13 51 w (by decide) (by decide) rfl rfl (by decide)
    · exact next_case 1 5 14 52 w (by decide) (by decide) rfl rfl (by decide)
    · exact next_case 1 6 15 49 w (by decide) (by decide) rfl rfl (by decide)
    · exact next_case 1 7 16 50 w (by decide) (by decide) rfl rfl (by decide)
    · exact next_case 1 8 17 49 w (by decide) (by decide) rfl rfl (by decide)
    · exact next_case 1 9 18 50 w (by decide) (by decide) rfl rfl (by decide)
    · exact next_case 1 10 19 52 w (by decide) (by decide) rfl rfl (by decide)
  · rcases (show e = 1 ∨ e = 2 ∨ e = 3 ∨ e = 4 ∨ e = 5 ∨ e = 6 ∨ e = 7 ∨ e = 8 ∨ e = 9 ∨ e = 10 by omega) with rfl | rfl | rfl | rfl | rfl | rfl | rfl | rfl | rfl | rfl
    · exact next_case 2 1 20 50 w (by decide) (by decide) rfl rfl (by decide)
    · exact next_case 2 2 21 52 w (by decide) (by decide) rfl rfl (by decide)
    · exact next_case 2 3 22 50 w (by decide) (by decide) rfl rfl (by decide)
    · exact next_case 2 4 23 52 w (by decide) (by decide) rfl rfl (by decide)
    · exact next_case 2 5 24 52 w (by decide) (by decide) rfl rfl (by decide)
    · exact next_case 2 6 25 45 w (by decide) (by decide) rfl rfl (by decide)
    · exact next_case 2 7 26 45 w (by decide) (by decide) rfl rfl (by decide)
    · exact next_case 2 8 27 45 w (by decide) (by decide) rfl rfl (by decide)
    · exact next_case 2 9 28 45 w (by decide) (by decide) rfl rfl (by decide)
    · exact next_case 2 10 29 52 w (by decide) (by decide) rfl rfl (by decide)
  · rcases (show e = 1 ∨ e = 2 ∨ e = 3 ∨ e = 4 ∨ e = 5 ∨ e = 6 ∨ e = 7 ∨ e = 8 ∨ e = 9 ∨ e = 10 by omega) with rfl | rfl | rfl | rfl | rfl | rfl | rfl | rfl | rfl | rfl
    · exact next_case 3 1 30 99 w (by decide) (by decide) rfl rfl (by decide)
    · exact next_case 3 2 31 99 w (by decide) (by decide) rfl rfl (by decide)
    · exact next_case 3 3 32 99 w (by decide) (by decide) rfl rfl (by decide)
    · exact next_case 3 4 33 99 w (by decide) (by decide) rfl rfl (by decide)
    · exact next_case 3 5 34 52 w (by decide) (by decide) rfl rfl (by decide)
    · exact next_case 3 6 35 51 w (by decide) (by decide) rfl rfl (by decide)
    · exact next_case 3 7 36 52 w (by decide) (by decide) rfl rfl (by decide)
    · exact next_case 3 8 37 51 w (by decide) (by decide) rfl rfl (by decide)
    · exact next_case 3 9 38 52 w (by decide) (by decide) rfl rfl (by decide)
    · exact next_case 3 10 39 52 w (by decide) (by decide) rfl rfl (by decide)
  · rcases (show e = 1 ∨ e = 2 ∨ e = 3 ∨ e = 4 ∨ e = 5 ∨ e = 6 ∨ e = 7 ∨ e = 8 ∨ e = 9 ∨ e = 10 by omega) with rfl | rfl | rfl | rfl | rfl | rfl | rfl | rfl | rfl | rfl
    · exact next_case 4 1 40 100 w (by decide) (by decide) rfl rfl (by decide)
    · exact next_case 4 2 41 100 w (by decide) (by decide) rfl rfl (by decide)
    · exact next_case 4 3 42 100 w (by decide) (by decide) rfl rfl (by decide)
    · exact next_case 4 4 43 100 w (by decide) (by decide) rfl rfl (by decide)
    · exact next_case 4 5 44 52 w (by decide) (by decide) rfl rfl (by decide)
    · exact next_case 4 6 45 45 w (by decide) (by decide) rfl rfl (by decide)
    · exact next_case 4 7 46 45 w (by decide) (by decide) rfl rfl (by decide)
    · exact next_case 4 8 47 45 w (by decide) (by decide) rfl rfl (by decide)
    · exact next_case 4 9 48 45 w (by decide) (by decide) rfl rfl (by decide)
    · exact next_case 4 10 49 45 w (by decide) (by decide) rfl rfl (by decide)
end Go.Proofs.YtlbaiighiaanoaaGreatDoor

/- The keys of a map with uint32 keys, in whatever order: maps.Keys and its iterator. -/
namespace Go.Proofs.YtlbaiighiaanoaaGreatDoor
open Go Go.Proofs Go.RowKit Go.Maps Go.Sort Go.Shelf Go.WideElems
set_option maxRecDepth 100000
set_option linter.unusedVariables false
set_option linter.unusedSimpArgs false
/-- A value that nobody looks at. -/
def R1 : Value → Option (DataW Unit × List MemPlace) := fun _ => some (.lit (.bool true), [])
abbrev encU (x : Int) : Value := .int .u32 x
theorem encU_inj {x y : Int} (h : encU x = encU y) : x = y := by simpa [encU] using h
theorem keyOf_u32 {P : Program} {k : TypeId} (hk : P.underlying k = some (.int .u32)) {v : Value} {l : Lit} (h : keyOf P k v = some l) : ∃ x, v = encU x ∧ l = .int .u32 x := by
  unfold keyOf at h
  simp only [hk] at h
  cases v <;> simp [mapKey, hk] at h
  obtain ⟨⟨rfl, _⟩, rfl⟩ := h
  exact ⟨_, rfl, rfl⟩
theorem Mp.owns {w : World} {lab : Nat → Nat} {b m : Nat} {l : List (Int × Value)} (h : Mp w.heap lab b m l) (hk : ∀ p ∈ l, 0 ≤ p.1 ∧ p.1 < 4294967296) (hlen : l.length ≤ maxLen) :
    ∃ D : DataW Unit, w.ownsMap Tryz.prog 30 R1 b l.length D ∧ Maps.size D = l.length ∧ ∀ x, Maps.has D (.int .u32 x) = true ↔ x ∈ l.map (·.1) := by
  obtain ⟨_, es, clock, hb, h1, h2, h3, h4⟩ := h
  have hsz : es.size = l.length := by have := congrArg List.length h1; simpa using this
  have hkeys : es.toList.map (·.key) = l.map fun p => encU p.1 := by
    have := congrArg (List.map (·.1)) h1
    rw [List.map_map, List.map_map] at this
    exact this
  have hrd : ∀ x ∈ es.toList, ∃ k, x.key = encU k ∧ k ∈ l.map (·.1) ∧ rd Tryz.prog 30 R1 x = some (.int .u32 k, .lit (.bool true)) := by
    intro x hx
    have : x.key ∈ l.map fun p => encU p.1 := by rw [← hkeys]; exact List.mem_map_of_mem hx
    obtain ⟨p, hp, hpk⟩ := List.mem_map.1 this
    refine ⟨p.1, hpk.symm, List.mem_map_of_mem hp, ?_⟩
    have hw : (Lit.int .u32 p.1).wf = true := by
      obtain ⟨a, c⟩ := hk p hp
      exact WalkArith.wf_u32 (by omega)
    unfold rd
    rw [← hpk]
    simp [encU, keyOf_int_mk Tryz.underlying30 hw, R1]
  refine ⟨.map ((es.toList.map (rg Tryz.prog 30 R1)).foldr DataW.insert []), ⟨es, clock, hb, ⟨by omega, ⟨h3, h4, ?_⟩, fun x hx => ?_⟩, by omega, rfl⟩, ?_, fun x => ?_⟩
  · rw [hkeys, show (l.map fun p => encU p.1) = (l.map (·.1)).map encU by rw [List.map_map]; rfl]
    exact List.Pairwise.map _ (fun a c hne e => hne (encU_inj e)) h2
  · obtain ⟨k, _, _, h⟩ := hrd x hx
    exact ⟨_, h⟩
  · show (List.foldr DataW.insert [] _).length = _
    rw [length_sorted]; simp [hsz]
  · rw [has_eq, List.any_eq_true]
    constructor
    · rintro ⟨p, hp, hs⟩
      rw [mem_sorted] at hp
      obtain ⟨e, he, rfl⟩ := List.mem_map.1 hp
      obtain ⟨k, _, hk2, hr⟩ := hrd e he
      unfold rg at hs
      rw [hr] at hs
      simp [Lit.sameKey] at hs
      subst hs; exact hk2
    · intro hx
      have : encU x ∈ es.toList.map (·.key) := by
        rw [hkeys]
        obtain ⟨p, hp, rfl⟩ := List.mem_map.1 hx
        exact List.mem_map.2 ⟨p, hp, rfl⟩
      obtain ⟨e, he, hek⟩ := List.mem_map.1 this
      obtain ⟨k, hk1, _, hr⟩ := hrd e he
      obtain rfl : k = x := encU_inj (hk1.symm.trans hek)
      refine ⟨rg Tryz.prog 30 R1 e, mem_sorted.2 (List.mem_map_of_mem he), ?_⟩
      unfold rg
      rw [hr]
      simp [Lit.sameKey]
/-- What has come of a map's keys, where 'left' tells what is left. -/
def CollectedU (D0 : DataW Unit) (left : Lit → Bool) (ss : List Int) : Prop := ss.Nodup ∧ ∀ x, x ∈ ss ↔ (has D0 (.int .u32 x) = true ∧ left (.int .u32 x) = false)
theorem CollectedU.start (D0 : DataW Unit) : CollectedU D0 (has D0) [] := ⟨List.nodup_nil, fun x => by cases has D0 (.int .u32 x) <;> simp⟩
theorem CollectedU.step {D0 : DataW Unit} {left : Lit → Bool} {ss : List Int} (h : CollectedU D0 left ss) {x : Int} {y : DataW Unit} (hlk : left (.int .u32 x) = true) (hat : ∀ zd, D0.atKey (.int .u32 x) zd = y) :
    CollectedU D0 (fun z => left z && !z.sameKey (.int .u32 x)) (ss ++ [x]) := by
  have hhas : has D0 (.int .u32 x) = true := has_true_of_atKey hat
  refine ⟨List.nodup_append.2 ⟨h.1, by simp, fun a ha b hb e => ?_⟩, fun y => ?_⟩
  · simp only [List.mem_singleton] at hb
    subst hb; subst e
    have := ((h.2 a).1 ha).2
    rw [hlk] at this; cases this
  · rw [List.mem_append, List.mem_singleton, h.2 y]
    by_cases hy : y = x
    · subst hy; simp [hhas, Lit.sameKey]
    · simp [hy, Lit.sameKey]
/-- maps.Keys(m): the map is boxed; the function value captures the box. -/
theorem keys_in (mb : Option Nat) (w : World) (n : Nat) :
    CallsIn Fence.wide n Tryz.prog 84 #[.map mb] w fun e w' => e = .returned (.func (.func 115) #[] #[.pointer (some ⟨w.heap.size, 0, none⟩)]) ∧ w' = w.alloc (.cells #[.map mb] 95) := by
  refine callsIn_wide.2 ?_
  go_enter Tryz.func84, Tryz.ntmps84
  go_wp2
  go_ret
  exact ⟨rfl, rfl⟩
end Go.Proofs.YtlbaiighiaanoaaGreatDoor

/- The iterator of maps.Keys at uint32 keys. -/
namespace Go.Proofs.YtlbaiighiaanoaaGreatDoor
open Go Go.Proofs Go.RowKit Go.Maps Go.Sort Go.Shelf Go.WideElems
set_option maxRecDepth 100000
set_option linter.unusedVariables false
set_option linter.unusedSimpArgs false
set_option maxHeartbeats 1000000 in
theorem keys1_in (n : Nat) (hn : 1 ≤ n) (l Bm b nn : Nat) (D0 : DataW Unit) (J Jx : List Int → World → Prop)
    (hY : ∀ pre x W, J pre W → pre.length < Maps.size D0 → YieldAt Fence.wide (n - 1) Tryz.prog l #[encU x] W fun e W' => (e = .returned (.bool true) ∧ J (pre ++ [x]) W' ∧ KeepsWalks W W') ∨ (e = .returned (.bool false) ∧ Jx (pre ++ [x]) W'))
    (W : World) (hJ : AbidesFrom W.heap.size J) (hm : W.cell? ⟨Bm, 0, none⟩ = some (.map (some b))) (hown : W.ownsMap Tryz.prog 30 R1 b nn D0) (h0 : J [] W) :
    CallsIn Fence.wide n Tryz.prog 115 #[.func (.yield l) #[] #[], .pointer (some ⟨Bm, 0, none⟩)] W fun e W' => (∃ v, e = .returned v) ∧
      ((∃ ss : List Int, (ss.Nodup ∧ ∀ x, x ∈ ss ↔ has D0 (.int .u32 x) = true) ∧ J ss W') ∨ (∃ pre : List Int, True ∧ Jx pre W')) := by
  refine callsIn_of_wp Tryz.func115 rfl trivial ?_ rfl
  simp only [Tryz.ntmps115, List.size_toArray, List.length_cons, List.length_nil, Nat.reduceAdd, Nat.reduceSub, Array.replicate_succ, Array.replicate_zero, List.push_toArray, List.append_toArray, List.nil_append, List.cons_append]
  gi_wp2_with (first
    | (gi_at_range; refine wpListIn_range_own _ rfl _ 95 rfl 30 115 (int_keyed Tryz.underlying30) Tryz.underlying95 _ b nn _ rfl hown ?_; intro w0 hrg0 hg0 hs0)
    | gi_in)
  go_frame
  gi_loopw [3] (fun _ wr => ∃ (left : Lit → Bool) (cnt : Nat) (ss : List Int), wr.ranges Tryz.prog 30 R1 b W.heap.size nn D0 left cnt ∧ ss.length + cnt ≤ Maps.size D0 ∧ CollectedU D0 left ss ∧ J ss wr)
    (fun _ wr => wr.rangeLeft b W.heap.size)
  case atStart =>
    exact ⟨_, _, [], hrg0, by simp, CollectedU.start D0, hJ [] W w0 none h0 hg0 (fun r e => by cases e)⟩
  case round =>
    obtain ⟨left, cnt, ss, hrg, hcs, hC, hJs⟩ := hrel
    gi_wp2_with (first
      | (gi_at_next; refine wpListIn_next_ranges _ rfl _ rfl 30 (int_keyed Tryz.underlying30) R1 encU id (fun key kl hk => by obtain ⟨x, hx, _⟩ := keyOf_u32 Tryz.underlying30 hk; exact ⟨x, hx⟩) (fun v _ _ => ⟨v, rfl⟩) b W.heap.size nn _ _ _ rfl hrg ?_ ?_)
      | gi_in)
    · intro hc0 hl0
      gi_wp2
      go_end0
      exact ⟨⟨_, rfl⟩, .inl ⟨ss, ⟨hC.1, fun x => by rw [hC.2 x, hl0]; simp⟩, hJs⟩⟩
    · intro x c kl yd yp w2 cnt2 hkey hlk hv hat hrg2 hlt hg2 hs2 hen
      obtain ⟨x', ex, rfl⟩ := keyOf_u32 Tryz.underlying30 hkey
      obtain rfl : x = x' := encU_inj ex
      have hJ2 : J ss w2 := hJ ss wr w2 (some W.heap.size) hJs hg2 (fun r e => by cases e; exact ⟨Nat.le_refl _, hrg.iter_walk⟩)
      obtain ⟨fn, tmps, assign, body, hy, hR⟩ := hY ss x w2 hJ2 (by omega)
      clear hs2
      gi_wp2
      refine hR.mono ?_
      rintro e W3 (⟨rfl, hJ3, hk3⟩ | ⟨rfl, hJx3⟩)
      · gi_wp2
        have hrg3 := hrg2.of_walks hk3
        go_roundw
        case rel => exact ⟨_, cnt2, ss ++ [x], hrg3, by simp; omega, hC.step hlk hat, hJ3⟩
        case measure => rw [hrg3.left_eq, hrg.left_eq]; exact hlt
      · gi_wp2
        refine bodyPost_ret (results_none rfl _ _ _) rfl ?_
        exact ⟨⟨_, rfl⟩, .inr ⟨ss ++ [x], trivial, hJx3⟩⟩
theorem keys_stops (n : Nat) (hn : 1 ≤ n) (Bm b nn : Nat) (D0 : DataW Unit) (w : World) (hBm : Bm < w.heap.size) (hm : w.cell? ⟨Bm, 0, none⟩ = some (.map (some b))) (hown : w.ownsMap Tryz.prog 30 R1 b nn D0) :
    SeqStopsK Fence.wide n Tryz.prog 115 #[.pointer (some ⟨Bm, 0, none⟩)] (fun x : Int => #[encU x]) KeepsWalks (fun ss => ss.Nodup ∧ ∀ x, x ∈ ss ↔ has D0 (.int .u32 x) = true) (fun _ => True) (Maps.size D0) w := fun l J Jx W hW hJ _ hY h0 => by
  have hown' : W.ownsMap Tryz.prog 30 R1 b nn D0 := by
    have hbl := hown.lt
    obtain ⟨es, clock, hb, Ft, hs, hD⟩ := hown
    exact ⟨es, clock, (hW.block b hbl).trans hb, Ft, hs, hD⟩
  exact keys1_in n hn l Bm b nn D0 J Jx hY W hJ ((hW.cell (p := ⟨Bm, 0, none⟩) hBm).trans hm) hown' h0
end Go.Proofs.YtlbaiighiaanoaaGreatDoor

/- slices.AppendSeq and Collect at uint32, against an iterator's contract. -/
namespace Go.Proofs.YtlbaiighiaanoaaGreatDoor
open Go Go.Proofs Go.RowKit Go.Maps Go.Sort Go.Shelf
set_option maxRecDepth 100000
set_option linter.unusedVariables false
set_option linter.unusedSimpArgs false
attribute [local go_sem] Oper.semAt_some
theorem infoU : (Tryz.prog.info? 30).map (fun i => (i.zero, i.size, i.bytes)) = some (some (.int .u32 0), 1, 4) := by kernel_rfl
def PostSeq (w : World) (S : List Int → Prop) (e : Ending) (w' : World) : Prop :=
  ∃ v ss, e = .returned v ∧ S ss ∧ w'.ownsRow w.heap.size 30 1 v ss.length (ss.map (Value.int .u32)) ∧ Below w.heap.size w w'
set_option maxHeartbeats 2000000 in
theorem appendSeq_in (n : Nat) (hn : 3 ≤ n) (gf : Nat) (lb : Array Value) (eg : ∀ args w, (callFunc gf args).run Tryz.prog w = .ok (.enter gf args) w) (S : List Int → Prop) (N : Nat) (hN : N ≤ maxLen) (hNb : N * 4 ≤ 140737488355328) (w : World)
    (hseq : SeqStopsK Fence.wide (n - 1) Tryz.prog gf lb (fun x : Int => #[(Value.int .u32 x)]) KeepsWalks S (fun _ => True) N w) :
    CallsIn Fence.wide n Tryz.prog 142 #[.slice none 0 0, .func (.func gf) #[] lb] w (PostSeq w S) := by
  have h1 : 1 ≤ n := by omega
  obtain ⟨i0, hi, hz0, hz1, hz2⟩ := info_parts infoU
  refine callsIn_of_wp_marks Tryz.func142 rfl trivial ?_ rfl
  simp only [Tryz.ntmps142, List.size_toArray, List.length_cons, List.length_nil, Nat.reduceAdd, Nat.reduceSub, Array.replicate_succ, Array.replicate_zero, List.push_toArray, List.append_toArray, List.nil_append, List.cons_append]
  gi_wp2
  have bO := Boxed.new w 50 (.slice none 0 0)
  have hB0 : Below w.heap.size w (w.alloc (.cells #[.slice none 0 0] 50)) := (Below.refl _ w).alloc (Nat.le_refl _) _
  refine wpIn_rangeFunc_ownG rfl h1 (gf := gf) (lb := lb) rfl trivial eg hseq walksK_t walksK_b hB0 (fun _ => rfl)
    (fun pre W => (∃ v, Boxed W w.heap.size 50 v ∧ W.ownsRow w.heap.size 30 1 v pre.length (pre.map (Value.int .u32)) ∧ True) ∧ Below w.heap.size w W)
    (fun _ _ _ => False)
    (OwnFrom.and (Own.from (holdsRow_own w.heap.size w.heap.size 50 30 1 (fun pre : List Int => pre.length) (fun pre => pre.map (Value.int .u32)) (fun pre v => True)) _) (ownFrom_below (Nat.le_refl _) (by simp)))
    (fun _ _ _ _ _ hs _ _ => hs)
    ⟨⟨_, bO, World.ownsRow_nil _ _ _ _, trivial⟩, hB0⟩
    (fun x => { tmps := #[.slice none 0 0, .func (.func gf) #[] lb, .pointer (some ⟨w.heap.size, 0, none⟩), undef, .slice none 0 0, (Value.int .u32 x), .func (.func gf) #[] lb, (Value.int .u32 x), undef, undef, undef, undef, undef], defers := [] }) ?assign ?body ?done ?stop
  case assign =>
    intro l x W K hK
    gi_wp2
    exact hK
  case body =>
    rintro l pre x W ⟨⟨v, hv, hrow, -⟩, hB⟩ hlt
    have hc := hv.cell
    gi_wp2_with (gi_at_builtin; refine wpListIn_append_own _ rfl _ _ 50 rfl w.heap.size 30 i0 (.int .u32 0) 1 4 Tryz.underlying50 hi hz0 hz1 hz2 rfl (by decide) _ _ _ rfl (hrow.alloc _) ⟨W.heap.size, 0, none⟩ 1 1 [(Value.int .u32 x)] rfl rfl (cell_one_new _ _ _) (by simp [Value.oneCell']) (by omega) (by omega) (by have := hB.size; simp; omega) ?_; intro v' w1 hown' hgrow _; obtain ⟨g', cap', rfl⟩ := ownsRow_succ hown'; obtain ⟨hv1, hv2, hr2, hk2, hb2⟩ := hv.appended (by decide) hrow hB.size (Nat.le_refl _) hown' hgrow; have hc1 := hv1.cell; have hf1 := hv1.frozen)
    exact ⟨hk2.from _, hk2.walks, ⟨_, hv2, by simpa using hr2, trivial⟩, hB.trans hb2⟩
  case done =>
    rintro D ys W hD hS ⟨⟨v, hv, hrow, -⟩, hB⟩ hK
    have hc := hv.cell
    gi_wp2
    refine ⟨by simp, .inl ⟨_, _, rfl, run_takeDeferred hK, ?_⟩⟩
    exact ⟨_, results_tmp rfl _ _ _, v, ys, rfl, hS, ownsRow_putObj hrow _ hK rfl, hB.trans (belowK_b (w := w) (Nat.le_refl _) W D _ _ (by simp at hD; omega) hK rfl rfl)⟩
  case stop =>
    rintro D c pre W _ _ h _
    exact h.elim
theorem collect_in (n : Nat) (hn : 4 ≤ n) (gf : Nat) (lb : Array Value) (eg : ∀ args w, (callFunc gf args).run Tryz.prog w = .ok (.enter gf args) w) (S : List Int → Prop) (N : Nat) (hN : N ≤ maxLen) (hNb : N * 4 ≤ 140737488355328) (w : World)
    (hseq : SeqStopsK Fence.wide (n - 1 - 1) Tryz.prog gf lb (fun x : Int => #[Value.int .u32 x]) KeepsWalks S (fun _ => True) N w) :
    CallsIn Fence.wide n Tryz.prog 113 #[.func (.func gf) #[] lb] w (PostSeq w S) := by
  have c := callsIn_wide.1 (appendSeq_in (n - 1) (by omega) gf lb eg S N hN hNb w hseq)
  refine callsIn_wide.2 ?_
  go_enter Tryz.func113, Tryz.ntmps113
  go_wp2_with fail
  refine c.mono ?_
  rintro e w' ⟨v, ss, rfl, hS, hr, hb⟩
  go_wp2
  go_ret
  exact ⟨v, ss, rfl, hS, hr, hb⟩
end Go.Proofs.YtlbaiighiaanoaaGreatDoor

/- slices.Sort at one element or none; slices.Sorted; Conn.ids while at most one stream is open. -/
namespace Go.Proofs.YtlbaiighiaanoaaGreatDoor
open Go Go.Proofs Go.RowKit Go.Maps Go.Sort Go.Shelf
set_option maxRecDepth 100000
set_option linter.unusedVariables false
set_option linter.unusedSimpArgs false
theorem insertion_one (v : Value) (n : Nat) (hn : n ≤ 1) (w : World) :
    Calls Tryz.prog 160 #[v, .int .i64 0, .int .i64 n] w (PostV w (.tuple #[])) := by
  have g : decide ((1 : Int) < n) = false := by simp; omega
  go_enter Tryz.func160, Tryz.ntmps160
  go_wp2
  go_loop [6] (fun i => i = .int .i64 1) (fun _ => 0)
  case atStart => rfl
  case round =>
    obtain rfl := hrel
    go_wp2
    go_end0
    exact ⟨rfl, rfl⟩
theorem pdq_one (v : Value) (n : Nat) (hn : n ≤ 1) (k : Int) (w : World) :
    Calls Tryz.prog 143 #[v, .int .i64 0, .int .i64 n, .int .i64 k] w (PostV w (.tuple #[])) := by
  have g : decide ((n : Int) ≤ 12) = true := by simp; omega
  go_enter Tryz.func143, Tryz.ntmps143
  go_wp2
  go_loopw [1, 2] (fun a b wr => a = .int .i64 0 ∧ b = .int .i64 n ∧ wr = w) (fun _ _ _ => 0)
  case atStart => exact ⟨rfl, rfl, rfl⟩
  case round =>
    obtain ⟨rfl, rfl, rfl⟩ := hrel
    go_wp2_with fail
    refine (insertion_one v n hn wr).mono ?_
    rintro e w1 ⟨rfl, rfl⟩
    go_wp2
    go_end0
    exact ⟨rfl, rfl⟩
theorem sort_one (A : Option Addr) (n c : Nat) (hn : n ≤ 1) (w : World) :
    Calls Tryz.prog 114 #[.slice A n c] w (PostV w (.tuple #[])) := by
  have hw : IntKind.u64.wrap (n : Int) = n := wraps_u64 _ (by omega) (by omega)
  go_enter Tryz.func114, Tryz.ntmps114
  go_wp2_with fail
  refine (Tryz.bits_Len n w (by omega) (by omega)).mono ?_
  rintro e w1 ⟨rfl, rfl⟩
  go_wp2_with fail
  refine (pdq_one _ n hn _ w1).mono ?_
  rintro e w2 ⟨rfl, rfl⟩
  go_wp2
  go_end0
  exact ⟨rfl, rfl⟩
/-- The keys of a map with one stream at most. -/
def idsF (l : List (Int × Side)) : List Int := l.map (·.1)
def PostIds (w : World) (lab : Nat → Nat) (l : List Int) (e : Ending) (w' : World) : Prop :=
  ∃ A cap, e = .returned (.slice A l.length cap) ∧ Owns w'.heap w.heap.size 30 1 (.slice A l.length cap) l.length (l.map u32V) ∧ Stp 0 0 w lab w' lab
theorem StpH.of_below {w w' : World} {lab : Nat → Nat} (hf : Fr w.heap lab) (h : RowKit.Below w.heap.size w w') : Stp 0 0 w lab w' lab :=
  ⟨by simp only [wrest, h.os, h.tape, h.output], h.size, fun _ _ => rfl, fun k hk _ => h.block k hk, fun k hk => hf k (Nat.le_trans h.size hk)⟩
theorem sorted_one (n : Nat) (hn : 5 ≤ n) (gf : Nat) (lb : Array Value) (eg : ∀ args w, (callFunc gf args).run Tryz.prog w = .ok (.enter gf args) w) (S : List Int → Prop) (N : Nat) (hN : N ≤ maxLen) (hNb : N * 4 ≤ 140737488355328) (w : World)
    (hseq : SeqStopsK Fence.wide (n - 1 - 1 - 1) Tryz.prog gf lb (fun x : Int => #[Value.int .u32 x]) KeepsWalks S (fun _ => True) N w) (hS1 : ∀ ss, S ss → ss.length ≤ 1) :
    Calls Tryz.prog 83 #[.func (.func gf) #[] lb] w (PostSeq w S) := by
  have c := callsIn_wide.1 (collect_in (n - 1) (by omega) gf lb eg S N hN hNb w hseq)
  go_enter Tryz.func83, Tryz.ntmps83
  go_wp2_with fail
  refine c.mono ?_
  rintro e w1 ⟨v, ss, rfl, hS, hr, hb⟩
  obtain ⟨A, cap, rfl⟩ := Owns.shape (Owns.of hr)
  have hl := hS1 ss hS
  go_wp2_with fail
  refine (sort_one A ss.length cap hl w1).mono ?_
  rintro e w2 ⟨rfl, rfl⟩
  go_wp2
  go_ret
  exact ⟨_, ss, rfl, hS, hr, hb⟩
theorem eq_of_same {l ss : List Int} (hl : l.length ≤ 1) (hn : ss.Nodup) (h : ∀ x, x ∈ ss ↔ x ∈ l) : ss = l := by
  rcases l with _ | ⟨a, _ | ⟨b, l⟩⟩
  · exact List.eq_nil_iff_forall_not_mem.2 fun x hx => by simpa using (h x).1 hx
  · rcases ss with _ | ⟨c, ss⟩
    · have := (h a).2 (by simp); simp at this
    · obtain rfl : c = a := by simpa using (h c).1 (by simp)
      rcases ss with _ | ⟨d, ss⟩
      · rfl
      · have hd : d = c := by simpa using (h d).1 (by simp)
        subst hd
        simp at hn
  · simp at hl
theorem ids_one (w : World) (lab : Nat → Nat) (hf : Fr w.heap lab) (B p : Nat) (g : CG) (s : CS) (h : ConnAt fixedT w.heap lab B p g s) (h1 : s.opens.length ≤ 1) (hk : ∀ x ∈ s.opens, 0 ≤ x.1 ∧ x.1 < 4294967296) :
    Calls Tryz.prog 53 #[ptr p] w (PostIds w lab (idsF s.opens)) := by
  have c11 := h.blk.cell 11 (v := .map (some g.om)) rfl
  have hmp := h.parts.opens
  have hk2 : ∀ q ∈ (s.opens.map fun p => (p.1, sideV p.2)), 0 ≤ q.1 ∧ q.1 < 4294967296 := by
    intro q hq
    obtain ⟨y, hy, rfl⟩ := List.mem_map.1 hq
    exact hk y hy
  obtain ⟨D, hown, hsz, hhas⟩ := (hmp.alloc (.cells #[.map (some g.om)] 95)).owns hk2 (by simp; unfold maxLen; omega)
  have hkeys : (s.opens.map fun p => (p.1, sideV p.2)).map (·.1) = idsF s.opens := by rw [List.map_map]; rfl
  rw [hkeys] at hhas
  have hlen1 : (idsF s.opens).length ≤ 1 := by simpa [idsF] using h1
  have hst0 := (Stp.refl 0 0 hf).alloc (.cells #[.map (some g.om)] 95)
  have hseq := keys_stops 2 (by omega) w.heap.size g.om _ D _ (by simp) (by simp) hown
  have hmx : Maps.size D ≤ maxLen := by rw [hsz]; simp; unfold maxLen; omega
  have hmb : Maps.size D * 4 ≤ 140737488355328 := by rw [hsz]; simp; omega
  have c := sorted_one 5 (by omega) _ _ (enters_of Tryz.func115 (by kernel_rfl) rfl) _ _ hmx hmb _ hseq (fun ss hS => by
    have := eq_of_same hlen1 hS.1 (fun x => (hS.2 x).trans (hhas x)); rw [this]; exact hlen1)
  have hK := callsIn_wide.1 (keys_in (some g.om) w 5)
  have HC := Lib.hid c
  have HK := Lib.hid hK
  have HH := Lib.hid hhas
  clear c hK hseq hown hhas hkeys hk hk2
  go_enter Tryz.func53, Tryz.ntmps53
  go_wp2_with fail
  refine HK.out.mono ?_
  rintro e w1 ⟨rfl, rfl⟩
  go_wp2_with fail
  refine HC.out.mono ?_
  rintro e w2 ⟨v, ss, rfl, hS, hr, hb⟩
  obtain rfl := eq_of_same hlen1 hS.1 (fun x => (hS.2 x).trans (HH.out x))
  obtain ⟨A, cap, rfl⟩ := Owns.shape (Owns.of hr)
  go_wp2
  go_ret
  exact ⟨A, cap, rfl, Owns.down (Owns.of hr) (by simp), hst0.trans (StpH.of_below hst0.fresh hb)⟩
end Go.Proofs.YtlbaiighiaanoaaGreatDoor

/- Contracts of window.Book: Take, Grow. -/
namespace Go.Proofs.YtlbaiighiaanoaaGreatDoor
open Go Go.Proofs Go.RowKit
set_option maxRecDepth 100000
set_option linter.unusedVariables false
set_option linter.unusedSimpArgs false
/-- How many bytes a stream may send. -/
def takeN (s : Book) (id want : Int) : Int := match s.of.lookup id with | none => 0 | some x => max 0 (min (min want x) s.conn)
def takeF (s : Book) (id want : Int) : Book := match s.of.lookup id with | none => s | some x => if (max 0 (min (min want x) s.conn) == 0) = true then s else { s with conn := s.conn - max 0 (min (min want x) s.conn), of := put id (x - max 0 (min (min want x) s.conn)) s.of }
theorem take_spec (w : World) (lab : Nat → Nat) (m p : Nat) (hm : 0 < m) (s : Book) (id want : Int) (h : BookAt w.heap lab m p s) (hf : Fr w.heap lab) (hc : s.conn ≤ 2147483647) (ho : ∀ x, s.of.lookup id = some x → x ≤ 2147483647) (hw : want ≤ 2147483647) :
    Calls Tryz.prog 119 #[ptr p, .int .u32 id, .int .i64 want] w (PostBook w lab m p (takeF s id want) (.int .i64 (takeN s id want))) := by
  obtain ⟨mb, h1, h2⟩ := h
  have c0 := h1.cell 0 (v := .int .i64 s.conn) (by rfl)
  have c2 := h1.cell 2 (v := .map (some mb)) (by rfl)
  have hlk : (s.of.map fun p => (p.1, Value.int .i64 p.2)).lookup id = (s.of.lookup id).map fun x => Value.int .i64 x := lookup_map (fun x : Int => Value.int .i64 x) id s.of
  cases hl : s.of.lookup id with
  | none =>
    have hn : takeN s id want = 0 := by unfold takeN; rw [hl]
    have hb : takeF s id want = s := by unfold takeF; rw [hl]
    rw [hn, hb]
    rw [hl] at hlk
    have hr : (if true = true then Value.tuple #[((s.of.map fun p => (p.1, Value.int .i64 p.2)).lookup id).getD (.int .i64 0), .bool ((s.of.map fun p => (p.1, Value.int .i64 p.2)).lookup id).isSome] else ((s.of.map fun p => (p.1, Value.int .i64 p.2)).lookup id).getD (.int .i64 0)) = .tuple #[.int .i64 0, .bool false] := by rw [hlk]; rfl
    have HR := Lib.hid hr
    clear hlk hr hl ho
    rcases (show (want ≤ 0 ∧ want ≤ s.conn) ∨ (0 < want ∧ 0 ≤ s.conn) ∨ (s.conn < want ∧ s.conn < 0) by omega) with ⟨q1, q2⟩ | ⟨q1, q2⟩ | ⟨q1, q2⟩
    · have e3 : max 0 want = 0 := by omega
      go_enter Tryz.func119, Tryz.ntmps119
      go_wp2_with (at_lookup; refine wp_look rfl _ _ _ true rfl Tryz.underlying147 Tryz.underlying30 rfl h2 rfl zv_int HR.out ?_)
      go_ret
      exact ⟨rfl, ⟨mb, h1, h2⟩, Stp.refl _ _ hf⟩
    · go_enter Tryz.func119, Tryz.ntmps119
      go_wp2_with (at_lookup; refine wp_look rfl _ _ _ true rfl Tryz.underlying147 Tryz.underlying30 rfl h2 rfl zv_int HR.out ?_)
      go_ret
      exact ⟨rfl, ⟨mb, h1, h2⟩, Stp.refl _ _ hf⟩
    · have e3 : max 0 s.conn = 0 := by omega
      go_enter Tryz.func119, Tryz.ntmps119
      go_wp2_with (at_lookup; refine wp_look rfl _ _ _ true rfl Tryz.underlying147 Tryz.underlying30 rfl h2 rfl zv_int HR.out ?_)
      go_ret
      exact ⟨rfl, ⟨mb, h1, h2⟩, Stp.refl _ _ hf⟩
  | some x =>
    have hx := ho x hl
    obtain ⟨n, hn⟩ : ∃ n, max 0 (min (min want x) s.conn) = n := ⟨_, rfl⟩
    have hN : takeN s id want = n := by unfold takeN; rw [hl]; exact hn
    have hb : takeF s id want = if (n == 0) = true then s else { s with conn := s.conn - n, of := put id (x - n) s.of } := by unfold takeF; rw [hl]; simp only [hn]
    rw [hN]
    rw [hl] at hlk
    have hr : (if true = true then Value.tuple #[((s.of.map fun p => (p.1, Value.int .i64 p.2)).lookup id).getD (.int .i64 0), .bool ((s.of.map fun p => (p.1, Value.int .i64 p.2)).lookup id).isSome] else ((s.of.map fun p => (p.1, Value.int .i64 p.2)).lookup id).getD (.int .i64 0)) = .tuple #[.int .i64 x, .bool true] := by rw [hlk]; rfl
    have HR := Lib.hid hr
    clear hlk hr hl ho
    have hb' := hb
    have n0 : 0 ≤ n := by omega
    have n1 : n ≤ 2147483647 := by omega
    obtain ⟨K, e3, hcase⟩ : ∃ K, max 0 K = n ∧ ((K = want ∧ want ≤ x ∧ want ≤ s.conn) ∨ (K = x ∧ x < want ∧ x ≤ s.conn) ∨ (K = s.conn ∧ s.conn < want ∧ s.conn < x)) := ⟨min (min want x) s.conn, hn, by omega⟩
    have HN := Lib.hid hn
    clear hn hN hw
    cases gn : (n == 0)
    · rw [gn, if_neg (by decide)] at hb
      rw [hb]
      clear hb hb'
      have hcb : 1 ≤ s.conn ∧ 1 ≤ x := by
        have : n ≠ 0 := by simpa using gn
        omega
      have w1 : IntKind.i64.wrap (x - n) = x - n := wrap_i64 _ (by omega) (by omega)
      have w2 : IntKind.i64.wrap (s.conn - n) = s.conn - n := wrap_i64 _ (by omega) (by omega)
      clear n0 hcb
      rcases hcase with ⟨rfl, q1, q2⟩ | ⟨rfl, q1, q2⟩ | ⟨rfl, q1, q2⟩
      all_goals
        go_enter Tryz.func119, Tryz.ntmps119
        go_wp2_with (first | (at_lookup; refine wp_look rfl _ _ _ true rfl Tryz.underlying147 Tryz.underlying30 rfl h2 rfl zv_int HR.out ?_) | (at_mapUpdate; refine wp_mput rfl _ _ _ _ rfl Tryz.underlying147 Tryz.underlying30 rfl h2 hf rfl rfl ?_; intro w3 h3 st3; have h13 := h1.kept st3 (.inl (Nat.lt_succ_self _)); have c03 := h13.cell 0 rfl; have f03 := h13.free 0))
        go_ret
        have h4 : Mp w3.heap lab mb (m + 1) (mput id (.int .i64 (_ - n)) (s.of.map fun p => (p.1, Value.int .i64 p.2))) := h3
        rw [mput_map (fun x : Int => Value.int .i64 x)] at h4
        exact ⟨rfl, ⟨mb, h13.store 0 (.int .i64 (s.conn - n)), h4.otherBlk h13 (by omega) _ _⟩, (st3.mono (by omega) (by omega)).trans ((h13.storeStp st3.fresh 0 _).mono (by omega) (by omega))⟩
    · rw [gn, if_pos rfl] at hb
      rw [hb]
      clear hb hb'
      obtain rfl : n = 0 := by simpa using gn
      clear n0 n1 gn
      rcases hcase with ⟨rfl, q1, q2⟩ | ⟨rfl, q1, q2⟩ | ⟨rfl, q1, q2⟩
      all_goals
        go_enter Tryz.func119, Tryz.ntmps119
        go_wp2_with (at_lookup; refine wp_look rfl _ _ _ true rfl Tryz.underlying147 Tryz.underlying30 rfl h2 rfl zv_int HR.out ?_)
        go_ret
        exact ⟨rfl, ⟨mb, h1, h2⟩, Stp.refl _ _ hf⟩
end Go.Proofs.YtlbaiighiaanoaaGreatDoor
