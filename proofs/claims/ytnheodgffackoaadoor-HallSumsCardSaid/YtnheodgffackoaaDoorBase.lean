/- Shared plain lemmas on worlds: what a piece of a run keeps, and how blocks of cells are read and written. -/
import Derived.Test.YtnheodgffackoaaDoorProg
import Derived.WalkKit
import Derived.WalkSpells
import Derived.WalkLawsBesides
import Derived.Lib.Hide
import Derived.Deep.DeepCutAuto
import Derived.Deep.CutBlock
import Derived.Deep.RegionHeld3
import Derived.Deep.QuietTactic
import Derived.BigQuiet
namespace Go.Proofs.YtnheodgffackoaaDoor
open Go.RowKit

/-- All blocks of w but those of S are in w' as they were; nothing else has turned. -/
structure Stp (S : List Nat) (w w' : World) : Prop where
  os : w'.os = w.os
  tape : w'.tape = w.tape
  output : w'.output = w.output
  size : w.heap.size ≤ w'.heap.size
  block : ∀ k, k < w.heap.size → k ∉ S → w'.heap[k]? = w.heap[k]?

section
variable {S S' : List Nat} {w w1 w2 : World}
theorem Stp.refl (S : List Nat) (w : World) : Stp S w w := ⟨rfl, rfl, rfl, Nat.le_refl _, fun _ _ _ => rfl⟩
theorem Stp.trans' (h : Stp S w w1) (k : Stp S' w1 w2) (hs : ∀ i, i ∈ S' → i ∈ S ∨ w.heap.size ≤ i) : Stp S w w2 :=
  ⟨k.os.trans h.os, k.tape.trans h.tape, k.output.trans h.output, Nat.le_trans h.size k.size, fun i hi hn =>
    (k.block i (Nat.lt_of_lt_of_le hi h.size) (fun h2 => (hs i h2).elim hn (fun h3 => by omega))).trans (h.block i hi hn)⟩
theorem Stp.trans (h : Stp S w w1) (k : Stp S w1 w2) : Stp S w w2 := h.trans' k (fun _ h => .inl h)
theorem Stp.mono (h : Stp S w w1) (hs : ∀ i, i ∈ S → i ∈ S' ∨ w.heap.size ≤ i) : Stp S' w w1 := (Stp.refl S' w).trans' h hs
theorem Stp.alloc (h : Stp S w w1) (o : Obj) : Stp S w (w1.alloc o) :=
  h.trans ⟨rfl, rfl, rfl, by simp, fun k hk _ => Below.heap_alloc _ _ _ hk⟩
theorem Stp.setCell (h : Stp S w w1) (p : Addr) (u : Value) (hp : p.block ∈ S ∨ w.heap.size ≤ p.block) : Stp S w (w1.setCell p u) :=
  h.trans' (S' := [p.block]) ⟨rfl, rfl, rfl, by simp, fun k _ hn => Below.heap_setCell _ _ _ _ (by simpa using hn)⟩
    (fun i hi => by rw [List.mem_singleton.1 hi]; exact hp)
theorem Stp.drew (h : Stp S w w1) : Stp S w w1.drew := ⟨h.os, h.tape, h.output, h.size, h.block⟩
theorem Stp.drewN (h : Stp S w w1) (n : Nat) : Stp S w (w1.drewN n) := ⟨h.os, h.tape, h.output, h.size, h.block⟩
theorem Stp.grown (h : Stp S w w1) {row : Option Nat} (hg : w1.grownBy w2 row) (hr : ∀ k, row = some k → k ∈ S ∨ w.heap.size ≤ k) : Stp S w w2 :=
  h.trans' (S' := row.toList) ⟨hg.os, hg.tape, hg.output, hg.size, fun i hi hn => hg.block i hi (fun he => hn (by simp [← he]))⟩
    (fun i hi => hr i (by simpa using hi))
theorem Stp.below (h : Stp S w w1) {B : Nat} (hB : B ≤ w.heap.size) (hs : ∀ i, i ∈ S → B ≤ i) : Below B w w1 :=
  ⟨h.os, h.tape, h.output, h.size, fun k hk => h.block k (by omega) (fun hm => by have := hs k hm; omega)⟩
theorem Stp.below0 (h : Stp [] w w1) : Below w.heap.size w w1 := h.below (Nat.le_refl _) (fun _ h => by cases h)
theorem Stp.of_below (h : Below w.heap.size w w1) (S : List Nat) : Stp S w w1 := ⟨h.os, h.tape, h.output, h.size, fun k hk _ => h.block k hk⟩
theorem Stp.cell (h : Stp S w w1) {a : Addr} {v : Value} (hc : w.cell? a = some v) (hn : a.block ∉ S) : w1.cell? a = some v :=
  (World.cell?_of_block (h.block a.block (World.block_lt_of_cell? w a hc) hn)).trans hc
theorem Stp.cells (h : Stp [] w w1) : ∀ b o, b < w.heap.size → w1.cell? ⟨b, o, none⟩ = w.cell? ⟨b, o, none⟩ := fun b _ hb => World.cell?_of_block (h.block b hb (by simp))
theorem Stp.frozens (h : Stp [] w w1) : ∀ b o, b < w.heap.size → w1.frozen? ⟨b, o, none⟩ = w.frozen? ⟨b, o, none⟩ := fun b _ hb => World.frozen?_of_block (h.block b hb (by simp))
theorem blk_lt {g : Nat} {o : Obj} (h : w.heap[g]? = some o) : g < w.heap.size := (Array.getElem?_eq_some_iff.1 h).1
theorem Stp.blk (h : Stp S w w1) {g : Nat} {o : Obj} (hb : w.heap[g]? = some o) (hn : g ∉ S) : w1.heap[g]? = some o := (h.block g (blk_lt hb) hn).trans hb
theorem blk_cell {g : Nat} {t : TypeId} {cs : Array Value} {fr : Nat × Nat} (h : w.heap[g]? = some (.cells cs t fr)) (i : Nat) : w.cell? ⟨g, i, none⟩ = cs[i]? := by simp [World.cell?, h]
theorem blk_frozen {g : Nat} {t : TypeId} {cs : Array Value} (h : w.heap[g]? = some (.cells cs t (0, 0))) (i : Nat) : w.frozen? ⟨g, i, none⟩ = false := by simp [World.frozen?, h]
theorem blk_set {g : Nat} {t : TypeId} {cs : Array Value} {fr : Nat × Nat} (h : w.heap[g]? = some (.cells cs t fr)) (i : Nat) (u : Value) : (w.setCell ⟨g, i, none⟩ u).heap[g]? = some (.cells (cs.setIfInBounds i u) t fr) := by
  simp [World.setCell, Array.getElem?_modify, h]
theorem blk_far {g : Nat} {o : Obj} (h : w.heap[g]? = some o) {p : Addr} (hp : g ≠ p.block) (u : Value) : (w.setCell p u).heap[g]? = some o := (Below.heap_setCell w p u g hp).trans h
theorem blk_alloc {g : Nat} {o : Obj} (h : w.heap[g]? = some o) (o' : Obj) : (w.alloc o').heap[g]? = some o := (Below.heap_alloc w o' g (blk_lt h)).trans h
theorem blk_new (w : World) (o : Obj) : (w.alloc o).heap[w.heap.size]? = some o := by
  show (w.heap.push o)[w.heap.size]? = _
  simp
theorem blk_new' {w : World} {n : Nat} (o : Obj) (h : w.heap.size = n) : (w.alloc o).heap[n]? = some o := by rw [← h]; exact blk_new w o
theorem blk_ne {g g' : Nat} {t t' : TypeId} {cs cs' : Array Value} {fr fr' : Nat × Nat} (h : w.heap[g]? = some (.cells cs t fr)) (h' : w.heap[g']? = some (.cells cs' t' fr')) (hne : t ≠ t') : g ≠ g' := by
  rintro rfl
  rw [h] at h'
  injection h' with h'
  injection h' with _ ht _
  exact hne ht
end
section
variable {w w1 : World} {base n cap size d i : Nat} {e : TypeId} {v u : Value} {xs : List Value} {S : List Nat}
theorem own_length (h : w.ownsRow base e size v n xs) : xs.length = n * size := h.1
theorem own_form (h : w.ownsRow base e size v n xs) (hn : 0 < n) : ∃ d cap, v = .slice (some ⟨d, 0, none⟩) n cap ∧ base ≤ d ∧ d < w.heap.size ∧ n ≤ cap ∧ cap ≤ maxLen := by
  rcases h.2 with ⟨_, h0⟩ | ⟨g, cap, cur, hv, hb, hh, h1, h2, _, _⟩
  · omega
  · exact ⟨g, cap, hv, hb, blk_lt hh, h1, h2⟩
theorem own_slice (h : w.ownsRow base e size v n xs) : ∃ a cap, v = .slice a n cap ∧ n ≤ cap ∧ cap ≤ maxLen ∧ (0 < n → ∃ d, a = some ⟨d, 0, none⟩ ∧ base ≤ d ∧ d < w.heap.size) := by
  rcases h.2 with ⟨hv, h0⟩ | ⟨g, cap, cur, hv, hb, hh, h1, h2, _, _⟩
  · exact ⟨none, 0, by rw [hv, h0], by omega, by unfold maxLen; omega, fun hn => by omega⟩
  · exact ⟨some ⟨g, 0, none⟩, cap, hv, h1, h2, fun _ => ⟨g, rfl, hb, blk_lt hh⟩⟩
theorem own_parts (h : w.ownsRow base e size (.slice (some ⟨d, 0, none⟩) n cap) n xs) : ∃ cur, base ≤ d ∧ w.heap[d]? = some (.cells cur e (0, 0)) ∧ n ≤ cap ∧ cap ≤ maxLen ∧ cur.size = cap * size ∧ cur.toList.take (n * size) = xs := by
  rcases h.2 with ⟨hv, _⟩ | ⟨g, cap', cur, hv, hb, hh, h1, h2, h3, h4⟩
  · cases hv
  · simp only [Value.slice.injEq, Option.some.injEq, Addr.mk.injEq, and_true, true_and] at hv
    obtain ⟨rfl, rfl⟩ := hv
    exact ⟨cur, hb, hh, h1, h2, h3, h4⟩
theorem own_cell (h : w.ownsRow base e size (.slice (some ⟨d, 0, none⟩) n cap) n xs) (hi : i < n * size) : w.cell? ⟨d, i, none⟩ = xs[i]? := by
  obtain ⟨cur, _, hh, h1, _, h3, rfl⟩ := own_parts h
  rw [blk_cell hh, List.getElem?_take_of_lt hi]
  simp
theorem own_frozen (h : w.ownsRow base e size (.slice (some ⟨d, 0, none⟩) n cap) n xs) (i : Nat) : w.frozen? ⟨d, i, none⟩ = false := by
  obtain ⟨cur, _, hh, _⟩ := own_parts h
  exact blk_frozen hh i
theorem own_set (h : w.ownsRow base e size (.slice (some ⟨d, 0, none⟩) n cap) n xs) (i : Nat) (u : Value) : (w.setCell ⟨d, i, none⟩ u).ownsRow base e size (.slice (some ⟨d, 0, none⟩) n cap) n (xs.set i u) := by
  obtain ⟨cur, hb, hh, h1, h2, h3, h4⟩ := own_parts h
  refine ⟨by rw [List.length_set]; exact h.1, .inr ⟨d, cap, cur.setIfInBounds i u, rfl, hb, blk_set hh i u, h1, h2, by simpa using h3, ?_⟩⟩
  rw [Array.toList_setIfInBounds, ← h4, List.take_set]
theorem own_kept (h : w.ownsRow base e size v n xs) (hk : Stp S w w1) (hn : ∀ d, v.ownBlock = some d → d ∉ S) : w1.ownsRow base e size v n xs := by
  obtain ⟨h1, h2⟩ := h
  refine ⟨h1, ?_⟩
  rcases h2 with h2 | ⟨g, cap, cur, hv, hb, hh, r⟩
  · exact .inl h2
  · exact .inr ⟨g, cap, cur, hv, hb, hk.blk hh (hn g (by rw [hv]; rfl)), r⟩
theorem own_base (h : w.ownsRow base e size v n xs) {b' : Nat} (hb : b' ≤ base) : w.ownsRow b' e size v n xs := by
  obtain ⟨h1, h2⟩ := h
  refine ⟨h1, ?_⟩
  rcases h2 with h2 | ⟨g, cap, cur, hv, hb', r⟩
  · exact .inl h2
  · exact .inr ⟨g, cap, cur, hv, Nat.le_trans hb hb', r⟩
end
end Go.Proofs.YtnheodgffackoaaDoor
