/- Shared plain lemmas on worlds: what a piece of a run keeps, and how blocks of cells are read and written. -/
import Derived.Test.YtlmoifbklpflaaaProg
import Derived.WalkKit
import Derived.WalkSpells
import Derived.WalkLawsBesides
import Derived.Lib.Hide
namespace Go.Proofs.Ytlmoifbklpflaaa
open Go.RowKit

/-- All blocks of w but those of S are in w' as they were; nothing else has turned. -/
structure Stp (S : List Nat) (w w' : World) : Prop where
  os : w'.os = w.os
  tape : w'.tape = w.tape
  output : w'.output = w.output
  size : w.heap.size ≤ w'.heap.size
  block : ∀ k, k < w.heap.size → k ∉ S → w'.heap[k]? = w.heap[k]?

section
variable {S S' : List Nat} {w w1 w2 : World}
theorem Stp.refl (S : List Nat) (w : World) : Stp S w w := ⟨rfl, rfl, rfl, Nat.le_refl _, fun _ _ _ => rfl⟩
theorem Stp.trans' (h : Stp S w w1) (k : Stp S' w1 w2) (hs : ∀ i, i ∈ S' → i ∈ S ∨ w.heap.size ≤ i) : Stp S w w2 :=
  ⟨k.os.trans h.os, k.tape.trans h.tape, k.output.trans h.output, Nat.le_trans h.size k.size, fun i hi hn =>
    (k.block i (Nat.lt_of_lt_of_le hi h.size) (fun h2 => (hs i h2).elim hn (fun h3 => by omega))).trans (h.block i hi hn)⟩
theorem Stp.trans (h : Stp S w w1) (k : Stp S w1 w2) : Stp S w w2 := h.trans' k (fun _ h => .inl h)
theorem Stp.mono (h : Stp S w w1) (hs : ∀ i, i ∈ S → i ∈ S' ∨ w.heap.size ≤ i) : Stp S' w w1 := (Stp.refl S' w).trans' h hs
theorem Stp.alloc (h : Stp S w w1) (o : Obj) : Stp S w (w1.alloc o) :=
  h.trans ⟨rfl, rfl, rfl, by simp, fun k hk _ => Below.heap_alloc _ _ _ hk⟩
theorem Stp.setCell (h : Stp S w w1) (p : Addr) (u : Value) (hp : p.block ∈ S ∨ w.heap.size ≤ p.block) : Stp S w (w1.setCell p u) :=
  h.trans' (S' := [p.block]) ⟨rfl, rfl, rfl, by simp, fun k _ hn => Below.heap_setCell _ _ _ _ (by simpa using hn)⟩
    (fun i hi => by rw [List.mem_singleton.1 hi]; exact hp)
theorem Stp.drew (h : Stp S w w1) : Stp S w w1.drew := ⟨h.os, h.tape, h.output, h.size, h.block⟩
theorem Stp.drewN (h : Stp S w w1) (n : Nat) : Stp S w (w1.drewN n) := ⟨h.os, h.tape, h.output, h.size, h.block⟩
theorem Stp.grown (h : Stp S w w1) {row : Option Nat} (hg : w1.grownBy w2 row) (hr : ∀ k, row = some k → k ∈ S ∨ w.heap.size ≤ k) : Stp S w w2 :=
  h.trans' (S' := row.toList) ⟨hg.os, hg.tape, hg.output, hg.size, fun i hi hn => hg.block i hi (fun he => hn (by simp [← he]))⟩
    (fun i hi => hr i (by simpa using hi))
theorem Stp.below (h : Stp S w w1) {B : Nat} (hB : B ≤ w.heap.size) (hs : ∀ i, i ∈ S → B ≤ i) : Below B w w1 :=
  ⟨h.os, h.tape, h.output, h.size, fun k hk => h.block k (by omega) (fun hm => by have := hs k hm; omega)⟩
theorem Stp.below0 (h : Stp [] w w1) : Below w.heap.size w w1 := h.below (Nat.le_refl _) (fun _ h => by cases h)
theorem Stp.of_below (h : Below w.heap.size w w1) (S : List Nat) : Stp S w w1 := ⟨h.os, h.tape, h.output, h.size, fun k hk _ => h.block k hk⟩
theorem Stp.cell (h : Stp S w w1) {a : Addr} {v : Value} (hc : w.cell? a = some v) (hn : a.block ∉ S) : w1.cell? a = some v :=
  (World.cell?_of_block (h.block a.block (World.block_lt_of_cell? w a hc) hn)).trans hc
theorem blk_lt {g : Nat} {o : Obj} (h : w.heap[g]? = some o) : g < w.heap.size := (Array.getElem?_eq_some_iff.1 h).1
theorem Stp.blk (h : Stp S w w1) {g : Nat} {o : Obj} (hb : w.heap[g]? = some o) (hn : g ∉ S) : w1.heap[g]? = some o := (h.block g (blk_lt hb) hn).trans hb
theorem blk_cell {g : Nat} {t : TypeId} {cs : Array Value} {fr : Nat × Nat} (h : w.heap[g]? = some (.cells cs t fr)) (i : Nat) : w.cell? ⟨g, i, none⟩ = cs[i]? := by simp [World.cell?, h]
theorem blk_frozen {g : Nat} {t : TypeId} {cs : Array Value} (h : w.heap[g]? = some (.cells cs t (0, 0))) (i : Nat) : w.frozen? ⟨g, i, none⟩ = false := by simp [World.frozen?, h]
theorem blk_set {g : Nat} {t : TypeId} {cs : Array Value} {fr : Nat × Nat} (h : w.heap[g]? = some (.cells cs t fr)) (i : Nat) (u : Value) : (w.setCell ⟨g, i, none⟩ u).heap[g]? = some (.cells (cs.setIfInBounds i u) t fr) := by
  simp [World.setCell, Array.getElem?_modify, h]
theorem blk_far {g : Nat} {o : Obj} (h : w.heap[g]? = some o) {p : Addr} (hp : g ≠ p.block) (u : Value) : (w.setCell p u).heap[g]? = some o := (Below.heap_setCell w p u g hp).trans h
theorem blk_alloc {g : Nat} {o : Obj} (h : w.heap[g]? = some o) (o' : Obj) : (w.alloc o').heap[g]? = some o := (Below.heap_alloc w o' g (blk_lt h)).trans h
theorem blk_new (w : World) (o : Obj) : (w.alloc o).heap[w.heap.size]? = some o := by
  show (w.heap.push o)[w.heap.size]? = _
  simp
theorem blk_new' {w : World} {n : Nat} (o : Obj) (h : w.heap.size = n) : (w.alloc o).heap[n]? = some o := by rw [← h]; exact blk_new w o
theorem blk_ne {g g' : Nat} {t t' : TypeId} {cs cs' : Array Value} {fr fr' : Nat × Nat} (h : w.heap[g]? = some (.cells cs t fr)) (h' : w.heap[g']? = some (.cells cs' t' fr')) (hne : t ≠ t') : g ≠ g' := by
  rintro rfl
  rw [h] at h'
  injection h' with h'
  injection h' with _ ht _
  exact hne ht
end
end Go.Proofs.Ytlmoifbklpflaaa
