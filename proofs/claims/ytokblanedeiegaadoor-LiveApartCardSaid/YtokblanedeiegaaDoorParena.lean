/- Package arena (Class, Run, Place), what the document says of it, and live's things. -/
import Derived.Test.YtokblanedeiegaaDoorPmay
namespace Go.Proofs.YtokblanedeiegaaDoor.E
open Go
set_option maxRecDepth 100000

/-- A size has a class, this one. -/
structure ClsY (l : List Int) (n : Int) (i : Nat) : Prop where
  n1 : 1 ≤ n
  lt : i < l.length
  le : n ≤ l.getD i 0
  less : ∀ j, j < i → l.getD j 0 < n
/-- A size has none. -/
def ClsN (l : List Int) (n : Int) : Prop := n < 1 ∨ ∀ j, j < l.length → l.getD j 0 < n
theorem cls_from (l : List Int) (n : Int) (h1 : 1 ≤ n) : ∀ (j k : Nat), k + j = l.length → (∀ i, i < k → l.getD i 0 < n) → (∃ i, ClsY l n i) ∨ ClsN l n
  | 0, k, h, hk => .inr (.inr fun j hj => hk j (by omega))
  | j + 1, k, h, hk => by
    by_cases c : n ≤ l.getD k 0
    · exact .inl ⟨k, h1, by omega, c, hk⟩
    · exact cls_from l n h1 j (k + 1) (by omega) fun i hi => by
        by_cases e : i = k
        · subst e; omega
        · exact hk i (by omega)
theorem cls_cases (l : List Int) (n : Int) : (∃ i, ClsY l n i) ∨ ClsN l n := by
  by_cases h1 : 1 ≤ n
  · exact cls_from l n h1 l.length 0 (by omega) (fun i hi => absurd hi (Nat.not_lt_zero _))
  · exact .inr (.inl (by omega))
end Go.Proofs.YtokblanedeiegaaDoor.E
