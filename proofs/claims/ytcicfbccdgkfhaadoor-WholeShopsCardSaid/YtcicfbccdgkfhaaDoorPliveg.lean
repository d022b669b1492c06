/- Package live: all that is live, and the keys of a map. -/
import Derived.Test.YtcicfbccdgkfhaaDoorPlivev
import Derived.Test.YtcicfbccdgkfhaaDoorPmap
namespace Go.Proofs.YtcicfbccdgkfhaaDoor.E
set_option linter.unusedSimpArgs false
set_option linter.unusedVariables false
open Go
set_option maxRecDepth 100000

def keyN (g : Nat) : Int := 65536 + 16 * (g : Int)
theorem keyN_inj {a b : Nat} (h : keyN a = keyN b) : a = b := by unfold keyN at h; omega
def updF (f : Nat → Nat) (g x i : Nat) : Nat := if i = g then x else f i
def F64 (f : Nat → Nat) : Prop := ∀ i, f i < 18446744073709551616
theorem F64.upd {f : Nat → Nat} (h : F64 f) {g x : Nat} (hx : x < 18446744073709551616) : F64 (updF f g x) := fun i => by
  unfold updF; split
  · exact hx
  · exact h i
theorem len_of_sub : ∀ {l m : List Int}, l.Nodup → (∀ x ∈ l, x ∈ m) → l.length ≤ m.length
  | [], _, _, _ => Nat.zero_le _
  | a :: l, m, hn, h => by
    obtain ⟨h1, h2⟩ := List.nodup_cons.1 hn
    have ha : a ∈ m := h a (by simp)
    have := len_of_sub (l := l) (m := m.erase a) h2 fun x hx => by
      have hne : x ≠ a := by rintro rfl; exact h1 hx
      exact (List.mem_erase_of_ne hne).2 (h x (by simp [hx]))
    rw [List.length_erase_of_mem ha] at this
    have := List.length_pos_of_mem ha
    simp only [List.length_cons]; omega
theorem allL_mem (c : Cnf) (f : Nat → Nat) {p : Int × Int} : ∀ k, p ∈ allL c f k ↔ ∃ g, g < k ∧ thIs (f g) = true ∧ p = (keyN g, sizeN c (thOf (f g)))
  | 0 => by simp [allL]
  | k + 1 => by
    simp only [allL, List.mem_append, allL_mem c f k]
    constructor
    · rintro (⟨g, h1, h2⟩ | h)
      · exact ⟨g, by omega, h2⟩
      · split at h
        · rename_i e
          simp only [List.mem_singleton] at h
          exact ⟨k, by omega, e, h⟩
        · simp at h
    · rintro ⟨g, h1, h2, h3⟩
      by_cases e : g = k
      · subst e; rw [if_pos h2]; exact .inr (by simp [h3, keyN])
      · exact .inl ⟨g, by omega, h2, h3⟩
theorem allL_rise (c : Cnf) (f : Nat → Nat) : ∀ k, (allL c f k).Pairwise fun p q => p.1 < q.1
  | 0 => by simp [allL]
  | k + 1 => by
    simp only [allL]
    refine List.pairwise_append.2 ⟨allL_rise c f k, by split <;> simp, fun p hp q hq => ?_⟩
    obtain ⟨g, h1, _, rfl⟩ := (allL_mem c f k).1 hp
    split at hq
    · simp only [List.mem_singleton] at hq
      subst hq
      simp only [keyN]; omega
    · simp at hq
theorem allL_keys (c : Cnf) (f : Nat → Nat) (k : Nat) : ((allL c f k).map (·.1)).Nodup := by
  refine List.pairwise_map.2 ((allL_rise c f k).imp fun {a b} h => ?_)
  omega
end Go.Proofs.YtcicfbccdgkfhaaDoor.E
