/- HeartRuns: runs that lie one behind the other. -/
import Derived.Test.YtdnhnglhdabkgaaDoorL11e
namespace Go.Proofs.YtdnhnglhdabkgaaDoor.E
set_option linter.unusedSimpArgs false
set_option linter.unusedVariables false
open Go
set_option maxRecDepth 100000

/-- Runs of these lengths, from b on. Where they begin. -/
def cov : Nat → List Nat → SupF
  | _, [], _ => (0, 0, 0)
  | b, a :: l, j => if j = b then (2, a, 0) else if b < j ∧ j < b + a then (3, 0, 0) else cov (b + a) l j
def starts : Nat → List Nat → List Int
  | _, [] => []
  | b, a :: l => (b : Int) :: starts (b + a) l
theorem cov_out : ∀ (l : List Nat) (b j : Nat), (∀ a ∈ l, 1 ≤ a) → j < b ∨ b + l.sum ≤ j → cov b l j = (0, 0, 0)
  | [], b, j, _, _ => rfl
  | a :: l, b, j, h, hj => by
    have h1 := h a (by simp)
    simp only [List.sum_cons] at hj
    simp only [cov]
    rw [if_neg (by omega), if_neg (by omega)]
    exact cov_out l (b + a) j (fun x hx => h x (by simp [hx])) (by omega)
theorem cov_in : ∀ (l : List Nat) (b j : Nat), (∀ a ∈ l, 1 ≤ a) → b ≤ j → j < b + l.sum → (cov b l j).1 ≠ 0
  | [], b, j, _, h1, h2 => by simp at h2; omega
  | a :: l, b, j, h, h1, h2 => by
    have h0 := h a (by simp)
    simp only [List.sum_cons] at h2
    simp only [cov]
    by_cases e : j = b
    · rw [if_pos e]; simp
    · rw [if_neg e]
      by_cases e2 : b < j ∧ j < b + a
      · rw [if_pos e2]; simp
      · rw [if_neg e2]
        exact cov_in l (b + a) j (fun x hx => h x (by simp [hx])) (by omega) (by omega)
theorem cov_snoc (q : Nat) (hq : 1 ≤ q) : ∀ (l : List Nat) (b : Nat), (∀ a ∈ l, 1 ≤ a) → cov b (l ++ [q]) = runF (cov b l) (b + l.sum) q q
  | [], b, _ => by
    funext j
    simp only [cov, runF, List.nil_append, List.sum_nil, Nat.add_zero]
    rfl
  | a :: l, b, h => by
    have h0 := h a (by simp)
    have ih := cov_snoc q hq l (b + a) (fun x hx => h x (by simp [hx]))
    funext j
    simp only [List.cons_append, cov, List.sum_cons]
    rw [ih]
    unfold runF
    simp only [cov]
    by_cases e : j = b
    · rw [if_pos e, if_neg (by omega), if_neg (by omega), if_pos e]
    · rw [if_neg e]
      by_cases e2 : b < j ∧ j < b + a
      · rw [if_pos e2, if_neg (by omega), if_neg (by omega), if_neg e, if_pos e2]
      · rw [if_neg e2, if_neg e, if_neg e2, show b + a + l.sum = b + (a + l.sum) by omega]
theorem starts_snoc (q : Nat) : ∀ (l : List Nat) (b : Nat), starts b (l ++ [q]) = starts b l ++ [((b + l.sum : Nat) : Int)]
  | [], b => by simp [starts]
  | a :: l, b => by
    simp only [List.cons_append, starts, List.sum_cons]
    rw [starts_snoc q l (b + a), show b + a + l.sum = b + (a + l.sum) by omega]
@[simp] theorem starts_len : ∀ (l : List Nat) (b : Nat), (starts b l).length = l.length
  | [], _ => rfl
  | a :: l, b => by simp [starts, starts_len l]
theorem starts_at : ∀ (l : List Nat) (b k : Nat), k < l.length → (starts b l).getD k 0 = ((b + (l.take k).sum : Nat) : Int)
  | a :: l, b, 0, _ => by simp [starts]
  | a :: l, b, k + 1, h => by
    simp only [starts, List.take_succ_cons, List.sum_cons, List.getD_cons_succ]
    rw [starts_at l (b + a) k (by simpa using h), show b + a + (l.take k).sum = b + (a + (l.take k).sum) by omega]
theorem give_first (a : Nat) (ha : 1 ≤ a) (l : List Nat) (b : Nat) (h : ∀ x ∈ l, 1 ≤ x) : giveF (cov b (a :: l)) b a = cov (b + a) l := by
  funext j
  simp only [giveF, cov]
  by_cases e : b ≤ j ∧ j < b + a
  · rw [if_pos e, cov_out l (b + a) j h (by omega)]
  · rw [if_neg e]
    rw [if_neg (by omega), if_neg (by omega)]
theorem give_last (a : Nat) (ha : 1 ≤ a) (l : List Nat) (b : Nat) (h : ∀ x ∈ l, 1 ≤ x) : giveF (cov b (l ++ [a])) (b + l.sum) a = cov b l := by
  rw [cov_snoc a ha l b h]
  funext j
  simp only [giveF, runF]
  by_cases e : b + l.sum ≤ j ∧ j < b + l.sum + a
  · rw [if_pos e, cov_out l b j h (by omega)]
  · rw [if_neg e, if_neg (by omega), if_neg (by omega)]
theorem cov_head (a : Nat) (l : List Nat) (b : Nat) : cov b (a :: l) b = (2, a, 0) := by simp [cov]
theorem cov_last (a : Nat) (ha : 1 ≤ a) (l : List Nat) (b : Nat) (h : ∀ x ∈ l, 1 ≤ x) : cov b (l ++ [a]) (b + l.sum) = (2, a, 0) := by
  rw [cov_snoc a ha l b h, runF, if_pos rfl]
/-- There is room for one more, or none. -/
theorem cov_row {n q : Nat} (hq : 1 ≤ q) (l : List Nat) (h : ∀ x ∈ l, 1 ≤ x) : (l.sum + q ≤ n → rowP n (cov 0 l) q l.sum) ∧ (∀ j, j < l.sum → ¬ rowP n (cov 0 l) q j) ∧ (¬ l.sum + q ≤ n → ∀ j, ¬ rowP n (cov 0 l) q j) := by
  have no : ∀ j, j < l.sum → ¬ rowP n (cov 0 l) q j := fun j hj hr => by
    have := hr.2 0 hq
    exact cov_in l 0 j h (by omega) (by omega) this
  refine ⟨fun hle => ⟨hle, fun k hk => ?_⟩, no, fun hn j hr => ?_⟩
  · rw [cov_out l 0 _ h (by omega)]
  · by_cases hj : j < l.sum
    · exact no j hj hr
    · have := hr.1
      omega
end Go.Proofs.YtdnhnglhdabkgaaDoor.E
