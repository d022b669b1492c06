/- Piles: what a spill comes to. -/
import Derived.Test.YthlpfafmiakfdaaDoorPrst
namespace Go.Proofs.YthlpfafmiakfdaaDoor.E
set_option linter.unusedSimpArgs false
set_option linter.unusedVariables false
open Go
set_option maxRecDepth 100000
theorem withN_bit {m : Nat} {n : Int} {i : Nat} (hi : i < 64) : (withN m n).testBit i = (m.testBit i || decide (n = (i : Int))) := by
  unfold withN
  split
  · rename_i h
    rw [Nat.testBit_or, Nat.testBit_two_pow]
    congr 1
    rw [decide_eq_decide]
    omega
  · rename_i h
    have : ¬ n = (i : Int) := by omega
    simp [this]
theorem dl_bits (sup : Int) (es : TMap) : ∀ (l : List Blk) {i : Nat}, i < 64 → ((dlS sup ⟨0, es⟩ l).m.testBit i = true ↔ ∃ b ∈ l, b.1 = sup ∧ b.2 = (i : Int)) := by
  refine snocInd (fun {i} hi => ?_) fun l x ih => ?_
  · simp [dlS]
  · intro i hi
    rw [dlS_snoc]
    have := ih hi
    unfold delS
    by_cases hx : x.1 = sup
    · rw [if_pos hx]
      show (withN _ x.2).testBit i = true ↔ _
      rw [withN_bit hi, Bool.or_eq_true, this, decide_eq_true_iff]
      constructor
      · rintro (⟨b, h1, h2⟩ | h)
        · exact ⟨b, by simp [h1], h2⟩
        · exact ⟨x, by simp, hx, h⟩
      · rintro ⟨b, h1, h2, h3⟩
        rcases List.mem_append.1 h1 with h1 | h1
        · exact .inl ⟨b, h1, h2, h3⟩
        · simp at h1; subst h1; exact .inr h3
    · rw [if_neg hx, this]
      constructor
      · rintro ⟨b, h1, h2⟩; exact ⟨b, by simp [h1], h2⟩
      · rintro ⟨b, h1, h2, h3⟩
        rcases List.mem_append.1 h1 with h1 | h1
        · exact ⟨b, h1, h2, h3⟩
        · simp at h1; subst h1; exact absurd h2 hx
theorem dl_there (sup : Int) {es : TMap} {p : List Blk} (h : There es p) : ∀ l : List Blk, There (dlS sup ⟨0, es⟩ l).es (p.filter fun x => decide (¬ (x.1 = sup ∧ x ∈ l))) := by
  refine snocInd ?_ fun l x ih => ?_
  · exact h.same fun b => by simp
  · rw [dlS_snoc]
    unfold delS
    by_cases hx : x.1 = sup
    · rw [if_pos hx]
      refine (ih.filter x).same fun b => ?_
      simp only [List.mem_filter, decide_eq_true_eq, List.mem_append, List.mem_singleton]
      constructor
      · rintro ⟨⟨h1, h2⟩, h3⟩
        refine ⟨h1, ?_⟩
        rintro ⟨h4, h5 | h5⟩
        · exact h2 ⟨h4, h5⟩
        · exact h3 h5
      · rintro ⟨h1, h2⟩
        exact ⟨⟨h1, fun h3 => h2 ⟨h3.1, .inl h3.2⟩⟩, fun h3 => h2 ⟨by rw [h3, hx], .inr h3⟩⟩
    · rw [if_neg hx]
      refine ih.same fun b => ?_
      simp only [List.mem_filter, decide_eq_true_eq, List.mem_append, List.mem_singleton]
      constructor
      · rintro ⟨h1, h2⟩
        refine ⟨h1, ?_⟩
        rintro ⟨h4, h5 | h5⟩
        · exact h2 ⟨h4, h5⟩
        · exact hx (h5 ▸ h4)
      · rintro ⟨h1, h2⟩
        exact ⟨h1, fun h3 => h2 ⟨h3.1, .inl h3.2⟩⟩
theorem spill_pile (s : PS) (sup : Int) : (spillS s sup).pile = keepL sup s.pile := by
  unfold spillS PS.pile delZ
  simp only
  rw [List.append_assoc, List.take_left]
theorem spill_good {s : PS} (h : s.Good) (sup : Int) : (spillS s sup).Good := by
  refine ⟨?_, ?_⟩
  · unfold spillS delZ; simp
  · rw [spill_pile]
    have := dl_there sup h.there s.pile
    refine this.same fun b => ?_
    simp only [keepL, List.mem_filter, decide_eq_true_eq]
    constructor
    · rintro ⟨h1, h2⟩; exact ⟨h1, fun h3 => h2 ⟨h3, h1⟩⟩
    · rintro ⟨h1, h2⟩; exact ⟨h1, fun h3 => h2 h3.1⟩
theorem spillM_lt (s : PS) (sup : Int) : spillM s sup < 18446744073709551616 := dlS_lt (by show 0 < 18446744073709551616; omega)
theorem spillM_bit (s : PS) (sup : Int) {i : Nat} (hi : i < 64) : (spillM s sup).testBit i = true ↔ (sup, (i : Int)) ∈ s.pile := by
  unfold spillM
  rw [dl_bits sup s.es _ hi]
  constructor
  · rintro ⟨b, h1, h2, h3⟩; rw [← h2, ← h3]; exact h1
  · intro h; exact ⟨_, h, rfl, rfl⟩
theorem best_ex {l : List Blk} (h : l ≠ []) : ∃ x, isBest l x := by
  have key : ∀ ys : List Blk, ys ≠ [] → ∃ x ∈ ys, ∀ y ∈ ys, numB l y.1 < numB l x.1 ∨ (numB l y.1 = numB l x.1 ∧ x.1 ≤ y.1) := by
    intro ys
    induction ys with
    | nil => intro h; exact absurd rfl h
    | cons a ys ih =>
      intro _
      rcases List.eq_nil_or_concat ys with rfl | hne
      · exact ⟨a, by simp, fun y hy => by simp at hy; subst hy; exact .inr ⟨rfl, Int.le_refl _⟩⟩
      · have hn : ys ≠ [] := by obtain ⟨_, _, rfl⟩ := hne; simp
        obtain ⟨x, hx, hm⟩ := ih hn
        by_cases hc : numB l x.1 < numB l a.1 ∨ (numB l x.1 = numB l a.1 ∧ a.1 ≤ x.1)
        · refine ⟨a, by simp, fun y hy => ?_⟩
          rcases List.mem_cons.1 hy with rfl | hy
          · exact .inr ⟨rfl, Int.le_refl _⟩
          · have := hm y hy; omega
        · refine ⟨x, by simp [hx], fun y hy => ?_⟩
          rcases List.mem_cons.1 hy with rfl | hy
          · omega
          · exact hm y hy
  obtain ⟨x, hx, hm⟩ := key l h
  refine ⟨x.1, numB_pos.2 ⟨x, hx, rfl⟩, fun y hy => ?_⟩
  obtain ⟨b, hb, rfl⟩ := numB_pos.1 hy
  exact hm b hb
theorem keep_less {l : List Blk} {x : Int} (h : 0 < numB l x) : (keepL x l).length < l.length := by
  obtain ⟨b, hb, hx⟩ := numB_pos.1 h
  unfold keepL
  have := filter_lt (fun _ : Blk => true) (fun c : Blk => decide (c.1 ≠ x)) (fun _ _ => rfl) b rfl (by simp [hx]) l hb
  rw [List.filter_eq_self.2 (fun _ _ => rfl)] at this
  exact this
theorem len_subG {α : Type} [DecidableEq α] : ∀ {l m : List α}, l.Nodup → (∀ x ∈ l, x ∈ m) → l.length ≤ m.length
  | [], m, _, _ => Nat.zero_le _
  | a :: l, m, hn, hs => by
    have hn' : a ∉ l ∧ l.Nodup := List.nodup_cons.1 hn
    have ha := hs a (by simp)
    have := len_subG (l := l) (m := m.erase a) hn'.2 fun x hx => by
      have hne : x ≠ a := by rintro rfl; exact hn'.1 hx
      exact (List.mem_erase_of_ne hne).2 (hs x (by simp [hx]))
    rw [List.length_erase_of_mem ha] at this
    have := List.length_pos_of_mem ha
    simp; omega
end Go.Proofs.YthlpfafmiakfdaaDoor.E
