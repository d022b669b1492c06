/- WholeFlow: which blocks are out of the superblocks, and how many. -/
import Derived.Test.YtcicfbccdgkfhaaDoorPpile
import Derived.Test.YtcicfbccdgkfhaaDoorPheartf
namespace Go.Proofs.YtcicfbccdgkfhaaDoor.E
set_option linter.unusedSimpArgs false
set_option linter.unusedVariables false
open Go
set_option maxRecDepth 100000
/-- The blocks that are out: each once; each superblock lacks just those of its own. -/
structure Flow (c : Cnf) (k S : Nat) (f : SupF) (l : List Blk) : Prop where
  nodup : l.Nodup
  inb : ∀ b ∈ l, inB c k b
  sup : ∀ i, i < S → (f i = (0, 0, 0) ∧ ∀ b ∈ l, b.1 ≠ (i : Int)) ∨ ∃ m, f i = (1, k, m) ∧ subM m (allN c k) ∧ m ≠ allN c k ∧ m < 18446744073709551616 ∧ ∀ x : Nat, x < 64 → ((((i : Int), (x : Int)) : Blk) ∈ l ↔ (x < capN c k ∧ m.testBit x = false))
theorem Flow.zero (c : Cnf) (k S : Nat) : Flow c k S (fun _ => (0, 0, 0)) [] := ⟨List.nodup_nil, (fun b hb => by cases hb), fun i _ => .inl ⟨rfl, (fun b hb => by cases hb)⟩⟩
theorem Flow.perm {c : Cnf} {k S : Nat} {f : SupF} {l l' : List Blk} (h : Flow c k S f l) (hp : l.Perm l') : Flow c k S f l' :=
  ⟨hp.nodup_iff.1 h.nodup, fun b hb => h.inb b (hp.mem_iff.2 hb), fun i hi => by
    rcases h.sup i hi with ⟨h1, h2⟩ | ⟨m, h1, h2, h3, h4, h5⟩
    · exact .inl ⟨h1, fun b hb => h2 b (hp.mem_iff.2 hb)⟩
    · exact .inr ⟨m, h1, h2, h3, h4, fun x hx => by rw [← h5 x hx]; exact hp.mem_iff.symm⟩⟩
theorem Flow.hinv {c : Cnf} {k S : Nat} (hk : k < c.cl.length) {f : SupF} {l : List Blk} (h : Flow c k S f l) : HInv c S f := fun i hi => by
  rcases h.sup i hi with ⟨h1, _⟩ | ⟨m, h1, h2, h3, h4, _⟩
  · exact .free h1
  · exact .blk k m h1 hk h2 h3 h4
theorem inB_64 {c : Cnf} (hc : c.Ok) {k : Nat} {b : Blk} (hb : inB c k b) : ∃ s x : Nat, b = ((s : Int), (x : Int)) ∧ (s : Int) < c.s ∧ x < capN c k ∧ x < 64 := by
  obtain ⟨h1, h2, h3, h4⟩ := hb
  have := cap_le hc k
  obtain ⟨b1, b2⟩ := b
  simp only at *
  exact ⟨b1.toNat, b2.toNat, by rw [Int.toNat_of_nonneg h1, Int.toNat_of_nonneg h3], by omega, by omega, by omega⟩
theorem allN_bit {c : Cnf} (hc : c.Ok) {k : Nat} (x : Nat) : (allN c k).testBit x = decide (x < capN c k) := by
  have := cap_le hc k
  exact low_bit (capN c k) this x
theorem bit_ne {a b : Nat} (ha : a < 18446744073709551616) (hb : b < 18446744073709551616) (h : ∀ x, x < 64 → a.testBit x = b.testBit x) : a = b := bit_ext (by rw [pow64]; exact ha) (by rw [pow64]; exact hb) h
/-- Blocks flow out of a superblock. -/
theorem Flow.out {c : Cnf} (hc : c.Ok) {k S : Nat} (hS : (S : Int) = c.s) {f : SupF} {l : List Blk} (h : Flow c k S f l) {i m : Nat} (hi : i < S) (hm : ∀ x : Nat, x < 64 → ((((i : Int), (x : Int)) : Blk) ∈ l ↔ (x < capN c k ∧ m.testBit x = false))) (hs : subM m (allN c k)) (h0 : m ≠ 0) (hm64 : m < 18446744073709551616) :
    Flow c k S (updS f i (1, k, m - leastN m c.b)) (l ++ (bitsL (leastN m c.b)).map fun x : Nat => ((i : Int), (x : Int))) := by
  have hb0 := hc.b0
  have hls := least_sub m c.b
  have hlt := leastN_lt m c.b
  obtain ⟨e1, e2⟩ := not_sub (a := leastN m c.b) hlt hm64 hls
  have hne := least_ne hm64 h0 hb0
  rw [← e1]
  have hbit : ∀ x, x < 64 → (andNotN m (leastN m c.b)).testBit x = (m.testBit x && !(leastN m c.b).testBit x) := fun x hx => andNotN_bit _ _ hx
  have hcap : ∀ x, x < 64 → m.testBit x = true → x < capN c k := fun x hx h1 => by
    have := hs x hx h1
    rw [allN_bit hc] at this
    simpa using this
  have hL : ∀ x : Nat, (x ∈ bitsL (leastN m c.b) ↔ x < 64 ∧ (leastN m c.b).testBit x = true) := fun x => mem_bitsL
  have hmemL : ∀ b : Blk, b ∈ (bitsL (leastN m c.b)).map (fun x : Nat => ((i : Int), (x : Int))) ↔ ∃ x : Nat, x < 64 ∧ (leastN m c.b).testBit x = true ∧ b = ((i : Int), (x : Int)) := fun b => by
    rw [List.mem_map]
    constructor
    · rintro ⟨x, h1, rfl⟩; exact ⟨x, ((hL x).1 h1).1, ((hL x).1 h1).2, rfl⟩
    · rintro ⟨x, h1, h2, rfl⟩; exact ⟨x, (hL x).2 ⟨h1, h2⟩, rfl⟩
  refine ⟨?_, ?_, ?_⟩
  · refine List.nodup_append.2 ⟨h.nodup, ?_, ?_⟩
    · refine List.Pairwise.map _ (S := fun a b => a ≠ b) (R := fun a b : Nat => a ≠ b) ?_ ((L_sorted _).imp fun h => by omega)
      intro a b hab hh
      simp only [Prod.mk.injEq, true_and] at hh
      omega
    · intro a ha b hb hab
      subst hab
      obtain ⟨x, h1, h2, rfl⟩ := (hmemL a).1 hb
      have h3 := (hm x h1).1 ha
      rw [hls x h1 h2] at h3
      cases h3.2
  · intro b hb
    rcases List.mem_append.1 hb with hb | hb
    · exact h.inb b hb
    · obtain ⟨x, h1, h2, rfl⟩ := (hmemL b).1 hb
      have := hcap x h1 (hls x h1 h2)
      exact ⟨by simp only; omega, by simp only; omega, by simp only; omega, by simp only; omega⟩
  · intro j hj
    by_cases hij : j = i
    · subst hij
      refine .inr ⟨andNotN m (leastN m c.b), by simp [updS], ?_, ?_, andNotN_lt _ _, ?_⟩
      · intro x hx h1
        rw [hbit x hx] at h1
        simp only [Bool.and_eq_true] at h1
        exact hs x hx h1.1
      · intro he
        obtain ⟨x, hx⟩ : ∃ x, x < 64 ∧ (leastN m c.b).testBit x = true := by
          apply Classical.byContradiction; intro hn
          refine hne (bit_ne hlt (by omega) fun x hx => ?_)
          rw [Nat.zero_testBit]
          cases hq : (leastN m c.b).testBit x with
          | false => rfl
          | true => exact absurd ⟨x, hx, hq⟩ hn
        have h1 := hbit x hx.1
        rw [he, hx.2, allN_bit hc, hls x hx.1 hx.2] at h1
        simp at h1
        have := hcap x hx.1 (hls x hx.1 hx.2)
        omega
      · intro x hx
        rw [List.mem_append, hmemL, hm x hx, hbit x hx]
        constructor
        · rintro (⟨h1, h2⟩ | ⟨y, h1, h2, h3⟩)
          · exact ⟨h1, by simp [h2]⟩
          · simp only [Prod.mk.injEq, true_and] at h3
            obtain rfl : x = y := by omega
            exact ⟨hcap x h1 (hls x h1 h2), by simp [h2]⟩
        · rintro ⟨h1, h2⟩
          cases hq : m.testBit x with
          | false => exact .inl ⟨h1, rfl⟩
          | true =>
            rw [hq] at h2
            simp at h2
            exact .inr ⟨x, hx, h2, rfl⟩
    · have e : updS f i (1, k, andNotN m (leastN m c.b)) j = f j := by simp [updS, hij]
      rw [e]
      have hnj : ∀ b, b ∈ (bitsL (leastN m c.b)).map (fun x : Nat => ((i : Int), (x : Int))) → b.1 ≠ (j : Int) := fun b hb => by
        obtain ⟨x, _, _, rfl⟩ := (hmemL b).1 hb
        simp only; omega
      rcases h.sup j hj with ⟨h1, h2⟩ | ⟨m', h1, h2, h3, h4, h5⟩
      · refine .inl ⟨h1, fun b hb => ?_⟩
        rcases List.mem_append.1 hb with hb | hb
        · exact h2 b hb
        · exact hnj b hb
      · refine .inr ⟨m', h1, h2, h3, h4, fun x hx => ?_⟩
        rw [← h5 x hx, List.mem_append]
        exact ⟨fun hh => hh.resolve_right fun hb => hnj _ hb rfl, .inl⟩
/-- Blocks flow back: some of a superblock, all that are in p. -/
theorem Flow.back {c : Cnf} (hc : c.Ok) {k S : Nat} (hS : (S : Int) = c.s) {f : SupF} {p o : List Blk} (h : Flow c k S f (p ++ o)) {i M : Nat} (hi : i < S) (hM : ∀ x : Nat, x < 64 → (M.testBit x = true ↔ (((i : Int), (x : Int)) : Blk) ∈ p)) (hM64 : M < 18446744073709551616) (hne : ∃ x : Nat, x < 64 ∧ (((i : Int), (x : Int)) : Blk) ∈ p) :
    ∃ m, f i = (1, k, m) ∧ m < 18446744073709551616 ∧ flOk c k m M ∧ M ≠ 0 ∧ Flow c k S (updS f i (if m ||| M = allN c k then (0, 0, 0) else (1, k, m ||| M))) (keepL (i : Int) p ++ o) := by
  obtain ⟨x0, hx0, hp0⟩ := hne
  have hkeep : ∀ b : Blk, b ∈ keepL (i : Int) p ↔ b ∈ p ∧ b.1 ≠ (i : Int) := fun b => by simp [keepL, List.mem_filter]
  rcases h.sup i hi with ⟨_, h2⟩ | ⟨m, h1, h2, h3, h4, h5⟩
  · exact absurd rfl (h2 ((i : Int), (x0 : Int)) (List.mem_append_left _ hp0))
  have hpo : ∀ b, b ∈ o → b ∉ p := fun b hb hb' => (List.nodup_append.1 h.nodup).2.2 b hb' b hb rfl
  have hMb : ∀ x, x < 64 → M.testBit x = true → x < capN c k ∧ m.testBit x = false := fun x hx hb => (h5 x hx).1 (List.mem_append_left _ ((hM x hx).1 hb))
  have hall : ∀ x, (allN c k).testBit x = decide (x < capN c k) := allN_bit hc
  refine ⟨m, h1, h4, ⟨fun x hx hb => ?_, ?_⟩, ?_, ?_⟩
  · rw [hall]; simpa using (hMb x hx hb).1
  · refine bit_ne (and_lt64 _ _ hM64) (by omega) fun x hx => ?_
    rw [Nat.testBit_and, Nat.zero_testBit]
    cases hq : M.testBit x with
    | false => rfl
    | true => rw [(hMb x hx hq).2]; rfl
  · rintro rfl
    have := (hM x0 hx0).2 hp0
    rw [Nat.zero_testBit] at this; cases this
  · have hor : ∀ x, (m ||| M).testBit x = (m.testBit x || M.testBit x) := fun x => Nat.testBit_or ..
    have hmem : ∀ x : Nat, x < 64 → ((((i : Int), (x : Int)) : Blk) ∈ keepL (i : Int) p ++ o ↔ (x < capN c k ∧ (m ||| M).testBit x = false)) := fun x hx => by
      rw [List.mem_append, hkeep, hor]
      have a1 := h5 x hx
      rw [List.mem_append] at a1
      have a2 := hM x hx
      constructor
      · rintro (⟨_, hh⟩ | hh)
        · exact absurd rfl hh
        · obtain ⟨b1, b2⟩ := a1.1 (.inr hh)
          refine ⟨b1, ?_⟩
          cases hq : M.testBit x with
          | false => rw [b2]; rfl
          | true => exact absurd (a2.1 hq) (hpo _ hh)
      · rintro ⟨b1, b2⟩
        simp only [Bool.or_eq_false_iff] at b2
        rcases a1.2 ⟨b1, b2.1⟩ with hh | hh
        · rw [a2.2 hh] at b2; cases b2.2
        · exact .inr hh
    refine ⟨?_, fun b hb => ?_, fun j hj => ?_⟩
    · exact h.nodup.sublist (List.Sublist.append_right List.filter_sublist o)
    · rcases List.mem_append.1 hb with hb | hb
      · exact h.inb b (List.mem_append_left _ ((hkeep b).1 hb).1)
      · exact h.inb b (List.mem_append_right _ hb)
    · by_cases hij : j = i
      · subst hij
        by_cases he : m ||| M = allN c k
        · rw [if_pos he]
          refine .inl ⟨by simp [updS], fun b hb hbj => ?_⟩
          obtain ⟨s, x, rfl, q1, q2, q3⟩ := inB_64 hc (h.inb b (by
            rcases List.mem_append.1 hb with hb | hb
            · exact List.mem_append_left _ ((hkeep b).1 hb).1
            · exact List.mem_append_right _ hb))
          simp only at hbj
          rw [hbj] at hb
          have := (hmem x q3).1 hb
          rw [he, hall] at this
          simp at this
          omega
        · rw [if_neg he]
          refine .inr ⟨m ||| M, by simp [updS], fun x hx hb => ?_, he, or_lt64 h4 hM64, hmem⟩
          rw [hor, Bool.or_eq_true] at hb
          rcases hb with hb | hb
          · exact h2 x hx hb
          · rw [hall]; simpa using (hMb x hx hb).1
      · have e : ∀ y, updS f i y j = f j := fun y => by simp [updS, hij]
        rw [e]
        have hmj : ∀ b : Blk, b.1 = (j : Int) → (b ∈ keepL (i : Int) p ++ o ↔ b ∈ p ++ o) := fun b hb => by
          rw [List.mem_append, List.mem_append, hkeep]
          have : b.1 ≠ (i : Int) := by omega
          exact ⟨fun hh => hh.imp And.left id, fun hh => hh.imp (fun q => ⟨q, this⟩) id⟩
        rcases h.sup j hj with ⟨q1, q2⟩ | ⟨m', q1, q2, q3, q4, q5⟩
        · exact .inl ⟨q1, fun b hb hbj => q2 b ((hmj b hbj).1 hb) hbj⟩
        · exact .inr ⟨m', q1, q2, q3, q4, fun x hx => by rw [← q5 x hx]; exact hmj _ rfl⟩
/-- How many blocks are out of the first superblocks. -/
def sumB (l : List Blk) : Nat → Nat
  | 0 => 0
  | i + 1 => sumB l i + numB l i
theorem sumB_snoc (l : List Blk) (b : Blk) : ∀ n : Nat, sumB (l ++ [b]) n = sumB l n + if 0 ≤ b.1 ∧ b.1 < n then 1 else 0
  | 0 => by rw [if_neg (by omega)]; rfl
  | n + 1 => by
    simp only [sumB]
    rw [sumB_snoc l b n, numB_snoc]
    by_cases h1 : b.1 = (n : Int)
    · rw [if_neg (by omega), if_pos h1, if_pos (by omega)]; omega
    · by_cases h2 : 0 ≤ b.1 ∧ b.1 < n
      · rw [if_pos h2, if_neg h1, if_pos (by omega)]; omega
      · rw [if_neg h2, if_neg h1, if_neg (by omega)]; omega
theorem sumB_all {S : Nat} : ∀ l : List Blk, (∀ b ∈ l, 0 ≤ b.1 ∧ b.1 < S) → sumB l S = l.length := by
  refine snocInd (fun _ => ?_) fun l b ih h => ?_
  · have : ∀ n, sumB [] n = 0 := fun n => by induction n with | zero => rfl | succ n ih => simp [sumB, ih, numB]
    exact this S
  · rw [sumB_snoc, ih fun x hx => h x (by simp [hx]), if_pos (h b (by simp))]
    simp
def flT (c : Cnf) (k : Nat) (f : SupF) : Nat → Int
  | 0 => 0
  | i + 1 => flT c k f i + (if (f i).1 = 1 then ((bitsL (f i).2.2).length : Int) - capN c k else 0)
theorem cap_count {c : Cnf} (hc : c.Ok) {k S : Nat} {f : SupF} {l : List Blk} (h : Flow c k S f l) {i : Nat} (hi : i < S) : (if (f i).1 = 1 then ((bitsL (f i).2.2).length : Int) - capN c k else 0) = -(numB l i : Int) ∧ (bitsL (f i).2.2).length ≤ 64 := by
  refine ⟨?_, L_le _⟩
  rcases h.sup i hi with ⟨h1, h2⟩ | ⟨m, h1, h2, h3, h4, h5⟩
  · rw [h1, if_neg (by simp)]
    have : numB l i = 0 := by
      apply Classical.byContradiction; intro hn
      obtain ⟨b, hb, hbi⟩ := numB_pos.1 (show 0 < numB l i by omega)
      exact h2 b hb hbi
    rw [this]; rfl
  · rw [h1, if_pos rfl]
    have hcap := cap_le hc k
    have e1 : bitsL m = (List.range (capN c k)).filter (m.testBit ·) := by
      refine sorted_ext (L_sorted m) (List.pairwise_lt_range.filter _) fun x => ?_
      rw [mem_bitsL, List.mem_filter, List.mem_range]
      constructor
      · rintro ⟨a, b⟩
        have := h2 x a b
        rw [allN_bit hc] at this
        exact ⟨by simpa using this, b⟩
      · rintro ⟨a, b⟩; exact ⟨by omega, b⟩
    have e2 : ((l.filter fun b => decide (b.1 = (i : Int))).map fun b : Blk => b.2.toNat).length = ((List.range (capN c k)).filter fun x => !m.testBit x).length := by
      have hsub : ∀ b ∈ l.filter fun b => decide (b.1 = (i : Int)), ∃ x : Nat, b = ((i : Int), (x : Int)) ∧ x < capN c k ∧ m.testBit x = false ∧ x < 64 := fun b hb => by
        obtain ⟨hb1, hb2⟩ := List.mem_filter.1 hb
        obtain ⟨s, x, rfl, q1, q2, q3⟩ := inB_64 hc (h.inb b hb1)
        simp only [decide_eq_true_eq] at hb2
        rw [hb2] at hb1 ⊢
        obtain ⟨r1, r2⟩ := (h5 x q3).1 hb1
        exact ⟨x, rfl, r1, r2, q3⟩
      refine Nat.le_antisymm (len_subG ?_ ?_) (len_subG (List.nodup_range.filter _) ?_)
      · refine List.pairwise_map.2 (List.Pairwise.imp_of_mem (fun {a b} ha hb hab hh => ?_) (h.nodup.filter fun b => decide (b.1 = (i : Int))))
        obtain ⟨x, rfl, _⟩ := hsub a ha
        obtain ⟨y, rfl, _⟩ := hsub b hb
        simp only [Int.toNat_natCast] at hh
        exact hab (by rw [hh])
      · intro x hx
        obtain ⟨b, hb, rfl⟩ := List.mem_map.1 hx
        obtain ⟨y, rfl, r1, r2, r3⟩ := hsub b hb
        simp [r1, r2]
      · intro x hx
        simp only [List.mem_filter, List.mem_range, Bool.not_eq_true'] at hx
        refine List.mem_map.2 ⟨((i : Int), (x : Int)), List.mem_filter.2 ⟨(h5 x (by omega)).2 hx, by simp⟩, by simp⟩
    have e3 : ((List.range (capN c k)).filter (m.testBit ·)).length + ((List.range (capN c k)).filter fun x => !m.testBit x).length = capN c k := by
      have : ∀ q : List Nat, (q.filter (m.testBit ·)).length + (q.filter fun x => !m.testBit x).length = q.length := by
        intro q
        induction q with
        | nil => rfl
        | cons a q ih => simp only [List.filter_cons]; cases m.testBit a <;> simp <;> omega
      rw [this]; simp
    rw [List.length_map] at e2
    unfold numB
    rw [e2, e1]
    omega
theorem flT_sum {c : Cnf} (hc : c.Ok) {k S : Nat} {f : SupF} {l : List Blk} (h : Flow c k S f l) : ∀ i, i ≤ S → flT c k f i = -(sumB l i : Int)
  | 0, _ => rfl
  | i + 1, hi => by
    simp only [flT, sumB]
    rw [flT_sum hc h i (by omega), (cap_count hc h (by omega)).1]
    omega
theorem flT_all {c : Cnf} (hc : c.Ok) {k S : Nat} (hS : (S : Int) = c.s) {f : SupF} {l : List Blk} (h : Flow c k S f l) : flT c k f S = -(l.length : Int) := by
  rw [flT_sum hc h S (Nat.le_refl _), sumB_all l fun b hb => ⟨(h.inb b hb).1, by have := (h.inb b hb).2.1; omega⟩]
end Go.Proofs.YtcicfbccdgkfhaaDoor.E
