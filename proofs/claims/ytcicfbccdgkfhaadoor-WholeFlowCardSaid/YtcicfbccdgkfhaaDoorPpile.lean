/- Piles: what pushes, fillings and spills come to. -/
import Derived.Test.YtcicfbccdgkfhaaDoorPstkg
namespace Go.Proofs.YtcicfbccdgkfhaaDoor.E
set_option linter.unusedSimpArgs false
set_option linter.unusedVariables false
open Go
set_option maxRecDepth 100000
def PS.pile (s : PS) : List Blk := s.zs.take s.m
structure PS.Good (s : PS) : Prop where
  le : s.m ≤ s.zs.length
  there : There s.es s.pile
theorem PS.Good.len {s : PS} (h : s.Good) : s.pile.length = s.m := by unfold PS.pile; rw [List.length_take]; have := h.le; omega
def pushP (c : Cnf) (k : Nat) (p : List Blk) (b : Blk) : List Blk := if inB c k b ∧ b ∉ p then p ++ [b] else p
theorem pushOk_eq {c : Cnf} {k : Nat} {s : PS} (h : s.Good) (b : Blk) : pushOk c k s b = decide (inB c k b ∧ b ∉ s.pile) := by
  unfold pushOk
  have := h.there.has b
  by_cases hb : b ∈ s.pile
  · have h1 := this.2 hb
    simp [h1, hb]
  · have h1 : mhas (kk := BlkK) b s.es = false := by rw [Bool.eq_false_iff]; exact fun hh => hb (this.1 hh)
    simp [h1, hb]
theorem pushS_good {c : Cnf} {k : Nat} {s : PS} (h : s.Good) (b : Blk) : (pushS c k s b).Good ∧ (pushS c k s b).pile = pushP c k s.pile b := by
  have e := pushOk_eq (c := c) (k := k) h b
  unfold pushS pushP
  by_cases hb : inB c k b ∧ b ∉ s.pile
  · rw [e, decide_eq_true hb, if_pos rfl, if_pos hb]
    have hp : PS.pile ⟨s.zs.take s.m ++ [b], s.m + 1, mclock (kk := BlkK) b s.cl s.es, mput (kk := BlkK) (vk := .unit) b () s.cl s.es⟩ = s.pile ++ [b] := by
      show (s.zs.take s.m ++ [b]).take (s.m + 1) = s.zs.take s.m ++ [b]
      refine List.take_of_length_le ?_
      have := h.le
      simp; omega
    refine ⟨⟨?_, ?_⟩, hp⟩
    · have := h.le; simp; omega
    · rw [hp]; exact h.there.push b s.cl
  · rw [e, decide_eq_false hb, if_neg (by simp), if_neg hb]
    exact ⟨h, rfl⟩
theorem fold_push {c : Cnf} {k : Nat} : ∀ (bs : List Blk) {s : PS}, s.Good → (bs.foldl (pushS c k) s).Good ∧ (bs.foldl (pushS c k) s).pile = bs.foldl (pushP c k) s.pile
  | [], s, h => ⟨h, rfl⟩
  | b :: bs, s, h => by
    obtain ⟨h1, h2⟩ := pushS_good (c := c) (k := k) h b
    have := fold_push (c := c) (k := k) bs h1
    rw [h2] at this
    exact this
theorem foldP_nodup {c : Cnf} {k : Nat} : ∀ (bs p : List Blk), bs.Nodup → (∀ b ∈ bs, b ∉ p) → bs.foldl (pushP c k) p = p ++ bs.filter fun b => decide (inB c k b)
  | [], p, _, _ => by simp
  | b :: bs, p, hn, hd => by
    have hn' : b ∉ bs ∧ bs.Nodup := List.nodup_cons.1 hn
    have hb := hd b (by simp)
    rw [List.foldl_cons, List.filter_cons]
    by_cases hi : inB c k b
    · have e : pushP c k p b = p ++ [b] := if_pos ⟨hi, hb⟩
      rw [e, foldP_nodup bs _ hn'.2 fun x hx => ?_, if_pos (by simpa using hi)]
      · simp
      · have := hd x (by simp [hx])
        intro hh
        rcases List.mem_append.1 hh with h | h
        · exact this h
        · simp at h; exact hn'.1 (h ▸ hx)
    · have e : pushP c k p b = p := if_neg fun h => hi h.1
      rw [e, foldP_nodup bs _ hn'.2 fun x hx => hd x (by simp [hx]), if_neg (by simpa using hi)]
/-- What blocks of one superblock, filled in at first, come to. -/
theorem fill_pile {c : Cnf} (h : c.Ok) {k : Nat} {s : PS} (hg : s.Good) (hp0 : s.pile = []) {i : Int} (hi : 0 ≤ i ∧ i < c.s) (m : Nat) : (fillS c k s i (intsL (bitsL m))).Good ∧ (fillS c k s i (intsL (bitsL m))).pile = ((bitsL (m &&& lowN (capN c k))).reverse).map fun x : Nat => ((i : Int), (x : Int)) := by
  obtain ⟨h1, h2⟩ := fold_push (c := c) (k := k) (fillL i (intsL (bitsL m))) hg
  refine ⟨h1, ?_⟩
  unfold fillS
  rw [h2]
  have hs := L_sorted m
  have e1 : fillL i (intsL (bitsL m)) = (bitsL m).reverse.map fun x : Nat => ((i : Int), (x : Int)) := by
    unfold fillL intsL
    rw [← List.map_reverse, List.map_map]; rfl
  rw [e1, hp0, foldP_nodup _ _ ?_ (by simp), List.nil_append, List.filter_map, List.filter_reverse]
  · congr 2
    refine (sorted_ext (hs.filter _) (L_sorted _) fun x => ?_)
    rw [List.mem_filter, mem_bitsL, mem_bitsL, Nat.testBit_and]
    have hc := cap_le h k
    have hlow : (lowN (capN c k)).testBit x = decide (x < capN c k) := by
      unfold lowN
      rw [Int.toNat_natCast, Nat.min_eq_left hc, Nat.testBit_two_pow_sub_one]
    rw [hlow]
    have hin : inB c k ((i : Int), (x : Int)) ↔ x < capN c k := by
      unfold inB
      simp only
      omega
    simp only [Function.comp]
    rw [decide_eq_true_iff, hin, Bool.and_eq_true, decide_eq_true_iff]
    exact and_assoc
  · refine List.Pairwise.map _ (S := fun a b => a ≠ b) (R := fun a b => a ≠ b) ?_ ?_
    · intro a b hab hh
      simp only [Prod.mk.injEq, true_and] at hh
      omega
    · rw [List.pairwise_reverse]
      exact hs.imp fun h => by omega
theorem withN_bit {m : Nat} {n : Int} {i : Nat} (hi : i < 64) : (withN m n).testBit i = (m.testBit i || decide (n = (i : Int))) := by
  unfold withN
  split
  · rename_i h
    rw [Nat.testBit_or, Nat.testBit_two_pow]
    congr 1
    rw [decide_eq_decide]
    omega
  · rename_i h
    have : ¬ n = (i : Int) := by omega
    simp [this]
theorem dl_bits (sup : Int) (es : TMap) : ∀ (l : List Blk) {i : Nat}, i < 64 → ((dlS sup ⟨0, es⟩ l).m.testBit i = true ↔ ∃ b ∈ l, b.1 = sup ∧ b.2 = (i : Int)) := by
  refine snocInd (fun {i} hi => ?_) fun l x ih => ?_
  · simp [dlS]
  · intro i hi
    rw [dlS_snoc]
    have := ih hi
    unfold delS
    by_cases hx : x.1 = sup
    · rw [if_pos hx]
      show (withN _ x.2).testBit i = true ↔ _
      rw [withN_bit hi, Bool.or_eq_true, this, decide_eq_true_iff]
      constructor
      · rintro (⟨b, h1, h2⟩ | h)
        · exact ⟨b, by simp [h1], h2⟩
        · exact ⟨x, by simp, hx, h⟩
      · rintro ⟨b, h1, h2, h3⟩
        rcases List.mem_append.1 h1 with h1 | h1
        · exact .inl ⟨b, h1, h2, h3⟩
        · simp at h1; subst h1; exact .inr h3
    · rw [if_neg hx, this]
      constructor
      · rintro ⟨b, h1, h2⟩; exact ⟨b, by simp [h1], h2⟩
      · rintro ⟨b, h1, h2, h3⟩
        rcases List.mem_append.1 h1 with h1 | h1
        · exact ⟨b, h1, h2, h3⟩
        · simp at h1; subst h1; exact absurd h2 hx
theorem dl_there (sup : Int) {es : TMap} {p : List Blk} (h : There es p) : ∀ l : List Blk, There (dlS sup ⟨0, es⟩ l).es (p.filter fun x => decide (¬ (x.1 = sup ∧ x ∈ l))) := by
  refine snocInd ?_ fun l x ih => ?_
  · exact h.same fun b => by simp
  · rw [dlS_snoc]
    unfold delS
    by_cases hx : x.1 = sup
    · rw [if_pos hx]
      refine (ih.filter x).same fun b => ?_
      simp only [List.mem_filter, decide_eq_true_eq, List.mem_append, List.mem_singleton]
      constructor
      · rintro ⟨⟨h1, h2⟩, h3⟩
        refine ⟨h1, ?_⟩
        rintro ⟨h4, h5 | h5⟩
        · exact h2 ⟨h4, h5⟩
        · exact h3 h5
      · rintro ⟨h1, h2⟩
        exact ⟨⟨h1, fun h3 => h2 ⟨h3.1, .inl h3.2⟩⟩, fun h3 => h2 ⟨by rw [h3, hx], .inr h3⟩⟩
    · rw [if_neg hx]
      refine ih.same fun b => ?_
      simp only [List.mem_filter, decide_eq_true_eq, List.mem_append, List.mem_singleton]
      constructor
      · rintro ⟨h1, h2⟩
        refine ⟨h1, ?_⟩
        rintro ⟨h4, h5 | h5⟩
        · exact h2 ⟨h4, h5⟩
        · exact hx (h5 ▸ h4)
      · rintro ⟨h1, h2⟩
        exact ⟨h1, fun h3 => h2 ⟨h3.1, .inl h3.2⟩⟩
theorem spill_pile (s : PS) (sup : Int) : (spillS s sup).pile = keepL sup s.pile := by
  unfold spillS PS.pile delZ
  simp only
  rw [List.append_assoc, List.take_left]
theorem spill_good {s : PS} (h : s.Good) (sup : Int) : (spillS s sup).Good := by
  refine ⟨?_, ?_⟩
  · unfold spillS delZ; simp
  · rw [spill_pile]
    have := dl_there sup h.there s.pile
    refine this.same fun b => ?_
    simp only [keepL, List.mem_filter, decide_eq_true_eq]
    constructor
    · rintro ⟨h1, h2⟩; exact ⟨h1, fun h3 => h2 ⟨h3, h1⟩⟩
    · rintro ⟨h1, h2⟩; exact ⟨h1, fun h3 => h2 h3.1⟩
theorem spillM_lt (s : PS) (sup : Int) : spillM s sup < 18446744073709551616 := dlS_lt (by show 0 < 18446744073709551616; omega)
theorem spillM_bit (s : PS) (sup : Int) {i : Nat} (hi : i < 64) : (spillM s sup).testBit i = true ↔ (sup, (i : Int)) ∈ s.pile := by
  unfold spillM
  rw [dl_bits sup s.es _ hi]
  constructor
  · rintro ⟨b, h1, h2, h3⟩; rw [← h2, ← h3]; exact h1
  · intro h; exact ⟨_, h, rfl, rfl⟩
theorem best_ex {l : List Blk} (h : l ≠ []) : ∃ x, isBest l x := by
  have key : ∀ ys : List Blk, ys ≠ [] → ∃ x ∈ ys, ∀ y ∈ ys, numB l y.1 < numB l x.1 ∨ (numB l y.1 = numB l x.1 ∧ x.1 ≤ y.1) := by
    intro ys
    induction ys with
    | nil => intro h; exact absurd rfl h
    | cons a ys ih =>
      intro _
      rcases List.eq_nil_or_concat ys with rfl | hne
      · exact ⟨a, by simp, fun y hy => by simp at hy; subst hy; exact .inr ⟨rfl, Int.le_refl _⟩⟩
      · have hn : ys ≠ [] := by obtain ⟨_, _, rfl⟩ := hne; simp
        obtain ⟨x, hx, hm⟩ := ih hn
        by_cases hc : numB l x.1 < numB l a.1 ∨ (numB l x.1 = numB l a.1 ∧ a.1 ≤ x.1)
        · refine ⟨a, by simp, fun y hy => ?_⟩
          rcases List.mem_cons.1 hy with rfl | hy
          · exact .inr ⟨rfl, Int.le_refl _⟩
          · have := hm y hy; omega
        · refine ⟨x, by simp [hx], fun y hy => ?_⟩
          rcases List.mem_cons.1 hy with rfl | hy
          · omega
          · exact hm y hy
  obtain ⟨x, hx, hm⟩ := key l h
  refine ⟨x.1, numB_pos.2 ⟨x, hx, rfl⟩, fun y hy => ?_⟩
  obtain ⟨b, hb, rfl⟩ := numB_pos.1 hy
  exact hm b hb
theorem keep_less {l : List Blk} {x : Int} (h : 0 < numB l x) : (keepL x l).length < l.length := by
  obtain ⟨b, hb, hx⟩ := numB_pos.1 h
  unfold keepL
  have := filter_lt (fun _ : Blk => true) (fun c : Blk => decide (c.1 ≠ x)) (fun _ _ => rfl) b rfl (by simp [hx]) l hb
  rw [List.filter_eq_self.2 (fun _ _ => rfl)] at this
  exact this
theorem len_subG {α : Type} [DecidableEq α] : ∀ {l m : List α}, l.Nodup → (∀ x ∈ l, x ∈ m) → l.length ≤ m.length
  | [], m, _, _ => Nat.zero_le _
  | a :: l, m, hn, hs => by
    have hn' : a ∉ l ∧ l.Nodup := List.nodup_cons.1 hn
    have ha := hs a (by simp)
    have := len_subG (l := l) (m := m.erase a) hn'.2 fun x hx => by
      have hne : x ≠ a := by rintro rfl; exact hn'.1 hx
      exact (List.mem_erase_of_ne hne).2 (hs x (by simp [hx]))
    rw [List.length_erase_of_mem ha] at this
    have := List.length_pos_of_mem ha
    simp; omega
end Go.Proofs.YtcicfbccdgkfhaaDoor.E
