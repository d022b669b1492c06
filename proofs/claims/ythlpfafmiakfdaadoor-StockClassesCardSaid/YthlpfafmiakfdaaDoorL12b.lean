/- Piles: what pushes come to. -/
import Derived.Test.YthlpfafmiakfdaaDoorL12a
namespace Go.Proofs.YthlpfafmiakfdaaDoor.E
set_option linter.unusedSimpArgs false
set_option linter.unusedVariables false
open Go
set_option maxRecDepth 100000
def PS.pile (s : PS) : List Blk := s.zs.take s.m
structure PS.Good (s : PS) : Prop where
  le : s.m ≤ s.zs.length
  there : There s.es s.pile
theorem PS.Good.len {s : PS} (h : s.Good) : s.pile.length = s.m := by unfold PS.pile; rw [List.length_take]; have := h.le; omega
theorem ps0_good : ps0.Good := ⟨Nat.le_refl _, There.nil⟩
def pushP (c : Cnf) (k : Nat) (p : List Blk) (b : Blk) : List Blk := if inB c k b ∧ b ∉ p then p ++ [b] else p
theorem pushOk_eq {c : Cnf} {k : Nat} {s : PS} (h : s.Good) (b : Blk) : pushOk c k s b = decide (inB c k b ∧ b ∉ s.pile) := by
  unfold pushOk
  have := h.there.has b
  by_cases hb : b ∈ s.pile
  · have h1 := this.2 hb
    simp [h1, hb]
  · have h1 : mhas (kk := BlkK) b s.es = false := by rw [Bool.eq_false_iff]; exact fun hh => hb (this.1 hh)
    simp [h1, hb]
theorem pushS_good {c : Cnf} {k : Nat} {s : PS} (h : s.Good) (b : Blk) : (pushS c k s b).Good ∧ (pushS c k s b).pile = pushP c k s.pile b := by
  have e := pushOk_eq (c := c) (k := k) h b
  unfold pushS pushP
  by_cases hb : inB c k b ∧ b ∉ s.pile
  · rw [e, decide_eq_true hb, if_pos rfl, if_pos hb]
    have hp : PS.pile ⟨s.zs.take s.m ++ [b], s.m + 1, mclock (kk := BlkK) b s.cl s.es, mput (kk := BlkK) (vk := .unit) b () s.cl s.es⟩ = s.pile ++ [b] := by
      show (s.zs.take s.m ++ [b]).take (s.m + 1) = s.zs.take s.m ++ [b]
      refine List.take_of_length_le ?_
      have := h.le
      simp; omega
    refine ⟨⟨?_, ?_⟩, hp⟩
    · have := h.le; simp; omega
    · rw [hp]; exact h.there.push b s.cl
  · rw [e, decide_eq_false hb, if_neg (by simp), if_neg hb]
    exact ⟨h, rfl⟩
theorem fold_push {c : Cnf} {k : Nat} : ∀ (bs : List Blk) {s : PS}, s.Good → (bs.foldl (pushS c k) s).Good ∧ (bs.foldl (pushS c k) s).pile = bs.foldl (pushP c k) s.pile
  | [], s, h => ⟨h, rfl⟩
  | b :: bs, s, h => by
    obtain ⟨h1, h2⟩ := pushS_good (c := c) (k := k) h b
    have := fold_push (c := c) (k := k) bs h1
    rw [h2] at this
    exact this
theorem foldP_nodup {c : Cnf} {k : Nat} : ∀ (bs p : List Blk), bs.Nodup → (∀ b ∈ bs, b ∉ p) → bs.foldl (pushP c k) p = p ++ bs.filter fun b => decide (inB c k b)
  | [], p, _, _ => by simp
  | b :: bs, p, hn, hd => by
    have hn' : b ∉ bs ∧ bs.Nodup := List.nodup_cons.1 hn
    have hb := hd b (by simp)
    rw [List.foldl_cons, List.filter_cons]
    by_cases hi : inB c k b
    · have e : pushP c k p b = p ++ [b] := if_pos ⟨hi, hb⟩
      rw [e, foldP_nodup bs _ hn'.2 fun x hx => ?_, if_pos (by simpa using hi)]
      · simp
      · have := hd x (by simp [hx])
        intro hh
        rcases List.mem_append.1 hh with h | h
        · exact this h
        · simp at h; exact hn'.1 (h ▸ hx)
    · have e : pushP c k p b = p := if_neg fun h => hi h.1
      rw [e, foldP_nodup bs _ hn'.2 fun x hx => hd x (by simp [hx]), if_neg (by simpa using hi)]
/-- What blocks of one superblock, filled in at first, come to. -/
theorem fill_pile {c : Cnf} (h : c.Ok) {k : Nat} (hk : k < c.cl.length) {i : Int} (hi : 0 ≤ i ∧ i < c.s) (m : Nat) : (fillS c k ps0 i (intsL (bitsL m))).Good ∧ (fillS c k ps0 i (intsL (bitsL m))).pile = ((bitsL (m &&& lowN (capN c k))).reverse).map fun x : Nat => ((i : Int), (x : Int)) := by
  obtain ⟨h1, h2⟩ := fold_push (c := c) (k := k) (fillL i (intsL (bitsL m))) ps0_good
  refine ⟨h1, ?_⟩
  unfold fillS
  rw [h2]
  have hs := L_sorted m
  have e1 : fillL i (intsL (bitsL m)) = (bitsL m).reverse.map fun x : Nat => ((i : Int), (x : Int)) := by
    unfold fillL intsL
    rw [← List.map_reverse, List.map_map]; rfl
  rw [e1, show ps0.pile = [] from rfl, foldP_nodup _ _ ?_ (by simp), List.nil_append, List.filter_map, List.filter_reverse]
  · congr 2
    refine (sorted_ext (hs.filter _) (L_sorted _) fun x => ?_)
    rw [List.mem_filter, mem_bitsL, mem_bitsL, Nat.testBit_and]
    have hc := cap_le h k
    have hlow : (lowN (capN c k)).testBit x = decide (x < capN c k) := by
      unfold lowN
      rw [Int.toNat_natCast, Nat.min_eq_left hc, Nat.testBit_two_pow_sub_one]
    rw [hlow]
    have hin : inB c k ((i : Int), (x : Int)) ↔ x < capN c k := by
      unfold inB
      simp only
      omega
    simp only [Function.comp]
    rw [decide_eq_true_iff, hin, Bool.and_eq_true, decide_eq_true_iff]
    exact and_assoc
  · refine List.Pairwise.map _ (S := fun a b => a ≠ b) (R := fun a b => a ≠ b) ?_ ?_
    · intro a b hab hh
      simp only [Prod.mk.injEq, true_and] at hh
      omega
    · rw [List.pairwise_reverse]
      exact hs.imp fun h => by omega
end Go.Proofs.YthlpfafmiakfdaaDoor.E
