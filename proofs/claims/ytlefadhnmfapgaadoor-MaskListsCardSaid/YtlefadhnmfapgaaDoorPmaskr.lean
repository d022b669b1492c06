/- The document's answers for sets: their contracts. -/
import Derived.Test.YtlefadhnmfapgaaDoorPmaskb
import Derived.Test.YtlefadhnmfapgaaDoorPbits
namespace Go.Proofs.YtlefadhnmfapgaaDoor.E
open Go
set_option maxRecDepth 100000

theorem Tri.bl {E : Env} {f : FuncId} {args : List AV} {os os' : List AObj} {b c : Bool} (h : Tri E f args os (.bool b) os') (e : b = c) : Tri E f args os (.bl c) os' := by
  subst e
  refine ⟨h.enters, fun B ρ w vs h1 h2 h3 => (h.run B ρ w vs h1 h2 h3).mono fun e w' hp => ?_⟩
  obtain ⟨ρ', u, h4, h5, h6⟩ := hp
  exact ⟨ρ', u, h4, by simpa [Den] using h5, h6⟩
theorem rhas_tri (m : Nat) (hm : m < 18446744073709551616) (n : Int) : Tri En 13 [.int .u64 m, .int .i64 n] [] (.bool (hasN m n)) [] := by
  by_cases h0 : 0 ≤ n
  · by_cases h1 : n < 64
    · obtain ⟨b, rfl⟩ : ∃ b : Nat, n = b := ⟨n.toNat, by omega⟩
      have e : hasN m b = m.testBit b := by unfold hasN; simp; omega
      have hb := bit_tri m b hm (by omega)
      rw [← e] at hb
      refine Tri.of Tryd.func13 rfl Tryd.call13 rfl ?_
      refine Goods.fin 2000 [.s 6 (some true) true true, .s 9 (some true) true true, .c (.of hb)] mixed Tryd.func13 ?_
      show Yes _
      repeat' apply And.intro
      (all_goals first | rfl | assumption | trivial | omega | (simp [-List.getD_eq_getElem?_getD] <;> omega) | (simp (disch := omega) only [w64, wu64] <;> omega) | (simp (disch := omega) [-List.getD_eq_getElem?_getD, List.getD_cons_zero, List.getD_cons_succ, kCast_self, dfl_pair, dfl_int, w64, wu64] <;> omega) | (rw [Bool.eq_iff_iff]; simp (disch := omega) [-List.getD_eq_getElem?_getD, List.getD_cons_zero, List.getD_cons_succ, kCast_self, dfl_pair, dfl_int, w64, wu64] <;> omega) | (simp_all [-List.getD_eq_getElem?_getD] <;> omega))
    · have e : hasN m n = false := by unfold hasN; rw [decide_eq_false (by omega)]; rfl
      refine Tri.of Tryd.func13 rfl Tryd.call13 rfl ?_
      refine Goods.fin 2000 [.s 6 (some true) true true, .s 9 (some false) true true] mixed Tryd.func13 ?_
      show Yes _
      repeat' apply And.intro
      (all_goals first | rfl | assumption | trivial | omega | (simp [-List.getD_eq_getElem?_getD, e] <;> omega) | (simp (disch := omega) only [w64, wu64] <;> omega) | (simp (disch := omega) [-List.getD_eq_getElem?_getD, List.getD_cons_zero, List.getD_cons_succ, kCast_self, dfl_pair, dfl_int, w64, wu64, e] <;> omega) | (rw [Bool.eq_iff_iff]; simp (disch := omega) [-List.getD_eq_getElem?_getD, List.getD_cons_zero, List.getD_cons_succ, kCast_self, dfl_pair, dfl_int, w64, wu64, e] <;> omega) | (simp_all [-List.getD_eq_getElem?_getD] <;> omega))
  · have e : hasN m n = false := by unfold hasN; rw [decide_eq_false (by omega)]; rfl
    refine Tri.of Tryd.func13 rfl Tryd.call13 rfl ?_
    refine Goods.fin 2000 [.s 6 (some false) true true] mixed Tryd.func13 ?_
    show Yes _
    repeat' apply And.intro
    (all_goals first | rfl | assumption | trivial | omega | (simp [-List.getD_eq_getElem?_getD, e] <;> omega) | (simp (disch := omega) only [w64, wu64] <;> omega) | (simp (disch := omega) [-List.getD_eq_getElem?_getD, List.getD_cons_zero, List.getD_cons_succ, kCast_self, dfl_pair, dfl_int, w64, wu64, e] <;> omega) | (rw [Bool.eq_iff_iff]; simp (disch := omega) [-List.getD_eq_getElem?_getD, List.getD_cons_zero, List.getD_cons_succ, kCast_self, dfl_pair, dfl_int, w64, wu64, e] <;> omega) | (simp_all [-List.getD_eq_getElem?_getD] <;> omega))
theorem hasN_nat {m k : Nat} (h : k < 64) : hasN m k = m.testBit k := by unfold hasN; simp; omega
theorem hasN_out {m : Nat} {n : Int} (h : ¬ (0 ≤ n ∧ n ≤ 63)) : hasN m n = false := by unfold hasN; rw [decide_eq_false (by omega)]; rfl
/-- The numbers below k of a set. -/
def belowL (m k : Nat) : List Nat := (List.range k).filter (m.testBit ·)
theorem belowL_succ (m k : Nat) : belowL m (k + 1) = belowL m k ++ if m.testBit k then [k] else [] := by
  unfold belowL
  rw [List.range_succ, List.filter_append]
  congr 1
  cases h : m.testBit k <;> simp [h]
theorem belowL_le (m k : Nat) : (belowL m k).length ≤ k := by
  have := List.length_filter_le (m.testBit ·) (List.range k)
  simpa [belowL] using this
noncomputable abbrev gRlist (l : List Int) : Frm := ⟨En, 10, Tryd.f10.ntmps, [], .slice 0 0 l.length, [.tab true (.int .i64) l]⟩
theorem rlist_0 (m : Nat) (hm : m < 18446744073709551616) : ∀ (j k : Nat), k + j = 64 → Goods (gRlist (intsL (bitsL m))) ⟨.none, lp Tryd.f10 0, [(0, .int .u64 m), (3, .slice 0 0 (intsL (belowL m k)).length), (4, .int .i64 k)], hp [.tab true (.int .i64) (intsL (belowL m k))]⟩
  | 0, k, h => by
    obtain rfl : k = 64 := by omega
    have e : belowL m 64 = bitsL m := rfl
    rw [e]
    refine Goods.fin 2000 [.b false] mixed Tryd.func10 ?_
    show Yes _
    repeat' apply And.intro
    (all_goals first | rfl | assumption | trivial | omega | (simp [-List.getD_eq_getElem?_getD] <;> omega) | (simp (disch := omega) only [w64, wu64] <;> omega) | (simp (disch := omega) [-List.getD_eq_getElem?_getD, List.getD_cons_zero, List.getD_cons_succ, kCast_self, dfl_pair, dfl_int, w64, wu64] <;> omega) | (rw [Bool.eq_iff_iff]; simp (disch := omega) [-List.getD_eq_getElem?_getD, List.getD_cons_zero, List.getD_cons_succ, kCast_self, dfl_pair, dfl_int, w64, wu64] <;> omega) | (simp_all [-List.getD_eq_getElem?_getD] <;> omega))
  | j + 1, k, h => by
    have ih := rlist_0 m hm j (k + 1) (by omega)
    have hh := rhas_tri m hm k
    rw [hasN_nat (by omega)] at hh
    have hle := belowL_le m k
    have hs := belowL_succ m k
    by_cases hb : m.testBit k = true
    · rw [if_pos hb] at hs
      have e : intsL (belowL m (k + 1)) = intsL (belowL m k) ++ [(k : Int)] := by rw [hs]; simp [intsL]
      rw [e] at ih
      have hl := intsL_len (belowL m k)
      refine Goods.to 2000 [.b true, .c (.of hh), .b true, .l, .stop] mixed (ih) (by kernel_rfl) ?_
      show Yes _
      repeat' apply And.intro
      (all_goals first | rfl | assumption | trivial | omega | (simp [-List.getD_eq_getElem?_getD] <;> omega) | (simp (disch := omega) only [w64, wu64] <;> omega) | (simp (disch := omega) [-List.getD_eq_getElem?_getD, List.getD_cons_zero, List.getD_cons_succ, kCast_self, dfl_pair, dfl_int, w64, wu64] <;> omega) | (rw [Bool.eq_iff_iff]; simp (disch := omega) [-List.getD_eq_getElem?_getD, List.getD_cons_zero, List.getD_cons_succ, kCast_self, dfl_pair, dfl_int, w64, wu64] <;> omega) | (simp_all [-List.getD_eq_getElem?_getD] <;> omega))
    · have hb : m.testBit k = false := by simpa using hb
      rw [if_neg (by simp [hb]), List.append_nil] at hs
      rw [hs] at ih
      refine Goods.to 2000 [.b true, .c (.of hh), .b false, .l, .stop] mixed (ih) (by kernel_rfl) ?_
      show Yes _
      repeat' apply And.intro
      (all_goals first | rfl | assumption | trivial | omega | (simp [-List.getD_eq_getElem?_getD] <;> omega) | (simp (disch := omega) only [w64, wu64] <;> omega) | (simp (disch := omega) [-List.getD_eq_getElem?_getD, List.getD_cons_zero, List.getD_cons_succ, kCast_self, dfl_pair, dfl_int, w64, wu64] <;> omega) | (rw [Bool.eq_iff_iff]; simp (disch := omega) [-List.getD_eq_getElem?_getD, List.getD_cons_zero, List.getD_cons_succ, kCast_self, dfl_pair, dfl_int, w64, wu64] <;> omega) | (simp_all [-List.getD_eq_getElem?_getD] <;> omega))
theorem rlist_tri (m : Nat) (hm : m < 18446744073709551616) : Tri En 10 [.int .u64 m] [] (.slice 0 0 (intsL (bitsL m)).length) [.tab true (.int .i64) (intsL (bitsL m))] := by
  have ih := rlist_0 m hm 64 0 (by omega)
  rw [show belowL m 0 = [] from rfl] at ih
  refine Tri.of Tryd.func10 rfl Tryd.call10 rfl ?_
  refine Goods.to 2000 [.l, .stop] mixed (ih) (by kernel_rfl) ?_
  show Yes _
  repeat' apply And.intro
  (all_goals first | rfl | assumption | trivial | omega | (simp [-List.getD_eq_getElem?_getD] <;> omega) | (simp (disch := omega) only [w64, wu64] <;> omega) | (simp (disch := omega) [-List.getD_eq_getElem?_getD, List.getD_cons_zero, List.getD_cons_succ, kCast_self, dfl_pair, dfl_int, w64, wu64] <;> omega) | (rw [Bool.eq_iff_iff]; simp (disch := omega) [-List.getD_eq_getElem?_getD, List.getD_cons_zero, List.getD_cons_succ, kCast_self, dfl_pair, dfl_int, w64, wu64] <;> omega) | (simp_all [-List.getD_eq_getElem?_getD] <;> omega))
/-- The set of some numbers, of which only those from 0 to 63 count. -/
def setI (l : List Int) : Nat := setS ((l.filter fun x => decide (0 ≤ x ∧ x ≤ 63)).map Int.toNat)
theorem S_append (a b : List Nat) : setS (a ++ b) = setS a ||| setS b := by
  induction a with
  | nil => simp [setS]
  | cons x a ih => rw [List.cons_append, setS, setS, ih, Nat.or_assoc]
theorem setI_lt (l : List Int) : setI l < 18446744073709551616 := by
  rw [← pow64]
  refine S_lt fun i hi => ?_
  obtain ⟨x, hx, rfl⟩ := List.mem_map.1 hi
  have := (List.mem_filter.1 hx).2
  simp at this; omega
theorem setI_snoc_in {l : List Int} {x : Int} (h : 0 ≤ x ∧ x ≤ 63) : setI (l ++ [x]) = setI l ||| 2 ^ x.toNat := by
  unfold setI
  rw [List.filter_append, List.map_append, S_append]
  simp [h, setS]
theorem setI_snoc_out {l : List Int} {x : Int} (h : ¬ (0 ≤ x ∧ x ≤ 63)) : setI (l ++ [x]) = setI l := by
  unfold setI
  rw [List.filter_append, List.map_append, S_append]
  have : ([x].filter fun x => decide (0 ≤ x ∧ x ≤ 63)) = [] := by simp; omega
  rw [this]; simp [setS]
theorem or_new {m t : Nat} (h : m.testBit t = false) : m ||| 2 ^ t = m + 2 ^ t := by
  have hd : m &&& 2 ^ t = 0 := by
    apply Nat.eq_of_testBit_eq
    intro i
    rw [Nat.testBit_and, Nat.testBit_two_pow]
    by_cases hi : t = i
    · subst hi; simp [h]
    · simp [hi]
  have hw : m + 2 ^ t < 2 ^ (m + 2 ^ t) := Nat.lt_two_pow_self
  have l1 : m < 2 ^ (m + 2 ^ t) := Nat.lt_of_le_of_lt (Nat.le_add_right _ _) hw
  have l2 : 2 ^ t < 2 ^ (m + 2 ^ t) := Nat.lt_of_le_of_lt (Nat.le_add_left _ _) hw
  have h1 := BitVec.add_eq_or_of_and_eq_zero (BitVec.ofNat (m + 2 ^ t) m) (BitVec.ofNat (m + 2 ^ t) (2 ^ t)) (by
    apply BitVec.eq_of_toNat_eq
    rw [BitVec.toNat_and, BitVec.toNat_ofNat, BitVec.toNat_ofNat, Nat.mod_eq_of_lt l1, Nat.mod_eq_of_lt l2, hd]
    simp)
  have h2 := congrArg BitVec.toNat h1
  rw [BitVec.toNat_add, BitVec.toNat_or, BitVec.toNat_ofNat, BitVec.toNat_ofNat, Nat.mod_eq_of_lt l1, Nat.mod_eq_of_lt l2, Nat.mod_eq_of_lt hw] at h2
  exact h2.symm
theorem or_old {m t : Nat} (h : m.testBit t = true) : m ||| 2 ^ t = m := by
  apply Nat.eq_of_testBit_eq
  intro i
  rw [Nat.testBit_or, Nat.testBit_two_pow]
  by_cases hi : t = i
  · subst hi; simp [h]
  · simp [hi]
theorem take_snoc {l : List Int} {k : Nat} (h : k < l.length) : l.take (k + 1) = l.take k ++ [l.getD k 0] := by
  rw [List.take_add_one]; simp [List.getD, h]
noncomputable abbrev gRof (own : Bool) (l : List Int) (n : Nat) : Frm := ⟨En, 24, Tryd.f24.ntmps, [.tab own (.int .i64) l], .int .u64 (setI (l.take n)), [.tab own (.int .i64) l]⟩
theorem rof_0 (own : Bool) (l : List Int) (n : Nat) (hn : n ≤ l.length) (hb : n < 9223372036854775807) : ∀ (j k : Nat), k + j = n → Goods (gRof own l n) ⟨.none, lp Tryd.f24 0, [(0, .slice 0 0 n), (3, .int .u64 (setI (l.take k))), (4, .int .i64 k)], hp [.tab own (.int .i64) l]⟩
  | 0, k, h => by
    obtain rfl : k = n := by omega
    refine Goods.fin 2000 [.b false] mixed Tryd.func24 ?_
    show Yes _
    repeat' apply And.intro
    (all_goals first | rfl | assumption | trivial | omega | (simp [-List.getD_eq_getElem?_getD] <;> omega) | (simp (disch := omega) only [w64, wu64] <;> omega) | (simp (disch := omega) [-List.getD_eq_getElem?_getD, List.getD_cons_zero, List.getD_cons_succ, kCast_self, dfl_pair, dfl_int, w64, wu64] <;> omega) | (rw [Bool.eq_iff_iff]; simp (disch := omega) [-List.getD_eq_getElem?_getD, List.getD_cons_zero, List.getD_cons_succ, kCast_self, dfl_pair, dfl_int, w64, wu64] <;> omega) | (simp_all [-List.getD_eq_getElem?_getD] <;> omega))
  | j + 1, k, h => by
    have ih := rof_0 own l n hn hb j (k + 1) (by omega)
    have ht := take_snoc (l := l) (k := k) (by omega)
    obtain ⟨x, hx⟩ : ∃ x, l.getD k 0 = x := ⟨_, rfl⟩
    rw [hx] at ht
    by_cases hin : 0 ≤ x ∧ x ≤ 63
    · obtain ⟨b, rfl⟩ : ∃ b : Nat, x = b := ⟨x.toNat, by omega⟩
      have hs := setI_snoc_in (l := l.take k) hin
      rw [← ht, Int.toNat_natCast] at hs
      have hh := rhas_tri (setI (l.take k)) (setI_lt _) b
      rw [hasN_nat (by omega)] at hh
      have hlt := setI_lt (l.take (k + 1))
      by_cases hbit : (setI (l.take k)).testBit b = true
      · rw [or_old hbit] at hs
        rw [hs] at ih
        have hh := hh.bl hbit
        refine Goods.to 2000 [.b true, .s 15 (some true) true true, .s 21 (some true) true true, .c (.of hh), .l, .stop] mixed (ih) (by kernel_rfl) ?_
        show Yes _
        repeat' apply And.intro
        (all_goals first | rfl | assumption | trivial | omega | (simp [-List.getD_eq_getElem?_getD, hx] <;> omega) | (simp (disch := omega) only [w64, wu64] <;> omega) | (simp (disch := omega) [-List.getD_eq_getElem?_getD, List.getD_cons_zero, List.getD_cons_succ, kCast_self, dfl_pair, dfl_int, w64, wu64, hx] <;> omega) | (rw [Bool.eq_iff_iff]; simp (disch := omega) [-List.getD_eq_getElem?_getD, List.getD_cons_zero, List.getD_cons_succ, kCast_self, dfl_pair, dfl_int, w64, wu64, hx] <;> omega) | (simp_all [-List.getD_eq_getElem?_getD] <;> omega))
      · have hbit : (setI (l.take k)).testBit b = false := by simpa using hbit
        rw [or_new hbit] at hs
        have hp' := power_tri b (by omega)
        have hh := hh.bl hbit
        have e : IntKind.u64.wrap ((setI (l.take k) : Int) + ((2 ^ b : Nat) : Int)) = (setI (l.take (k + 1)) : Int) := by
          rw [hs] at hlt ⊢
          rw [wu64 (by omega) (by omega)]; omega
        refine Goods.to 2000 [.b true, .s 15 (some true) true true, .s 21 (some true) true true, .c (.of hh), .c (.of hp'), .l, .stop] mixed (ih) (by kernel_rfl) ?_
        show Yes _
        repeat' apply And.intro
        (all_goals first | rfl | assumption | trivial | omega | (simp [-List.getD_eq_getElem?_getD, hx] <;> omega) | (simp (disch := omega) only [w64, wu64] <;> omega) | (simp (disch := omega) [-List.getD_eq_getElem?_getD, List.getD_cons_zero, List.getD_cons_succ, kCast_self, dfl_pair, dfl_int, w64, wu64, hx] <;> omega) | (rw [Bool.eq_iff_iff]; simp (disch := omega) [-List.getD_eq_getElem?_getD, List.getD_cons_zero, List.getD_cons_succ, kCast_self, dfl_pair, dfl_int, w64, wu64, hx] <;> omega) | (simp_all [-List.getD_eq_getElem?_getD] <;> omega))
    · have hs := setI_snoc_out (l := l.take k) hin
      rw [← ht] at hs
      rw [hs] at ih
      by_cases h0 : 0 ≤ x
      · refine Goods.to 2000 [.b true, .s 15 (some true) true true, .s 21 (some false) true true, .l, .stop] mixed (ih) (by kernel_rfl) ?_
        show Yes _
        repeat' apply And.intro
        (all_goals first | rfl | assumption | trivial | omega | (simp [-List.getD_eq_getElem?_getD, hx] <;> omega) | (simp (disch := omega) only [w64, wu64] <;> omega) | (simp (disch := omega) [-List.getD_eq_getElem?_getD, List.getD_cons_zero, List.getD_cons_succ, kCast_self, dfl_pair, dfl_int, w64, wu64, hx] <;> omega) | (rw [Bool.eq_iff_iff]; simp (disch := omega) [-List.getD_eq_getElem?_getD, List.getD_cons_zero, List.getD_cons_succ, kCast_self, dfl_pair, dfl_int, w64, wu64, hx] <;> omega) | (simp_all [-List.getD_eq_getElem?_getD] <;> omega))
      · refine Goods.to 2000 [.b true, .s 15 (some false) true true, .l, .stop] mixed (ih) (by kernel_rfl) ?_
        show Yes _
        repeat' apply And.intro
        (all_goals first | rfl | assumption | trivial | omega | (simp [-List.getD_eq_getElem?_getD, hx] <;> omega) | (simp (disch := omega) only [w64, wu64] <;> omega) | (simp (disch := omega) [-List.getD_eq_getElem?_getD, List.getD_cons_zero, List.getD_cons_succ, kCast_self, dfl_pair, dfl_int, w64, wu64, hx] <;> omega) | (rw [Bool.eq_iff_iff]; simp (disch := omega) [-List.getD_eq_getElem?_getD, List.getD_cons_zero, List.getD_cons_succ, kCast_self, dfl_pair, dfl_int, w64, wu64, hx] <;> omega) | (simp_all [-List.getD_eq_getElem?_getD] <;> omega))
theorem rof_tri (own : Bool) (l : List Int) (n : Nat) (hn : n ≤ l.length) (hb : n < 9223372036854775807) : Tri En 24 [.slice 0 0 n] [.tab own (.int .i64) l] (.int .u64 (setI (l.take n))) [.tab own (.int .i64) l] := by
  have ih := rof_0 own l n hn hb n 0 (by omega)
  rw [show setI (l.take 0) = 0 from rfl] at ih
  refine Tri.of Tryd.func24 rfl Tryd.call24 rfl ?_
  refine Goods.to 2000 [.l, .stop] mixed (ih) (by kernel_rfl) ?_
  show Yes _
  repeat' apply And.intro
  (all_goals first | rfl | assumption | trivial | omega | (simp [-List.getD_eq_getElem?_getD] <;> omega) | (simp (disch := omega) only [w64, wu64] <;> omega) | (simp (disch := omega) [-List.getD_eq_getElem?_getD, List.getD_cons_zero, List.getD_cons_succ, kCast_self, dfl_pair, dfl_int, w64, wu64] <;> omega) | (rw [Bool.eq_iff_iff]; simp (disch := omega) [-List.getD_eq_getElem?_getD, List.getD_cons_zero, List.getD_cons_succ, kCast_self, dfl_pair, dfl_int, w64, wu64] <;> omega) | (simp_all [-List.getD_eq_getElem?_getD] <;> omega))
theorem setI_ints {l : List Nat} (h : ∀ i ∈ l, i < 64) : setI (intsL l) = setS l := by
  unfold setI intsL
  have e : (l.map fun i : Nat => (i : Int)).filter (fun x => decide (0 ≤ x ∧ x ≤ 63)) = l.map fun i : Nat => (i : Int) := List.filter_eq_self.2 fun x hx => by
    obtain ⟨i, hi, rfl⟩ := List.mem_map.1 hx
    have := h i hi
    simp; omega
  rw [e, List.map_map]
  have : (Int.toNat ∘ fun i : Nat => (i : Int)) = id := by funext i; simp
  rw [this, List.map_id]
theorem ints_take (l : List Nat) (n : Nat) : (intsL l).take n = intsL (l.take n) := by simp [intsL, List.map_take]
theorem bits_lt {m i : Nat} (h : i ∈ bitsL m) : i < 64 := (mem_bitsL.1 h).1
theorem rleast_tri (m : Nat) (hm : m < 18446744073709551616) (n : Int) : Tri En 19 [.int .u64 m, .int .i64 n] [] (.int .u64 (leastN m n)) [] := by
  have hl := rlist_tri m hm
  have hle := L_le m
  have hil := intsL_len (bitsL m)
  have key : ∀ k : Nat, k ≤ (bitsL m).length → Tri En 24 [.slice 0 0 k] [.tab true (.int .i64) (intsL (bitsL m))] (.int .u64 (setS ((bitsL m).take k))) [.tab true (.int .i64) (intsL (bitsL m))] := by
    intro k hk
    have := rof_tri true (intsL (bitsL m)) k (by omega) (by omega)
    rwa [ints_take, setI_ints fun i hi => bits_lt (List.mem_of_mem_take hi)] at this
  by_cases h0 : n < 0
  · have e : leastN m n = setS ((bitsL m).take 0) := by unfold leastN; rw [show n.toNat = 0 by omega]
    rw [e]
    by_cases h1 : (bitsL m).length = 0
    · have ho := key (bitsL m).length (Nat.le_refl _)
      rw [h1] at ho
      refine Tri.of Tryd.func19 rfl Tryd.call19 rfl ?_
      refine Goods.fin 2000 [.c (.of hl), .b true, .b false, .c (.of ho)] mixed Tryd.func19 ?_
      show Yes _
      repeat' apply And.intro
      (all_goals first | rfl | assumption | trivial | omega | (simp [-List.getD_eq_getElem?_getD] <;> omega) | (simp (disch := omega) only [w64, wu64] <;> omega) | (simp (disch := omega) [-List.getD_eq_getElem?_getD, List.getD_cons_zero, List.getD_cons_succ, kCast_self, dfl_pair, dfl_int, w64, wu64] <;> omega) | (rw [Bool.eq_iff_iff]; simp (disch := omega) [-List.getD_eq_getElem?_getD, List.getD_cons_zero, List.getD_cons_succ, kCast_self, dfl_pair, dfl_int, w64, wu64] <;> omega) | (simp_all [-List.getD_eq_getElem?_getD] <;> omega))
    · have ho := key 0 (by omega)
      refine Tri.of Tryd.func19 rfl Tryd.call19 rfl ?_
      refine Goods.fin 2000 [.c (.of hl), .b true, .b true, .c (.of ho)] mixed Tryd.func19 ?_
      show Yes _
      repeat' apply And.intro
      (all_goals first | rfl | assumption | trivial | omega | (simp [-List.getD_eq_getElem?_getD] <;> omega) | (simp (disch := omega) only [w64, wu64] <;> omega) | (simp (disch := omega) [-List.getD_eq_getElem?_getD, List.getD_cons_zero, List.getD_cons_succ, kCast_self, dfl_pair, dfl_int, w64, wu64] <;> omega) | (rw [Bool.eq_iff_iff]; simp (disch := omega) [-List.getD_eq_getElem?_getD, List.getD_cons_zero, List.getD_cons_succ, kCast_self, dfl_pair, dfl_int, w64, wu64] <;> omega) | (simp_all [-List.getD_eq_getElem?_getD] <;> omega))
  · obtain ⟨b, rfl⟩ : ∃ b : Nat, n = b := ⟨n.toNat, by omega⟩
    have e : leastN m b = setS ((bitsL m).take b) := by unfold leastN; rw [Int.toNat_natCast]
    rw [e]
    by_cases h1 : b < (bitsL m).length
    · have ho := key b (by omega)
      refine Tri.of Tryd.func19 rfl Tryd.call19 rfl ?_
      refine Goods.fin 2000 [.c (.of hl), .b false, .b true, .c (.of ho)] mixed Tryd.func19 ?_
      show Yes _
      repeat' apply And.intro
      (all_goals first | rfl | assumption | trivial | omega | (simp [-List.getD_eq_getElem?_getD] <;> omega) | (simp (disch := omega) only [w64, wu64] <;> omega) | (simp (disch := omega) [-List.getD_eq_getElem?_getD, List.getD_cons_zero, List.getD_cons_succ, kCast_self, dfl_pair, dfl_int, w64, wu64] <;> omega) | (rw [Bool.eq_iff_iff]; simp (disch := omega) [-List.getD_eq_getElem?_getD, List.getD_cons_zero, List.getD_cons_succ, kCast_self, dfl_pair, dfl_int, w64, wu64] <;> omega) | (simp_all [-List.getD_eq_getElem?_getD] <;> omega))
    · have ho := key (bitsL m).length (Nat.le_refl _)
      have et : (bitsL m).take b = bitsL m := List.take_of_length_le (by omega)
      rw [List.take_of_length_le (by omega)] at ho
      rw [et]
      refine Tri.of Tryd.func19 rfl Tryd.call19 rfl ?_
      refine Goods.fin 2000 [.c (.of hl), .b false, .b false, .c (.of ho)] mixed Tryd.func19 ?_
      show Yes _
      repeat' apply And.intro
      (all_goals first | rfl | assumption | trivial | omega | (simp [-List.getD_eq_getElem?_getD] <;> omega) | (simp (disch := omega) only [w64, wu64] <;> omega) | (simp (disch := omega) [-List.getD_eq_getElem?_getD, List.getD_cons_zero, List.getD_cons_succ, kCast_self, dfl_pair, dfl_int, w64, wu64] <;> omega) | (rw [Bool.eq_iff_iff]; simp (disch := omega) [-List.getD_eq_getElem?_getD, List.getD_cons_zero, List.getD_cons_succ, kCast_self, dfl_pair, dfl_int, w64, wu64] <;> omega) | (simp_all [-List.getD_eq_getElem?_getD] <;> omega))
theorem bits_all : bitsL 18446744073709551615 = List.range 64 := by decide +kernel
theorem S_range (n : Nat) : setS (List.range n) = 2 ^ n - 1 := by
  apply Nat.eq_of_testBit_eq
  intro i
  rw [S_bit, Nat.testBit_two_pow_sub_one]
  exact decide_eq_decide.2 List.mem_range
theorem least_all (n : Int) : leastN 18446744073709551615 n = lowN n := by
  unfold leastN lowN
  rw [bits_all, List.take_range, S_range]
theorem rlow_tri (n : Int) : Tri En 21 [.int .i64 n] [] (.int .u64 (lowN n)) [] := by
  have h := rleast_tri 18446744073709551615 (by omega) n
  rw [least_all] at h
  refine Tri.of Tryd.func21 rfl Tryd.call21 rfl ?_
  refine Goods.fin 2000 [.c (.of h)] mixed Tryd.func21 ?_
  show Yes _
  repeat' apply And.intro
  (all_goals first | rfl | assumption | trivial | omega | (simp [-List.getD_eq_getElem?_getD] <;> omega) | (simp (disch := omega) only [w64, wu64] <;> omega) | (simp (disch := omega) [-List.getD_eq_getElem?_getD, List.getD_cons_zero, List.getD_cons_succ, kCast_self, dfl_pair, dfl_int, w64, wu64] <;> omega) | (rw [Bool.eq_iff_iff]; simp (disch := omega) [-List.getD_eq_getElem?_getD, List.getD_cons_zero, List.getD_cons_succ, kCast_self, dfl_pair, dfl_int, w64, wu64] <;> omega) | (simp_all [-List.getD_eq_getElem?_getD] <;> omega))
noncomputable abbrev gRrun (v : Int) : Frm := ⟨En, 17, Tryd.f17.ntmps, [], .int .i64 v, []⟩
/-- So many numbers in a row lie right ahead of i, and not one more. -/
structure RowEnd (m r i : Nat) : Prop where
  le : r ≤ i
  all : ∀ k, k < r → m.testBit (i - r + k) = true
  max : r = i ∨ m.testBit (i - r - 1) = false
theorem rrun_y (m n x : Nat) (hm : m < 18446744073709551616) (hn1 : 1 ≤ n) (hn : x + n ≤ 64) (hr : runOk m n x) (hf : ∀ j, j < x → ¬ runOk m n j) : ∀ (j i r : Nat), i + j = x + n → 1 ≤ j → RowEnd m r i → r < n → Goods (gRrun x) ⟨.none, lp Tryd.f17 0, [(0, .int .u64 m), (1, .int .i64 n), (5, .int .i64 r), (6, .int .i64 i)], hp []⟩
  | 0, i, r, h, h1, hR, hrn => by omega
  | j + 1, i, r, h, h1, hR, hrn => by
    have hh := rhas_tri m hm i
    rw [hasN_nat (by omega)] at hh
    by_cases hb : m.testBit i = true
    · have hR' : RowEnd m (r + 1) (i + 1) := by
        obtain ⟨a, b, c⟩ := hR
        refine ⟨by omega, fun k hk => ?_, ?_⟩
        · by_cases hkr : k < r
          · have := b k hkr; rwa [show i + 1 - (r + 1) + k = i - r + k by omega]
          · rwa [show i + 1 - (r + 1) + k = i by omega]
        · rcases c with c | c
          · left; omega
          · right; rwa [show i + 1 - (r + 1) - 1 = i - r - 1 by omega]
      by_cases hend : r + 1 = n
      · have hx : x = i + 1 - n := by
          apply Classical.byContradiction
          intro hne
          refine hf (i + 1 - n) (by omega) fun k hk => ?_
          have := hR'.all k (by omega)
          rwa [show i + 1 - (r + 1) + k = i + 1 - n + k by omega] at this
        have hle := hR.le
        have e : IntKind.i64.wrap (IntKind.i64.wrap ((i : Int) - n) + 1) = (x : Int) := by
          rw [w64 (x := (i : Int) - n) (by omega) (by omega), w64 (by omega) (by omega)]; omega
        refine Goods.fin 2000 [.b true, .c (.of hh), .b true, .b true] mixed Tryd.func17 ?_
        show Yes _
        repeat' apply And.intro
        (all_goals first | rfl | assumption | trivial | omega | (simp [-List.getD_eq_getElem?_getD, e] <;> omega) | (simp (disch := omega) only [w64, wu64] <;> omega) | (simp (disch := omega) [-List.getD_eq_getElem?_getD, List.getD_cons_zero, List.getD_cons_succ, kCast_self, dfl_pair, dfl_int, w64, wu64, e] <;> omega) | (rw [Bool.eq_iff_iff]; simp (disch := omega) [-List.getD_eq_getElem?_getD, List.getD_cons_zero, List.getD_cons_succ, kCast_self, dfl_pair, dfl_int, w64, wu64, e] <;> omega) | (simp_all [-List.getD_eq_getElem?_getD] <;> omega))
      · have hj : j ≠ 0 := by
          rintro rfl
          have := hR'.max
          rcases this with h2 | h2
          · omega
          · by_cases hx : x ≤ i + 1 - (r + 1) - 1
            · have := hr (i + 1 - (r + 1) - 1 - x) (by omega)
              rw [show x + (i + 1 - (r + 1) - 1 - x) = i + 1 - (r + 1) - 1 by omega, h2] at this
              cases this
            · omega
        have ih := rrun_y m n x hm hn1 hn hr hf j (i + 1) (r + 1) (by omega) (by omega) hR' (by omega)
        refine Goods.to 2000 [.b true, .c (.of hh), .b true, .b false, .l, .stop] mixed (ih) (by kernel_rfl) ?_
        show Yes _
        repeat' apply And.intro
        (all_goals first | rfl | assumption | trivial | omega | (simp [-List.getD_eq_getElem?_getD] <;> omega) | (simp (disch := omega) only [w64, wu64] <;> omega) | (simp (disch := omega) [-List.getD_eq_getElem?_getD, List.getD_cons_zero, List.getD_cons_succ, kCast_self, dfl_pair, dfl_int, w64, wu64] <;> omega) | (rw [Bool.eq_iff_iff]; simp (disch := omega) [-List.getD_eq_getElem?_getD, List.getD_cons_zero, List.getD_cons_succ, kCast_self, dfl_pair, dfl_int, w64, wu64] <;> omega) | (simp_all [-List.getD_eq_getElem?_getD] <;> omega))
    · have hb : m.testBit i = false := by simpa using hb
      have hR' : RowEnd m 0 (i + 1) := ⟨by omega, fun k hk => by omega, by right; rwa [show i + 1 - 0 - 1 = i by omega]⟩
      have hj : j ≠ 0 := by
        rintro rfl
        have := hr (i - x) (by omega)
        rw [show x + (i - x) = i by omega, hb] at this
        cases this
      have ih := rrun_y m n x hm hn1 hn hr hf j (i + 1) 0 (by omega) (by omega) hR' (by omega)
      refine Goods.to 2000 [.b true, .c (.of hh), .b false, .b false, .l, .stop] mixed (ih) (by kernel_rfl) ?_
      show Yes _
      repeat' apply And.intro
      (all_goals first | rfl | assumption | trivial | omega | (simp [-List.getD_eq_getElem?_getD] <;> omega) | (simp (disch := omega) only [w64, wu64] <;> omega) | (simp (disch := omega) [-List.getD_eq_getElem?_getD, List.getD_cons_zero, List.getD_cons_succ, kCast_self, dfl_pair, dfl_int, w64, wu64] <;> omega) | (rw [Bool.eq_iff_iff]; simp (disch := omega) [-List.getD_eq_getElem?_getD, List.getD_cons_zero, List.getD_cons_succ, kCast_self, dfl_pair, dfl_int, w64, wu64] <;> omega) | (simp_all [-List.getD_eq_getElem?_getD] <;> omega))
theorem rrun_n (m : Nat) (n : Int) (hm : m < 18446744073709551616) (hn1 : 1 ≤ n) (hnb : n ≤ 9223372036854775807) (hf : ∀ j, j + n.toNat ≤ 64 → ¬ runOk m n.toNat j) : ∀ (j i r : Nat), i + j = 64 → RowEnd m r i → (r : Int) < n → Goods (gRrun (-1)) ⟨.none, lp Tryd.f17 0, [(0, .int .u64 m), (1, .int .i64 n), (5, .int .i64 r), (6, .int .i64 i)], hp []⟩
  | 0, i, r, h, hR, hrn => by
    refine Goods.fin 2000 [.b false] mixed Tryd.func17 ?_
    show Yes _
    repeat' apply And.intro
    (all_goals first | rfl | assumption | trivial | omega | (simp [-List.getD_eq_getElem?_getD] <;> omega) | (simp (disch := omega) only [w64, wu64] <;> omega) | (simp (disch := omega) [-List.getD_eq_getElem?_getD, List.getD_cons_zero, List.getD_cons_succ, kCast_self, dfl_pair, dfl_int, w64, wu64] <;> omega) | (rw [Bool.eq_iff_iff]; simp (disch := omega) [-List.getD_eq_getElem?_getD, List.getD_cons_zero, List.getD_cons_succ, kCast_self, dfl_pair, dfl_int, w64, wu64] <;> omega) | (simp_all [-List.getD_eq_getElem?_getD] <;> omega))
  | j + 1, i, r, h, hR, hrn => by
    have hh := rhas_tri m hm i
    rw [hasN_nat (by omega)] at hh
    by_cases hb : m.testBit i = true
    · have hR' : RowEnd m (r + 1) (i + 1) := by
        obtain ⟨a, b, c⟩ := hR
        refine ⟨by omega, fun k hk => ?_, ?_⟩
        · by_cases hkr : k < r
          · have := b k hkr; rwa [show i + 1 - (r + 1) + k = i - r + k by omega]
          · rwa [show i + 1 - (r + 1) + k = i by omega]
        · rcases c with c | c
          · left; omega
          · right; rwa [show i + 1 - (r + 1) - 1 = i - r - 1 by omega]
      have hne : ((r + 1 : Nat) : Int) ≠ n := by
        intro he
        refine hf (i + 1 - (r + 1)) (by have := hR'.le; omega) fun k hk => hR'.all k (by omega)
      have ih := rrun_n m n hm hn1 hnb hf j (i + 1) (r + 1) (by omega) hR' (by omega)
      have hle := hR.le
      refine Goods.to 2000 [.b true, .c (.of hh), .b true, .b false, .l, .stop] mixed (ih) (by kernel_rfl) ?_
      show Yes _
      repeat' apply And.intro
      (all_goals first | rfl | assumption | trivial | omega | (simp [-List.getD_eq_getElem?_getD] <;> omega) | (simp (disch := omega) only [w64, wu64] <;> omega) | (simp (disch := omega) [-List.getD_eq_getElem?_getD, List.getD_cons_zero, List.getD_cons_succ, kCast_self, dfl_pair, dfl_int, w64, wu64] <;> omega) | (rw [Bool.eq_iff_iff]; simp (disch := omega) [-List.getD_eq_getElem?_getD, List.getD_cons_zero, List.getD_cons_succ, kCast_self, dfl_pair, dfl_int, w64, wu64] <;> omega) | (simp_all [-List.getD_eq_getElem?_getD] <;> omega))
    · have hb : m.testBit i = false := by simpa using hb
      have hR' : RowEnd m 0 (i + 1) := ⟨by omega, fun k hk => by omega, by right; rwa [show i + 1 - 0 - 1 = i by omega]⟩
      have ih := rrun_n m n hm hn1 hnb hf j (i + 1) 0 (by omega) hR' (by omega)
      refine Goods.to 2000 [.b true, .c (.of hh), .b false, .b false, .l, .stop] mixed (ih) (by kernel_rfl) ?_
      show Yes _
      repeat' apply And.intro
      (all_goals first | rfl | assumption | trivial | omega | (simp [-List.getD_eq_getElem?_getD] <;> omega) | (simp (disch := omega) only [w64, wu64] <;> omega) | (simp (disch := omega) [-List.getD_eq_getElem?_getD, List.getD_cons_zero, List.getD_cons_succ, kCast_self, dfl_pair, dfl_int, w64, wu64] <;> omega) | (rw [Bool.eq_iff_iff]; simp (disch := omega) [-List.getD_eq_getElem?_getD, List.getD_cons_zero, List.getD_cons_succ, kCast_self, dfl_pair, dfl_int, w64, wu64] <;> omega) | (simp_all [-List.getD_eq_getElem?_getD] <;> omega))
theorem rrun_yes (m n x : Nat) (hm : m < 18446744073709551616) (hn1 : 1 ≤ n) (hn : x + n ≤ 64) (hr : runOk m n x) (hf : ∀ j, j < x → ¬ runOk m n j) : Tri En 17 [.int .u64 m, .int .i64 n] [] (.int .i64 x) [] := by
  have ih := rrun_y m n x hm hn1 hn hr hf (x + n) 0 0 (by omega) (by omega) ⟨by omega, fun k hk => by omega, .inl rfl⟩ (by omega)
  refine Tri.of Tryd.func17 rfl Tryd.call17 rfl ?_
  refine Goods.to 2000 [.b false, .l, .stop] mixed (ih) (by kernel_rfl) ?_
  show Yes _
  repeat' apply And.intro
  (all_goals first | rfl | assumption | trivial | omega | (simp [-List.getD_eq_getElem?_getD] <;> omega) | (simp (disch := omega) only [w64, wu64] <;> omega) | (simp (disch := omega) [-List.getD_eq_getElem?_getD, List.getD_cons_zero, List.getD_cons_succ, kCast_self, dfl_pair, dfl_int, w64, wu64] <;> omega) | (rw [Bool.eq_iff_iff]; simp (disch := omega) [-List.getD_eq_getElem?_getD, List.getD_cons_zero, List.getD_cons_succ, kCast_self, dfl_pair, dfl_int, w64, wu64] <;> omega) | (simp_all [-List.getD_eq_getElem?_getD] <;> omega))
theorem rrun_no (m : Nat) (hm : m < 18446744073709551616) (n : Int) (hnb : n ≤ 9223372036854775807) (hf : 1 ≤ n → ∀ j, j + n.toNat ≤ 64 → ¬ runOk m n.toNat j) : Tri En 17 [.int .u64 m, .int .i64 n] [] (.int .i64 (-1)) [] := by
  refine Tri.of Tryd.func17 rfl Tryd.call17 rfl ?_
  by_cases h1 : 1 ≤ n
  · have ih := rrun_n m n hm h1 hnb (hf h1) 64 0 0 (by omega) ⟨by omega, fun k hk => by omega, .inl rfl⟩ (by omega)
    refine Goods.to 2000 [.b false, .l, .stop] mixed (ih) (by kernel_rfl) ?_
    show Yes _
    repeat' apply And.intro
    (all_goals first | rfl | assumption | trivial | omega | (simp [-List.getD_eq_getElem?_getD] <;> omega) | (simp (disch := omega) only [w64, wu64] <;> omega) | (simp (disch := omega) [-List.getD_eq_getElem?_getD, List.getD_cons_zero, List.getD_cons_succ, kCast_self, dfl_pair, dfl_int, w64, wu64] <;> omega) | (rw [Bool.eq_iff_iff]; simp (disch := omega) [-List.getD_eq_getElem?_getD, List.getD_cons_zero, List.getD_cons_succ, kCast_self, dfl_pair, dfl_int, w64, wu64] <;> omega) | (simp_all [-List.getD_eq_getElem?_getD] <;> omega))
  · refine Goods.fin 2000 [.b true] mixed Tryd.func17 ?_
    show Yes _
    repeat' apply And.intro
    (all_goals first | rfl | assumption | trivial | omega | (simp [-List.getD_eq_getElem?_getD] <;> omega) | (simp (disch := omega) only [w64, wu64] <;> omega) | (simp (disch := omega) [-List.getD_eq_getElem?_getD, List.getD_cons_zero, List.getD_cons_succ, kCast_self, dfl_pair, dfl_int, w64, wu64] <;> omega) | (rw [Bool.eq_iff_iff]; simp (disch := omega) [-List.getD_eq_getElem?_getD, List.getD_cons_zero, List.getD_cons_succ, kCast_self, dfl_pair, dfl_int, w64, wu64] <;> omega) | (simp_all [-List.getD_eq_getElem?_getD] <;> omega))
/-- The first row of so many, if there is one. -/
theorem run_cases (m n : Nat) : (∃ i, i + n ≤ 64 ∧ runOk m n i ∧ ∀ j, j < i → ¬ runOk m n j) ∨ ∀ j, j + n ≤ 64 → ¬ runOk m n j := by
  by_cases h : ∃ j, j + n ≤ 64 ∧ runOk m n j
  · left
    obtain ⟨j, h1, h2⟩ := h
    have key : ∀ k, (∃ i, i ≤ k ∧ i + n ≤ 64 ∧ runOk m n i) → ∃ i, i + n ≤ 64 ∧ runOk m n i ∧ ∀ j, j < i → ¬ runOk m n j := by
      intro k
      induction k with
      | zero => rintro ⟨i, h3, h4, h5⟩; exact ⟨i, h4, h5, fun j hj => by omega⟩
      | succ k ih =>
        rintro ⟨i, h3, h4, h5⟩
        by_cases h6 : ∃ i', i' ≤ k ∧ i' + n ≤ 64 ∧ runOk m n i'
        · exact ih h6
        · refine ⟨i, h4, h5, fun j hj h7 => h6 ⟨j, by omega, by omega, h7⟩⟩
    exact key j ⟨j, Nat.le_refl _, h1, h2⟩
  · right
    intro j h1 h2
    exact h ⟨j, h1, h2⟩
end Go.Proofs.YtlefadhnmfapgaaDoor.E
