/- Package live: the table of what is live. -/
import Derived.Test.YtcicfbccdgkfhaaDoorPlive
namespace Go.Proofs.YtcicfbccdgkfhaaDoor.E
set_option linter.unusedSimpArgs false
set_option linter.unusedVariables false
open Go
set_option maxRecDepth 100000

theorem high_bit {n b i : Nat} (hn : n < 2 ^ b) (hi : b ≤ i) : n.testBit i = false := Nat.testBit_lt_two_pow (Nat.lt_of_lt_of_le hn (Nat.pow_le_pow_right (by omega) hi))
def pairN (k n : Nat) : Nat := putN (putN 0 k 0 8) n 8 16
theorem pair_get (k n : Nat) (hk : k < 256) (hn : n < 65536) : getN (pairN k n) 0 8 = k ∧ getN (pairN k n) 8 16 = n := by
  refine ⟨?_, ?_⟩ <;> (apply Nat.eq_of_testBit_eq; intro i; rw [getN_bit, pairN])
  · by_cases hi : i < 8
    · rw [putN_bit _ _ _ _ _ (by omega) hn, if_neg (by omega), putN_bit _ _ _ _ _ (by omega) hk, if_pos (by omega)]; simp [hi]
    · rw [high_bit (b := 8) hk (by omega)]; simp [hi]
  · by_cases hi : i < 16
    · rw [putN_bit _ _ _ _ _ (by omega) hn, if_pos (by omega), Nat.add_sub_cancel_left]; simp [hi]
    · rw [high_bit (b := 16) hn (by omega)]; simp [hi]
theorem pair_lt (k n : Nat) : pairN k n < 18446744073709551616 := putN_lt ..
/-- A thing's word. What a word says. -/
def codeN (x : ThT) : Nat := if 0 < x.2 then pairN 2 x.2.toNat else pairN 1 x.1.toNat
theorem code_lt (x : ThT) : codeN x < 18446744073709551616 := by unfold codeN; split <;> exact pair_lt ..
def thIs (w : Nat) : Bool := decide (getN w 0 8 = 1) || decide (getN w 0 8 = 2)
def thOf (w : Nat) : ThT := if getN w 0 8 = 1 then ((getN w 8 16 : Nat), 0) else if getN w 0 8 = 2 then (-1, (getN w 8 16 : Nat)) else (0, 0)
theorem code_of {c : Cnf} (hc : c.Ok) {x : ThT} (h : thOk c x) : thIs (codeN x) = true ∧ thOf (codeN x) = x := by
  have l1 := hc.l1
  have s1 := hc.s1
  obtain ⟨p, q⟩ := x
  unfold thIs thOf codeN
  rcases h with ⟨h1, h2, h3⟩ | ⟨h1, h2, h3⟩
  · simp only at h1 h2 h3 ⊢
    subst h3
    rw [if_neg (by omega)]
    obtain ⟨e1, e2⟩ := pair_get 1 p.toNat (by omega) (by omega)
    rw [e1, e2]
    simp; omega
  · simp only at h1 h2 h3 ⊢
    subst h1
    rw [if_pos (by omega)]
    obtain ⟨e1, e2⟩ := pair_get 2 q.toNat (by omega) (by omega)
    rw [e1, e2]
    simp; omega
theorem get_zero (a b : Nat) : getN 0 a b = 0 := by simp [getN]
theorem th_zero : thIs 0 = false ∧ thOf 0 = (0, 0) := by
  unfold thIs thOf
  rw [get_zero, get_zero]
  exact ⟨rfl, rfl⟩
theorem k0 : FldOk ((0 : Nat) : Int) ((8 : Nat) : Int) := ⟨by omega, by omega, by omega, by omega⟩
theorem k1 : FldOk ((8 : Nat) : Int) ((16 : Nat) : Int) := ⟨by omega, by omega, by omega, by omega⟩
set_option maxHeartbeats 1000000 in
theorem code_tri (c : Cnf) (hc : c.Ok) (x : ThT) (h : thOk c x) : Tri En 59 [thA x] [] (.int .u64 (codeN x)) [] := by
  have l1 := hc.l1
  have s1 := hc.s1
  obtain ⟨p, q⟩ := x
  unfold codeN
  rcases h with ⟨h1, h2, h3⟩ | ⟨h1, h2, h3⟩
  · simp only at h1 h2 h3 ⊢
    subst h3
    rw [if_neg (by omega)]
    obtain ⟨i, rfl⟩ : ∃ i : Nat, p = i := ⟨p.toNat, by omega⟩
    rw [Int.toNat_natCast]
    have p0 := put_yes 0 1 0 8 (by omega) k0 (by decide)
    have p1 := put_yes (putN 0 1 0 8) i 8 16 (putN_lt ..) k1 (by show i < 65536; omega)
    have e : putN (putN 0 1 0 8) i 8 16 = pairN 1 i := rfl
    rw [e] at p1
    generalize pairN 1 i = z at p1
    generalize putN 0 1 0 8 = y at p0 p1
    refine Tri.of Tryd.func59 rfl Tryd.call59 rfl ?_
    refine Goods.fin 2000 [.b false, .c (.of p0), .c (.of p1)] mixed Tryd.func59 ?_
    show Yes _
    repeat' apply And.intro
    (all_goals first | rfl | assumption | trivial | omega | (simp [-List.getD_eq_getElem?_getD] <;> omega) | (simp (disch := omega) only [w64, wu64] <;> omega) | (simp (disch := omega) [-List.getD_eq_getElem?_getD, List.getD_cons_zero, List.getD_cons_succ, kCast_self, dfl_pair, dfl_int, w64, wu64] <;> omega) | (rw [Bool.eq_iff_iff]; simp (disch := omega) [-List.getD_eq_getElem?_getD, List.getD_cons_zero, List.getD_cons_succ, kCast_self, dfl_pair, dfl_int, w64, wu64] <;> omega) | (simp_all [-List.getD_eq_getElem?_getD] <;> omega))
  · simp only at h1 h2 h3 ⊢
    subst h1
    rw [if_pos (by omega)]
    obtain ⟨i, rfl⟩ : ∃ i : Nat, q = i := ⟨q.toNat, by omega⟩
    rw [Int.toNat_natCast]
    have p0 := put_yes 0 2 0 8 (by omega) k0 (by decide)
    have p1 := put_yes (putN 0 2 0 8) i 8 16 (putN_lt ..) k1 (by show i < 65536; omega)
    have e : putN (putN 0 2 0 8) i 8 16 = pairN 2 i := rfl
    rw [e] at p1
    generalize pairN 2 i = z at p1
    generalize putN 0 2 0 8 = y at p0 p1
    refine Tri.of Tryd.func59 rfl Tryd.call59 rfl ?_
    refine Goods.fin 2000 [.b true, .c (.of p0), .c (.of p1)] mixed Tryd.func59 ?_
    show Yes _
    repeat' apply And.intro
    (all_goals first | rfl | assumption | trivial | omega | (simp [-List.getD_eq_getElem?_getD] <;> omega) | (simp (disch := omega) only [w64, wu64] <;> omega) | (simp (disch := omega) [-List.getD_eq_getElem?_getD, List.getD_cons_zero, List.getD_cons_succ, kCast_self, dfl_pair, dfl_int, w64, wu64] <;> omega) | (rw [Bool.eq_iff_iff]; simp (disch := omega) [-List.getD_eq_getElem?_getD, List.getD_cons_zero, List.getD_cons_succ, kCast_self, dfl_pair, dfl_int, w64, wu64] <;> omega) | (simp_all [-List.getD_eq_getElem?_getD] <;> omega))
theorem thing_tri (w : Nat) (hw : w < 18446744073709551616) : Tri En 65 [.int .u64 w] [] (.tuple [thA (thOf w), .bool (thIs w)]) [] := by
  have g0 := get_yes w 0 8 hw k0
  have g1 := get_yes w 8 16 hw k1
  have l0 : getN w 0 8 < 256 := getN_lt w 0 (b := 8)
  have l1 : getN w 8 16 < 65536 := getN_lt w 8 (b := 16)
  unfold thOf thIs
  generalize getN w 0 8 = k at *
  generalize getN w 8 16 = n at *
  by_cases h1 : k = 1
  · subst h1
    refine Tri.of Tryd.func65 rfl Tryd.call65 rfl ?_
    refine Goods.fin 2000 [.c (.of g1), .c (.of g0), .b true, .c (.of (live_of n))] mixed Tryd.func65 ?_
    show Yes _
    repeat' apply And.intro
    (all_goals first | rfl | assumption | trivial | omega | (simp [-List.getD_eq_getElem?_getD] <;> omega) | (simp (disch := omega) only [w64, wu64] <;> omega) | (simp (disch := omega) [-List.getD_eq_getElem?_getD, List.getD_cons_zero, List.getD_cons_succ, kCast_self, dfl_pair, dfl_int, w64, wu64] <;> omega) | (rw [Bool.eq_iff_iff]; simp (disch := omega) [-List.getD_eq_getElem?_getD, List.getD_cons_zero, List.getD_cons_succ, kCast_self, dfl_pair, dfl_int, w64, wu64] <;> omega) | (simp_all [-List.getD_eq_getElem?_getD] <;> omega))
  · by_cases h2 : k = 2
    · subst h2
      refine Tri.of Tryd.func65 rfl Tryd.call65 rfl ?_
      refine Goods.fin 2000 [.c (.of g1), .c (.of g0), .b false, .b true, .c (.of (live_run n))] mixed Tryd.func65 ?_
      show Yes _
      repeat' apply And.intro
      (all_goals first | rfl | assumption | trivial | omega | (simp [-List.getD_eq_getElem?_getD] <;> omega) | (simp (disch := omega) only [w64, wu64] <;> omega) | (simp (disch := omega) [-List.getD_eq_getElem?_getD, List.getD_cons_zero, List.getD_cons_succ, kCast_self, dfl_pair, dfl_int, w64, wu64] <;> omega) | (rw [Bool.eq_iff_iff]; simp (disch := omega) [-List.getD_eq_getElem?_getD, List.getD_cons_zero, List.getD_cons_succ, kCast_self, dfl_pair, dfl_int, w64, wu64] <;> omega) | (simp_all [-List.getD_eq_getElem?_getD] <;> omega))
    · rw [if_neg h1, if_neg h2]
      refine Tri.of Tryd.func65 rfl Tryd.call65 rfl ?_
      refine Goods.fin 2000 [.c (.of g1), .c (.of g0), .b false, .b false] mixed Tryd.func65 ?_
      show Yes _
      repeat' apply And.intro
      (all_goals first | rfl | assumption | trivial | omega | (simp [-List.getD_eq_getElem?_getD, h1, h2] <;> omega) | (simp (disch := omega) only [w64, wu64] <;> omega) | (simp (disch := omega) [-List.getD_eq_getElem?_getD, List.getD_cons_zero, List.getD_cons_succ, kCast_self, dfl_pair, dfl_int, w64, wu64, h1, h2] <;> omega) | (rw [Bool.eq_iff_iff]; simp (disch := omega) [-List.getD_eq_getElem?_getD, List.getD_cons_zero, List.getD_cons_succ, kCast_self, dfl_pair, dfl_int, w64, wu64, h1, h2] <;> omega) | (simp_all [-List.getD_eq_getElem?_getD] <;> omega))
end Go.Proofs.YtcicfbccdgkfhaaDoor.E
