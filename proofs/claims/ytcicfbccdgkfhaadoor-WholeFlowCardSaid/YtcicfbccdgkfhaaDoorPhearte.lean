/- Package heart: take, give. -/
import Derived.Test.YtcicfbccdgkfhaaDoorPheartd
namespace Go.Proofs.YtcicfbccdgkfhaaDoor.E
set_option linter.unusedSimpArgs false
set_option linter.unusedVariables false
open Go
set_option maxRecDepth 100000

/-- The superblocks that are free, as a set. -/
def freeM (f : SupF) : Nat → Nat
  | 0 => 0
  | k + 1 => if (f k).1 = 0 then withN (freeM f k) k else freeM f k
theorem freeM_lt (f : SupF) : ∀ k, freeM f k < 18446744073709551616
  | 0 => by show (0 : Nat) < _; omega
  | k + 1 => by
    simp only [freeM]
    split
    · exact withN_lt (freeM_lt f k) _
    · exact freeM_lt f k
theorem freeM_bit (f : SupF) : ∀ k, k ≤ 64 → ∀ i, (freeM f k).testBit i = decide (i < k ∧ (f i).1 = 0)
  | 0, _, i => by simp [freeM]
  | k + 1, hk, i => by
    have ih := freeM_bit f k (by omega) i
    simp only [freeM]
    by_cases h : (f k).1 = 0
    · rw [if_pos h]
      unfold withN
      rw [if_pos (by omega), Int.toNat_natCast, Nat.testBit_or, ih, Nat.testBit_two_pow]
      by_cases e : k = i
      · subst e; simp [h]
      · simp only [e, decide_false, Bool.or_false]
        exact decide_eq_decide.2 ⟨fun ⟨a, b⟩ => ⟨by omega, b⟩, fun ⟨a, b⟩ => ⟨by omega, b⟩⟩
    · rw [if_neg h, ih]
      refine decide_eq_decide.2 ⟨fun ⟨a, b⟩ => ⟨by omega, b⟩, fun ⟨a, b⟩ => ⟨?_, b⟩⟩
      by_cases e : i = k
      · subst e; exact absurd b h
      · omega
/-- So many in a row are free. -/
def rowP (n : Nat) (f : SupF) (q i : Nat) : Prop := i + q ≤ n ∧ ∀ k, k < q → (f (i + k)).1 = 0
theorem run_row {n : Nat} (hn : n ≤ 64) (f : SupF) {q : Nat} (hq : 1 ≤ q) (i : Nat) : runOk (freeM f n) q i ↔ rowP n f q i := by
  constructor
  · intro h
    have hk : ∀ k, k < q → i + k < n ∧ (f (i + k)).1 = 0 := fun k hk => by
      have := h k hk
      rw [freeM_bit f n hn] at this
      exact of_decide_eq_true this
    refine ⟨?_, fun k h => (hk k h).2⟩
    have := (hk (q - 1) (by omega)).1
    omega
  · rintro ⟨h1, h2⟩ k hk
    rw [freeM_bit f n hn]
    exact decide_eq_true ⟨by omega, h2 k hk⟩
noncomputable abbrev gTk (own : Bool) (c : Cnf) (n : Nat) (f f' : SupF) (v : AV) : Frm := ⟨En, 72, Tryd.f72.ntmps, [.tab own (.int .i64) c.cl, .tab true (.int .u64) (hW n f)], v, [.tab own (.int .i64) c.cl, .tab true (.int .u64) (hW n f')]⟩
noncomputable abbrev tkSt (own : Bool) (c : Cnf) (n : Nat) (f : SupF) (q k m : Nat) : Cfg := ⟨.none, lp Tryd.f72 0, [(1, .slice 1 0 (2 * n)), (2, .int .i64 q), (6, .ptr 2 0 0), (7, .int .u64 m), (16, .int .i64 n), (17, .int .i64 k)], hp [.tab own (.int .i64) c.cl, .tab true (.int .u64) (hW n f), .cells [.int .u64 0, .int .u64 0]]⟩
theorem tk_0 (own : Bool) (c : Cnf) (n : Nat) (hn : n ≤ 64) (f f' : SupF) (v : AV) (q k m : Nat) (hk : k < n) (hm : m < 18446744073709551616) (hat : TAt true n f k supA0 true) (ih : Goods (gTk own c n f f' v) (tkSt own c n f q (k + 1) (withN m k))) : Goods (gTk own c n f f' v) (tkSt own c n f q k m) := by
  have hl := hW_len n f
  have hw := with_tri m hm k
  generalize withN m k = m2 at *
  refine Goods.to 2000 [.b true, .c (.of hat), .c (.of hw), .l, .stop] mixed (ih) (by kernel_rfl) ?_
  show Yes _
  repeat' apply And.intro
  (all_goals first | rfl | assumption | trivial | omega | (simp [-List.getD_eq_getElem?_getD] <;> omega) | (simp (disch := omega) only [w64, wu64] <;> omega) | (simp (disch := omega) [-List.getD_eq_getElem?_getD, List.getD_cons_zero, List.getD_cons_succ, kCast_self, dfl_pair, dfl_int, w64, wu64] <;> omega) | (rw [Bool.eq_iff_iff]; simp (disch := omega) [-List.getD_eq_getElem?_getD, List.getD_cons_zero, List.getD_cons_succ, kCast_self, dfl_pair, dfl_int, w64, wu64] <;> omega) | (simp_all [-List.getD_eq_getElem?_getD] <;> omega))
theorem tk_1 (own : Bool) (c : Cnf) (n : Nat) (hn : n ≤ 64) (f f' : SupF) (v : AV) (q k m a b : Nat) (hk : k < n) (hat : TAt true n f k (supA1 a b) true) (ih : Goods (gTk own c n f f' v) (tkSt own c n f q (k + 1) m)) : Goods (gTk own c n f f' v) (tkSt own c n f q k m) := by
  have hl := hW_len n f
  refine Goods.to 2000 [.b true, .c (.of hat), .l, .stop] mixed (ih) (by kernel_rfl) ?_
  show Yes _
  repeat' apply And.intro
  (all_goals first | rfl | assumption | trivial | omega | (simp [-List.getD_eq_getElem?_getD] <;> omega) | (simp (disch := omega) only [w64, wu64] <;> omega) | (simp (disch := omega) [-List.getD_eq_getElem?_getD, List.getD_cons_zero, List.getD_cons_succ, kCast_self, dfl_pair, dfl_int, w64, wu64] <;> omega) | (rw [Bool.eq_iff_iff]; simp (disch := omega) [-List.getD_eq_getElem?_getD, List.getD_cons_zero, List.getD_cons_succ, kCast_self, dfl_pair, dfl_int, w64, wu64] <;> omega) | (simp_all [-List.getD_eq_getElem?_getD] <;> omega))
theorem tk_2 (own : Bool) (c : Cnf) (n : Nat) (hn : n ≤ 64) (f f' : SupF) (v : AV) (q k m a b : Nat) (hk : k < n) (hat : TAt true n f k (supA2 a) true) (ih : Goods (gTk own c n f f' v) (tkSt own c n f q (k + 1) m)) : Goods (gTk own c n f f' v) (tkSt own c n f q k m) := by
  have hl := hW_len n f
  refine Goods.to 2000 [.b true, .c (.of hat), .l, .stop] mixed (ih) (by kernel_rfl) ?_
  show Yes _
  repeat' apply And.intro
  (all_goals first | rfl | assumption | trivial | omega | (simp [-List.getD_eq_getElem?_getD] <;> omega) | (simp (disch := omega) only [w64, wu64] <;> omega) | (simp (disch := omega) [-List.getD_eq_getElem?_getD, List.getD_cons_zero, List.getD_cons_succ, kCast_self, dfl_pair, dfl_int, w64, wu64] <;> omega) | (rw [Bool.eq_iff_iff]; simp (disch := omega) [-List.getD_eq_getElem?_getD, List.getD_cons_zero, List.getD_cons_succ, kCast_self, dfl_pair, dfl_int, w64, wu64] <;> omega) | (simp_all [-List.getD_eq_getElem?_getD] <;> omega))
theorem tk_3 (own : Bool) (c : Cnf) (n : Nat) (hn : n ≤ 64) (f f' : SupF) (v : AV) (q k m a b : Nat) (hk : k < n) (hat : TAt true n f k supA3 true) (ih : Goods (gTk own c n f f' v) (tkSt own c n f q (k + 1) m)) : Goods (gTk own c n f f' v) (tkSt own c n f q k m) := by
  have hl := hW_len n f
  refine Goods.to 2000 [.b true, .c (.of hat), .l, .stop] mixed (ih) (by kernel_rfl) ?_
  show Yes _
  repeat' apply And.intro
  (all_goals first | rfl | assumption | trivial | omega | (simp [-List.getD_eq_getElem?_getD] <;> omega) | (simp (disch := omega) only [w64, wu64] <;> omega) | (simp (disch := omega) [-List.getD_eq_getElem?_getD, List.getD_cons_zero, List.getD_cons_succ, kCast_self, dfl_pair, dfl_int, w64, wu64] <;> omega) | (rw [Bool.eq_iff_iff]; simp (disch := omega) [-List.getD_eq_getElem?_getD, List.getD_cons_zero, List.getD_cons_succ, kCast_self, dfl_pair, dfl_int, w64, wu64] <;> omega) | (simp_all [-List.getD_eq_getElem?_getD] <;> omega))
theorem tk_all (own : Bool) (c : Cnf) (hc : c.Ok) (n : Nat) (hn : n ≤ 64) (f f' : SupF) (hI : HInv c n f) (v : AV) (q : Nat) (ih : Goods (gTk own c n f f' v) (tkSt own c n f q n (freeM f n))) : ∀ (j k : Nat), k + j = n → Goods (gTk own c n f f' v) (tkSt own c n f q k (freeM f k))
  | 0, k, hk => by
    obtain rfl : k = n := by omega
    exact ih
  | j + 1, k, hk => by
    have l1 := hc.l1
    have hkn : k < n := by omega
    have nx := tk_all own c hc n hn f f' hI v q ih j (k + 1) (by omega)
    simp only [freeM] at nx
    rcases hI k hkn with e | ⟨a, m, e, ha, hs, hne, hm⟩ | ⟨a, e, h1, h2, h3⟩ | e
    · rw [e, if_pos rfl] at nx
      exact tk_0 own c n hn f f' v q k _ hkn (freeM_lt f k) (at_0 true n hn f k hkn 0 (by omega) e) nx
    · rw [e, if_neg (by simp)] at nx
      exact tk_1 own c n hn f f' v q k _ a m hkn (at_1 true n hn f k hkn a m (by omega) e) nx
    · rw [e, if_neg (by simp)] at nx
      exact tk_2 own c n hn f f' v q k _ a 0 hkn (at_2 true n hn f k hkn a (by omega) e) nx
    · rw [e, if_neg (by simp)] at nx
      exact tk_3 own c n hn f f' v q k _ 0 0 hkn (at_3 true n hn f k hkn 0 (by omega) e) nx
theorem tk_put (own : Bool) (c : Cnf) (n : Nat) (hn : n ≤ 64) (f : SupF) (i q : Nat) (hq : i + q ≤ n) : ∀ (j k : Nat), k + j = q → 1 ≤ k → Goods (gTk own c n f (runF f i q q) (opA (i + 1) 0)) ⟨.none, lp Tryd.f72 1, [(1, .slice 1 0 (2 * n)), (2, .int .i64 q), (6, .ptr 2 0 0), (11, .int .i64 i), (13, .int .i64 k)], hp [.tab own (.int .i64) c.cl, .tab true (.int .u64) (hW n (runF f i q k)), .cells [.int .u64 0, .int .u64 0]]⟩
  | 0, k, hk, h1 => by
    obtain rfl : k = q := by omega
    have hl := hW_len n (runF f i k k)
    refine Goods.fin 2000 [.b false] mixed Tryd.func72 ?_
    show Yes _
    repeat' apply And.intro
    (all_goals first | rfl | assumption | trivial | omega | (simp [-List.getD_eq_getElem?_getD] <;> omega) | (simp (disch := omega) only [w64, wu64] <;> omega) | (simp (disch := omega) [-List.getD_eq_getElem?_getD, List.getD_cons_zero, List.getD_cons_succ, kCast_self, dfl_pair, dfl_int, w64, wu64] <;> omega) | (rw [Bool.eq_iff_iff]; simp (disch := omega) [-List.getD_eq_getElem?_getD, List.getD_cons_zero, List.getD_cons_succ, kCast_self, dfl_pair, dfl_int, w64, wu64] <;> omega) | (simp_all [-List.getD_eq_getElem?_getD] <;> omega))
  | j + 1, k, hk, h1 => by
    have ih := tk_put own c n hn f i q hq j (k + 1) (by omega) (by omega)
    have hp1 := put_tri n hn (runF f i q k) (i + k) (by omega) 3 0 0 (by omega) (by omega)
    rw [runF_step f i q k h1] at hp1
    have hl := hW_len n (runF f i q k)
    refine Goods.to 2000 [.b true, .c (.of hp1), .l, .stop] mixed (ih) (by kernel_rfl) ?_
    show Yes _
    repeat' apply And.intro
    (all_goals first | rfl | assumption | trivial | omega | (simp [-List.getD_eq_getElem?_getD] <;> omega) | (simp (disch := omega) only [w64, wu64] <;> omega) | (simp (disch := omega) [-List.getD_eq_getElem?_getD, List.getD_cons_zero, List.getD_cons_succ, kCast_self, dfl_pair, dfl_int, w64, wu64] <;> omega) | (rw [Bool.eq_iff_iff]; simp (disch := omega) [-List.getD_eq_getElem?_getD, List.getD_cons_zero, List.getD_cons_succ, kCast_self, dfl_pair, dfl_int, w64, wu64] <;> omega) | (simp_all [-List.getD_eq_getElem?_getD] <;> omega))
theorem take_yes (own : Bool) (c : Cnf) (hc : c.Ok) (n : Nat) (hn : (n : Int) = c.s) (f : SupF) (hI : HInv c n f) (q i : Nat) (hq : 1 ≤ q) (hr : rowP n f q i) (hf : ∀ j, j < i → ¬ rowP n f q j) : Tri En 72 [cnfA 0 c, .slice 1 0 (2 * n), .int .i64 q] [.tab own (.int .i64) c.cl, .tab true (.int .u64) (hW n f)] (opA (i + 1) 0) [.tab own (.int .i64) c.cl, .tab true (.int .u64) (hW n (runF f i q q))] := by
  have s1 := hc.s1
  have h1 := hr.1
  have ru := run_yes (freeM f n) q i (freeM_lt f n) hq (by omega) ((run_row (by omega) f hq i).2 hr) fun j hj h => hf j hj ((run_row (by omega) f hq j).1 h)
  have hp1 := put_tri n (by omega) f i (by omega) 2 q 0 (by omega) (by omega)
  rw [runF_1] at hp1
  have l2 := tk_put own c n (by omega) f i q h1 (q - 1) 1 (by omega) (by omega)
  have hl := hW_len n f
  have l1 : Goods (gTk own c n f (runF f i q q) (opA (i + 1) 0)) (tkSt own c n f q n (freeM f n)) := by
    generalize freeM f n = m at *
    refine Goods.to 2000 [.b false, .c (.of ru), .c (.of hp1), .l, .stop] mixed (l2) (by kernel_rfl) ?_
    show Yes _
    repeat' apply And.intro
    (all_goals first | rfl | assumption | trivial | omega | (simp [-List.getD_eq_getElem?_getD] <;> omega) | (simp (disch := omega) only [w64, wu64] <;> omega) | (simp (disch := omega) [-List.getD_eq_getElem?_getD, List.getD_cons_zero, List.getD_cons_succ, kCast_self, dfl_pair, dfl_int, w64, wu64] <;> omega) | (rw [Bool.eq_iff_iff]; simp (disch := omega) [-List.getD_eq_getElem?_getD, List.getD_cons_zero, List.getD_cons_succ, kCast_self, dfl_pair, dfl_int, w64, wu64] <;> omega) | (simp_all [-List.getD_eq_getElem?_getD] <;> omega))
  have ih := tk_all own c hc n (by omega) f _ hI _ q l1 n 0 (by omega)
  refine Tri.of Tryd.func72 rfl Tryd.call72 rfl ?_
  refine Goods.to 2000 [.l, .stop] mixed (ih) (by kernel_rfl) ?_
  show Yes _
  repeat' apply And.intro
  (all_goals first | rfl | assumption | trivial | omega | (simp [-List.getD_eq_getElem?_getD] <;> omega) | (simp (disch := omega) only [w64, wu64] <;> omega) | (simp (disch := omega) [-List.getD_eq_getElem?_getD, List.getD_cons_zero, List.getD_cons_succ, kCast_self, dfl_pair, dfl_int, w64, wu64] <;> omega) | (rw [Bool.eq_iff_iff]; simp (disch := omega) [-List.getD_eq_getElem?_getD, List.getD_cons_zero, List.getD_cons_succ, kCast_self, dfl_pair, dfl_int, w64, wu64] <;> omega) | (simp_all [-List.getD_eq_getElem?_getD] <;> omega))
theorem take_no (own : Bool) (c : Cnf) (hc : c.Ok) (n : Nat) (hn : (n : Int) = c.s) (f : SupF) (hI : HInv c n f) (q : Nat) (hf : 1 ≤ q → ∀ j, ¬ rowP n f q j) : Tri En 72 [cnfA 0 c, .slice 1 0 (2 * n), .int .i64 q] [.tab own (.int .i64) c.cl, .tab true (.int .u64) (hW n f)] (opA 0 0) [.tab own (.int .i64) c.cl, .tab true (.int .u64) (hW n f)] := by
  have s1 := hc.s1
  have ru := run_no (freeM f n) (freeM_lt f n) q fun h1 _ j _ h => by
    rw [Int.toNat_natCast] at h
    exact hf (by omega) j ((run_row (by omega) f (by omega) j).1 h)
  have hl := hW_len n f
  have l1 : Goods (gTk own c n f f (opA 0 0)) (tkSt own c n f q n (freeM f n)) := by
    generalize freeM f n = m at *
    refine Goods.fin 2000 [.b false, .c (.of ru)] mixed Tryd.func72 ?_
    show Yes _
    repeat' apply And.intro
    (all_goals first | rfl | assumption | trivial | omega | (simp [-List.getD_eq_getElem?_getD] <;> omega) | (simp (disch := omega) only [w64, wu64] <;> omega) | (simp (disch := omega) [-List.getD_eq_getElem?_getD, List.getD_cons_zero, List.getD_cons_succ, kCast_self, dfl_pair, dfl_int, w64, wu64] <;> omega) | (rw [Bool.eq_iff_iff]; simp (disch := omega) [-List.getD_eq_getElem?_getD, List.getD_cons_zero, List.getD_cons_succ, kCast_self, dfl_pair, dfl_int, w64, wu64] <;> omega) | (simp_all [-List.getD_eq_getElem?_getD] <;> omega))
  have ih := tk_all own c hc n (by omega) f _ hI _ q l1 n 0 (by omega)
  refine Tri.of Tryd.func72 rfl Tryd.call72 rfl ?_
  refine Goods.to 2000 [.l, .stop] mixed (ih) (by kernel_rfl) ?_
  show Yes _
  repeat' apply And.intro
  (all_goals first | rfl | assumption | trivial | omega | (simp [-List.getD_eq_getElem?_getD] <;> omega) | (simp (disch := omega) only [w64, wu64] <;> omega) | (simp (disch := omega) [-List.getD_eq_getElem?_getD, List.getD_cons_zero, List.getD_cons_succ, kCast_self, dfl_pair, dfl_int, w64, wu64] <;> omega) | (rw [Bool.eq_iff_iff]; simp (disch := omega) [-List.getD_eq_getElem?_getD, List.getD_cons_zero, List.getD_cons_succ, kCast_self, dfl_pair, dfl_int, w64, wu64] <;> omega) | (simp_all [-List.getD_eq_getElem?_getD] <;> omega))
noncomputable abbrev gGv (own : Bool) (c : Cnf) (n : Nat) (f f' : SupF) (v : AV) : Frm := ⟨En, 73, Tryd.f73.ntmps, [.tab own (.int .i64) c.cl, .tab true (.int .u64) (hW n f)], v, [.tab own (.int .i64) c.cl, .tab true (.int .u64) (hW n f')]⟩
theorem gv_0 (own : Bool) (c : Cnf) (n : Nat) (hn : n ≤ 64) (f : SupF) (i q : Nat) (hq : i + q ≤ n) : ∀ (j k : Nat), k + j = q → Goods (gGv own c n f (giveF f i q) (opA 1 0)) ⟨.none, lp Tryd.f73 0, [(1, .slice 1 0 (2 * n)), (2, .int .i64 i), (6, .ptr 2 0 0), (25, .int .i64 q), (26, .int .i64 k)], hp [.tab own (.int .i64) c.cl, .tab true (.int .u64) (hW n (giveF f i k)), .cells [.int .u64 0, .int .u64 0]]⟩
  | 0, k, hk => by
    obtain rfl : k = q := by omega
    have hl := hW_len n (giveF f i k)
    refine Goods.fin 2000 [.b false] mixed Tryd.func73 ?_
    show Yes _
    repeat' apply And.intro
    (all_goals first | rfl | assumption | trivial | omega | (simp [-List.getD_eq_getElem?_getD] <;> omega) | (simp (disch := omega) only [w64, wu64] <;> omega) | (simp (disch := omega) [-List.getD_eq_getElem?_getD, List.getD_cons_zero, List.getD_cons_succ, kCast_self, dfl_pair, dfl_int, w64, wu64] <;> omega) | (rw [Bool.eq_iff_iff]; simp (disch := omega) [-List.getD_eq_getElem?_getD, List.getD_cons_zero, List.getD_cons_succ, kCast_self, dfl_pair, dfl_int, w64, wu64] <;> omega) | (simp_all [-List.getD_eq_getElem?_getD] <;> omega))
  | j + 1, k, hk => by
    have ih := gv_0 own c n hn f i q hq j (k + 1) (by omega)
    have hp1 := put_tri n hn (giveF f i k) (i + k) (by omega) 0 0 0 (by omega) (by omega)
    rw [giveF_step f i k] at hp1
    have hl := hW_len n (giveF f i k)
    refine Goods.to 2000 [.b true, .c (.of hp1), .l, .stop] mixed (ih) (by kernel_rfl) ?_
    show Yes _
    repeat' apply And.intro
    (all_goals first | rfl | assumption | trivial | omega | (simp [-List.getD_eq_getElem?_getD] <;> omega) | (simp (disch := omega) only [w64, wu64] <;> omega) | (simp (disch := omega) [-List.getD_eq_getElem?_getD, List.getD_cons_zero, List.getD_cons_succ, kCast_self, dfl_pair, dfl_int, w64, wu64] <;> omega) | (rw [Bool.eq_iff_iff]; simp (disch := omega) [-List.getD_eq_getElem?_getD, List.getD_cons_zero, List.getD_cons_succ, kCast_self, dfl_pair, dfl_int, w64, wu64] <;> omega) | (simp_all [-List.getD_eq_getElem?_getD] <;> omega))
abbrev TGv (own : Bool) (c : Cnf) (n : Nat) (f : SupF) (i : Int) (v : AV) (f' : SupF) : Prop := Tri En 73 [cnfA 0 c, .slice 1 0 (2 * n), .int .i64 i] [.tab own (.int .i64) c.cl, .tab true (.int .u64) (hW n f)] v [.tab own (.int .i64) c.cl, .tab true (.int .u64) (hW n f')]
theorem give_yes (own : Bool) (c : Cnf) (n : Nat) (hn : n ≤ 64) (f : SupF) (i q : Nat) (h1 : 1 ≤ q) (hq : i + q ≤ n) (hat : TAt true n f i (supA2 q) true) : TGv own c n f i (opA 1 0) (giveF f i q) := by
  have ih := gv_0 own c n hn f i q hq q 0 (by omega)
  rw [giveF_0] at ih
  have hl := hW_len n f
  refine Tri.of Tryd.func73 rfl Tryd.call73 rfl ?_
  refine Goods.to 2000 [.c (.of hat), .s 21 (some false) true true, .l, .stop] mixed (ih) (by kernel_rfl) ?_
  show Yes _
  repeat' apply And.intro
  (all_goals first | rfl | assumption | trivial | omega | (simp [-List.getD_eq_getElem?_getD] <;> omega) | (simp (disch := omega) only [w64, wu64] <;> omega) | (simp (disch := omega) [-List.getD_eq_getElem?_getD, List.getD_cons_zero, List.getD_cons_succ, kCast_self, dfl_pair, dfl_int, w64, wu64] <;> omega) | (rw [Bool.eq_iff_iff]; simp (disch := omega) [-List.getD_eq_getElem?_getD, List.getD_cons_zero, List.getD_cons_succ, kCast_self, dfl_pair, dfl_int, w64, wu64] <;> omega) | (simp_all [-List.getD_eq_getElem?_getD] <;> omega))
theorem give_none (own : Bool) (c : Cnf) (n : Nat) (hn : n ≤ 64) (f : SupF) (i : Int) (hi : ¬ (0 ≤ i ∧ i < n)) : TGv own c n f i (opA 0 0) f := by
  have hat := at_none true n hn f i hi
  have hl := hW_len n f
  refine Tri.of Tryd.func73 rfl Tryd.call73 rfl ?_
  refine Goods.fin 2000 [.c (.of hat)] mixed Tryd.func73 ?_
  show Yes _
  repeat' apply And.intro
  (all_goals first | rfl | assumption | trivial | omega | (simp [-List.getD_eq_getElem?_getD] <;> omega) | (simp (disch := omega) only [w64, wu64] <;> omega) | (simp (disch := omega) [-List.getD_eq_getElem?_getD, List.getD_cons_zero, List.getD_cons_succ, kCast_self, dfl_pair, dfl_int, w64, wu64] <;> omega) | (rw [Bool.eq_iff_iff]; simp (disch := omega) [-List.getD_eq_getElem?_getD, List.getD_cons_zero, List.getD_cons_succ, kCast_self, dfl_pair, dfl_int, w64, wu64] <;> omega) | (simp_all [-List.getD_eq_getElem?_getD] <;> omega))
theorem give_k0 (own : Bool) (c : Cnf) (n : Nat) (hn : n ≤ 64) (f : SupF) (i a b : Nat) (hat : TAt true n f i supA0 true) : TGv own c n f i (opA 0 0) f := by
  have hl := hW_len n f
  refine Tri.of Tryd.func73 rfl Tryd.call73 rfl ?_
  refine Goods.fin 2000 [.c (.of hat), .s 21 (some true) true true] mixed Tryd.func73 ?_
  show Yes _
  repeat' apply And.intro
  (all_goals first | rfl | assumption | trivial | omega | (simp [-List.getD_eq_getElem?_getD] <;> omega) | (simp (disch := omega) only [w64, wu64] <;> omega) | (simp (disch := omega) [-List.getD_eq_getElem?_getD, List.getD_cons_zero, List.getD_cons_succ, kCast_self, dfl_pair, dfl_int, w64, wu64] <;> omega) | (rw [Bool.eq_iff_iff]; simp (disch := omega) [-List.getD_eq_getElem?_getD, List.getD_cons_zero, List.getD_cons_succ, kCast_self, dfl_pair, dfl_int, w64, wu64] <;> omega) | (simp_all [-List.getD_eq_getElem?_getD] <;> omega))
theorem give_k1 (own : Bool) (c : Cnf) (n : Nat) (hn : n ≤ 64) (f : SupF) (i a b : Nat) (hat : TAt true n f i (supA1 a b) true) : TGv own c n f i (opA 0 0) f := by
  have hl := hW_len n f
  refine Tri.of Tryd.func73 rfl Tryd.call73 rfl ?_
  refine Goods.fin 2000 [.c (.of hat), .s 21 (some true) true true] mixed Tryd.func73 ?_
  show Yes _
  repeat' apply And.intro
  (all_goals first | rfl | assumption | trivial | omega | (simp [-List.getD_eq_getElem?_getD] <;> omega) | (simp (disch := omega) only [w64, wu64] <;> omega) | (simp (disch := omega) [-List.getD_eq_getElem?_getD, List.getD_cons_zero, List.getD_cons_succ, kCast_self, dfl_pair, dfl_int, w64, wu64] <;> omega) | (rw [Bool.eq_iff_iff]; simp (disch := omega) [-List.getD_eq_getElem?_getD, List.getD_cons_zero, List.getD_cons_succ, kCast_self, dfl_pair, dfl_int, w64, wu64] <;> omega) | (simp_all [-List.getD_eq_getElem?_getD] <;> omega))
theorem give_k3 (own : Bool) (c : Cnf) (n : Nat) (hn : n ≤ 64) (f : SupF) (i a b : Nat) (hat : TAt true n f i supA3 true) : TGv own c n f i (opA 0 0) f := by
  have hl := hW_len n f
  refine Tri.of Tryd.func73 rfl Tryd.call73 rfl ?_
  refine Goods.fin 2000 [.c (.of hat), .s 21 (some true) true true] mixed Tryd.func73 ?_
  show Yes _
  repeat' apply And.intro
  (all_goals first | rfl | assumption | trivial | omega | (simp [-List.getD_eq_getElem?_getD] <;> omega) | (simp (disch := omega) only [w64, wu64] <;> omega) | (simp (disch := omega) [-List.getD_eq_getElem?_getD, List.getD_cons_zero, List.getD_cons_succ, kCast_self, dfl_pair, dfl_int, w64, wu64] <;> omega) | (rw [Bool.eq_iff_iff]; simp (disch := omega) [-List.getD_eq_getElem?_getD, List.getD_cons_zero, List.getD_cons_succ, kCast_self, dfl_pair, dfl_int, w64, wu64] <;> omega) | (simp_all [-List.getD_eq_getElem?_getD] <;> omega))
end Go.Proofs.YtcicfbccdgkfhaaDoor.E
