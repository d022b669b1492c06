/- TagFree: the law's contract. -/
import Derived.Test.YtmnpjemapdmigaaDoorL07b
namespace Go.Proofs.YtmnpjemapdmigaaDoor.E
open Go
set_option maxRecDepth 100000

theorem hit_small (wk sl : Int) {x : Nat} (hx : x < 9223372036854775808) : hitN wk sl x = false := by
  unfold hitN
  have : refN (getN x 0 8) (getN x 8 8) (getN x 16 32) ≠ x := by
    intro h
    have h2 := ref_bit (getN x 0 8) (getN x 8 8) (getN x 16 32) 63 (getN_lt x 0 (b := 8)) (getN_lt x 8 (b := 8)) (getN_lt x 16 (b := 32)) (by omega)
    rw [h, high_bit (b := 63) hx (Nat.le_refl _)] at h2
    simp at h2
  simp [this]
/-- The tags among words that are laid by a rule. -/
theorem tab_hits (wk sl n : Nat) (hk : wk < 256) (hs : sl < 256) (f : Nat → Nat) (z : Nat) (hz : z < 4294967296) : (z : Int) ∈ hits wk sl (tabW n fun i => (f i : Int)) ↔ ∃ i, i < n ∧ f i = refN wk sl z := by
  rw [hits_mem]
  constructor
  · rintro ⟨x, hx, h1, h2⟩
    obtain ⟨i, hi, rfl⟩ := List.mem_map.1 hx
    rw [Int.toNat_natCast] at h1 h2
    exact ⟨i, List.mem_range.1 hi, (hit_ref wk sl z hk hs hz _).1 ⟨h1, by omega⟩⟩
  · rintro ⟨i, hi, he⟩
    obtain ⟨h1, h2⟩ := (hit_ref wk sl z hk hs hz _).2 he
    exact ⟨(f i : Int), List.mem_map.2 ⟨i, List.mem_range.2 hi, rfl⟩, by rw [Int.toNat_natCast]; exact h1, by rw [Int.toNat_natCast, h2]⟩
theorem refN_inj {wk sl a b : Nat} (hk : wk < 256) (hs : sl < 256) (ha : a < 4294967296) (hb : b < 4294967296) (h : refN wk sl a = refN wk sl b) : a = b := by
  have h1 := (get_ref wk sl a hk hs ha).2.2
  rw [h, (get_ref wk sl b hk hs hb).2.2] at h1
  exact h1.symm
def ownW (wk sl n : Nat) : List Int := tabW n fun i => ((refN wk sl i : Nat) : Int)
theorem own_len (wk sl n : Nat) : (ownW wk sl n).length = n := tabW_len ..
theorem own_all (wk sl n : Nat) (hk : wk < 256) (hs : sl < 256) (hn : n ≤ 1000) : leastT (hits wk sl (ownW wk sl n)) = n := by
  refine leastT_eq (fun j hj => (tab_hits wk sl n hk hs _ j (by omega)).2 ⟨j, hj, rfl⟩) fun h => ?_
  obtain ⟨i, hi, he⟩ := (tab_hits wk sl n hk hs _ n (by omega)).1 h
  have := refN_inj hk hs (by omega) (by omega) he
  omega
theorem own_set (wk sl n i x : Nat) : (ownW wk sl n).set i x = tabW n fun q => ((if q = i then x else refN wk sl q : Nat) : Int) :=
  tabW_set' fun q _ => by by_cases h : q = i <;> simp [h]
theorem own_but (wk sl n i x : Nat) (hk : wk < 256) (hs : sl < 256) (hn : n ≤ 1000) (hi : i < n) (hx : x < 256) : leastT (hits wk sl ((ownW wk sl n).set i x)) = i := by
  rw [own_set]
  refine leastT_eq (fun j hj => (tab_hits wk sl n hk hs _ j (by omega)).2 ⟨j, by omega, by rw [if_neg (by omega)]⟩) fun h => ?_
  obtain ⟨q, hq, he⟩ := (tab_hits wk sl n hk hs _ i (by omega)).1 h
  by_cases h1 : q = i
  · rw [if_pos h1] at he
    have h2 := ((hit_ref wk sl i hk hs (by omega) x).2 he).1
    rw [hit_small (wk : Int) (sl : Int) (by omega)] at h2
    cases h2
  · rw [if_neg h1] at he
    exact h1 (refN_inj hk hs (by omega) (by omega) he)
theorem tab_u64 (n : Nat) (f : Nat → Nat) (hf : ∀ i, i < n → f i < 18446744073709551616) : u64s (tabW n fun i => (f i : Int)) := fun k hk => ⟨f k, tabW_get (by simpa using hk), hf k (by simpa using hk)⟩
noncomputable abbrev gFree (hd : List Int) : Frm := ⟨En, 4, Tryd.f4.ntmps, [.tab false (.int .u8) hd], .bl true, gones 1⟩
section
variable (wk sl : Nat) (hd : List Int) (hwk : wk ≤ 255) (hsl : sl ≤ 255) (hn : hd.length ≤ 60) (hu : ∀ i, i < hd.length → ∃ x : Nat, hd.getD i 0 = x ∧ x ≤ 255)
include hwk hsl hn
theorem free_3 (i x : Nat) (hi : i < hd.length) (hx : x ≤ 255)
    (next : ∀ m : MemS, m.words = ownW wk sl hd.length → Goods (gFree hd) ⟨.none, lp Tryd.f4 1, [(2, .slice 0 0 hd.length), (7, .int .i64 wk), (8, .int .i64 sl), (9, .ptr 1 0 0), (41, .slice 0 0 hd.length), (42, .int .i64 hd.length), (43, .int .i64 (i + 1 : Nat))], hp [.tab false (.int .u8) hd, memC 2 m, memT m]⟩) :
    ∀ (j k : Nat) (m : MemS), k + j = hd.length → m.words = (ownW wk sl hd.length).set i x → Goods (gFree hd) ⟨.none, lp Tryd.f4 3,
    [(2, .slice 0 0 hd.length), (7, .int .i64 wk), (8, .int .i64 sl), (9, .ptr 1 0 0), (11, .int .i64 i), (14, .ptr 3 0 0), (41, .slice 0 0 hd.length), (42, .int .i64 hd.length), (43, .int .i64 i), (79, .int .i64 hd.length), (80, .int .i64 k)],
    hp [.tab false (.int .u8) hd, memC 2 m, memT m, scanC 1 4 k j wk sl (hits wk sl (((ownW wk sl hd.length).set i x).take k)), tagsT (hits wk sl (((ownW wk sl hd.length).set i x).take k))]⟩
  | 0, k, m, h, hm => by
    obtain rfl : k = hd.length := by omega
    have hl : ((ownW wk sl hd.length).set i x).length = hd.length := by rw [List.length_set, own_len]
    have ht : ((ownW wk sl hd.length).set i x).take hd.length = (ownW wk sl hd.length).set i x := List.take_of_length_le (by omega)
    rw [ht]
    have hb := own_but wk sl hd.length i x (by omega) (by omega) (by omega) hi (by omega)
    have hlen := hits_len (wk : Int) (sl : Int) ((ownW wk sl hd.length).set i x)
    generalize hits wk sl ((ownW wk sl hd.length).set i x) = us at hb hlen
    have hr := ref_tri m hd.length 0 wk sl us (by omega)
    rw [hb] at hr
    have ho := of_yes wk sl i (by omega) (by omega) (by omega)
    have hin : m.inr ((i : Nat) : Int) := ⟨by omega, by rw [hm]; omega⟩
    have hnext := next ((m.acc 2 (i : Nat)).put (i : Nat) (refN wk sl i)) (by
      rw [MemS.put_words hin, hm, Int.toNat_natCast, own_set, tabW_set]
      exact tabW_congr fun q _ => by by_cases h : q = i <;> simp [h])
    refine Goods.to 2000 [.b false, .c (.of hr), .b false, .c (.of ho), .c (.of (mem_store m i (refN wk sl i))), .l, .stop] mixed (hnext) (by kernel_rfl) ?_
    show Yes _
    repeat' apply And.intro
    (all_goals first | rfl | assumption | trivial | omega | (simp [-List.getD_eq_getElem?_getD] <;> omega) | (simp (disch := omega) only [w64, wu64] <;> omega) | (simp (disch := omega) [-List.getD_eq_getElem?_getD, List.getD_cons_zero, List.getD_cons_succ, kCast_self, dfl_pair, dfl_int, w64, wu64] <;> omega) | (rw [Bool.eq_iff_iff]; simp (disch := omega) [-List.getD_eq_getElem?_getD, List.getD_cons_zero, List.getD_cons_succ, kCast_self, dfl_pair, dfl_int, w64, wu64] <;> omega) | (simp_all [-List.getD_eq_getElem?_getD] <;> omega))
  | j + 1, k, m, h, hm => by
    have hl : m.words.length = hd.length := by rw [hm, List.length_set, own_len]
    have hu2 : u64s m.words := by
      rw [hm, own_set]
      exact tab_u64 _ _ fun q _ => by split; omega; exact refN_lt ..
    have ih := free_3 i x hi hx next j (k + 1) (m.acc 1 ((0 + k : Nat) : Int)) (by omega) hm
    have hs := step_at m 0 j k wk sl m.words hu2 (fun i _ => by rw [Nat.zero_add]) (by omega) (by omega) (by omega)
    rw [Nat.zero_add, hm] at hs
    rw [Nat.zero_add] at ih
    refine Goods.to 2000 [.b true, .c (.of hs), .l, .stop] mixed (ih) (by kernel_rfl) ?_
    show Yes _
    repeat' apply And.intro
    (all_goals first | rfl | assumption | trivial | omega | (simp [-List.getD_eq_getElem?_getD] <;> omega) | (simp (disch := omega) only [w64, wu64] <;> omega) | (simp (disch := omega) [-List.getD_eq_getElem?_getD, List.getD_cons_zero, List.getD_cons_succ, kCast_self, dfl_pair, dfl_int, w64, wu64] <;> omega) | (rw [Bool.eq_iff_iff]; simp (disch := omega) [-List.getD_eq_getElem?_getD, List.getD_cons_zero, List.getD_cons_succ, kCast_self, dfl_pair, dfl_int, w64, wu64] <;> omega) | (simp_all [-List.getD_eq_getElem?_getD] <;> omega))
theorem free_2 (i x : Nat) (hi : i < hd.length) (hx : x ≤ 255)
    (next : ∀ m : MemS, m.words = ownW wk sl hd.length → Goods (gFree hd) ⟨.none, lp Tryd.f4 1, [(2, .slice 0 0 hd.length), (7, .int .i64 wk), (8, .int .i64 sl), (9, .ptr 1 0 0), (41, .slice 0 0 hd.length), (42, .int .i64 hd.length), (43, .int .i64 (i + 1 : Nat))], hp [.tab false (.int .u8) hd, memC 2 m, memT m]⟩) :
    ∀ (j k : Nat) (m : MemS), k + j = hd.length → m.words = ownW wk sl hd.length → Goods (gFree hd) ⟨.none, lp Tryd.f4 2,
    [(2, .slice 0 0 hd.length), (7, .int .i64 wk), (8, .int .i64 sl), (9, .ptr 1 0 0), (11, .int .i64 i), (12, .int .u8 x), (13, .ptr 3 0 0), (41, .slice 0 0 hd.length), (42, .int .i64 hd.length), (43, .int .i64 i), (55, .int .i64 hd.length), (56, .int .i64 k)],
    hp [.tab false (.int .u8) hd, memC 2 m, memT m, scanC 1 4 k j wk sl (hits wk sl ((ownW wk sl hd.length).take k)), tagsT (hits wk sl ((ownW wk sl hd.length).take k))]⟩
  | 0, k, m, h, hm => by
    obtain rfl : k = hd.length := by omega
    have ht : (ownW wk sl hd.length).take hd.length = ownW wk sl hd.length := List.take_of_length_le (by rw [own_len]; omega)
    rw [ht]
    have hb := own_all wk sl hd.length (by omega) (by omega) (by omega)
    have hlen := hits_len (wk : Int) (sl : Int) (ownW wk sl hd.length)
    rw [own_len] at hlen
    generalize hits wk sl (ownW wk sl hd.length) = us at hb hlen
    have hr := ref_tri m hd.length 0 wk sl us (by omega)
    rw [hb] at hr
    have hin : m.inr ((i : Nat) : Int) := ⟨by omega, by rw [hm, own_len]; omega⟩
    have ih := free_3 wk sl hd hwk hsl hn i x hi hx next hd.length 0 ((m.acc 2 (i : Nat)).put (i : Nat) x) (by omega) (by rw [MemS.put_words hin, hm, Int.toNat_natCast])
    have hc := scan_new ((m.acc 2 (i : Nat)).put (i : Nat) x) 0 hd.length wk sl
    refine Goods.to 2000 [.b false, .c (.of hr), .b false, .c (.of (mem_store m i x)), .c (.of hc), .l, .stop] mixed (ih) (by kernel_rfl) ?_
    show Yes _
    repeat' apply And.intro
    (all_goals first | rfl | assumption | trivial | omega | (simp [-List.getD_eq_getElem?_getD] <;> omega) | (simp (disch := omega) only [w64, wu64] <;> omega) | (simp (disch := omega) [-List.getD_eq_getElem?_getD, List.getD_cons_zero, List.getD_cons_succ, kCast_self, dfl_pair, dfl_int, w64, wu64] <;> omega) | (rw [Bool.eq_iff_iff]; simp (disch := omega) [-List.getD_eq_getElem?_getD, List.getD_cons_zero, List.getD_cons_succ, kCast_self, dfl_pair, dfl_int, w64, wu64] <;> omega) | (simp_all [-List.getD_eq_getElem?_getD] <;> omega))
  | j + 1, k, m, h, hm => by
    have hl : m.words.length = hd.length := by rw [hm, own_len]
    have hu2 : u64s m.words := by rw [hm]; exact tab_u64 _ _ fun q _ => refN_lt ..
    have ih := free_2 i x hi hx next j (k + 1) (m.acc 1 ((0 + k : Nat) : Int)) (by omega) hm
    have hs := step_at m 0 j k wk sl m.words hu2 (fun i _ => by rw [Nat.zero_add]) (by omega) (by omega) (by omega)
    rw [Nat.zero_add, hm] at hs
    rw [Nat.zero_add] at ih
    refine Goods.to 2000 [.b true, .c (.of hs), .l, .stop] mixed (ih) (by kernel_rfl) ?_
    show Yes _
    repeat' apply And.intro
    (all_goals first | rfl | assumption | trivial | omega | (simp [-List.getD_eq_getElem?_getD] <;> omega) | (simp (disch := omega) only [w64, wu64] <;> omega) | (simp (disch := omega) [-List.getD_eq_getElem?_getD, List.getD_cons_zero, List.getD_cons_succ, kCast_self, dfl_pair, dfl_int, w64, wu64] <;> omega) | (rw [Bool.eq_iff_iff]; simp (disch := omega) [-List.getD_eq_getElem?_getD, List.getD_cons_zero, List.getD_cons_succ, kCast_self, dfl_pair, dfl_int, w64, wu64] <;> omega) | (simp_all [-List.getD_eq_getElem?_getD] <;> omega))
include hu
theorem free_1 : ∀ (j i : Nat) (m : MemS), i + j = hd.length → m.words = ownW wk sl hd.length → Goods (gFree hd) ⟨.none, lp Tryd.f4 1, [(2, .slice 0 0 hd.length), (7, .int .i64 wk), (8, .int .i64 sl), (9, .ptr 1 0 0), (41, .slice 0 0 hd.length), (42, .int .i64 hd.length), (43, .int .i64 i)], hp [.tab false (.int .u8) hd, memC 2 m, memT m]⟩
  | 0, i, m, h, hm => by
    refine Goods.fin 2000 [.b false] mixed Tryd.func4 ?_
    show Yes _
    repeat' apply And.intro
    (all_goals first | rfl | assumption | trivial | omega | (simp [-List.getD_eq_getElem?_getD] <;> omega) | (simp (disch := omega) only [w64, wu64] <;> omega) | (simp (disch := omega) [-List.getD_eq_getElem?_getD, List.getD_cons_zero, List.getD_cons_succ, kCast_self, dfl_pair, dfl_int, w64, wu64] <;> omega) | (rw [Bool.eq_iff_iff]; simp (disch := omega) [-List.getD_eq_getElem?_getD, List.getD_cons_zero, List.getD_cons_succ, kCast_self, dfl_pair, dfl_int, w64, wu64] <;> omega) | (simp_all [-List.getD_eq_getElem?_getD] <;> omega))
  | j + 1, i, m, h, hm => by
    obtain ⟨x, hx, hx2⟩ := hu i (by omega)
    have ih := free_2 wk sl hd hwk hsl hn i x (by omega) hx2 (fun m hm => free_1 j (i + 1) m (by omega) hm) hd.length 0 m (by omega) hm
    have hc := scan_new m 0 hd.length wk sl
    refine Goods.to 2000 [.b true, .c (.of hc), .l, .stop] mixed (ih) (by kernel_rfl) ?_
    show Yes _
    repeat' apply And.intro
    (all_goals first | rfl | assumption | trivial | omega | (simp [-List.getD_eq_getElem?_getD, hx] <;> omega) | (simp (disch := omega) only [w64, wu64] <;> omega) | (simp (disch := omega) [-List.getD_eq_getElem?_getD, List.getD_cons_zero, List.getD_cons_succ, kCast_self, dfl_pair, dfl_int, w64, wu64, hx] <;> omega) | (rw [Bool.eq_iff_iff]; simp (disch := omega) [-List.getD_eq_getElem?_getD, List.getD_cons_zero, List.getD_cons_succ, kCast_self, dfl_pair, dfl_int, w64, wu64, hx] <;> omega) | (simp_all [-List.getD_eq_getElem?_getD] <;> omega))
theorem free_0 : ∀ (j k : Nat) (m : MemS), k + j = hd.length → m.words = tabW hd.length (fun i => if i < k then ((refN wk sl i : Nat) : Int) else 0) → Goods (gFree hd) ⟨.none, lp Tryd.f4 0,
    [(2, .slice 0 0 hd.length), (7, .int .i64 wk), (8, .int .i64 sl), (9, .ptr 1 0 0), (28, .int .i64 hd.length), (29, .int .i64 k)], hp [.tab false (.int .u8) hd, memC 2 m, memT m]⟩
  | 0, k, m, h, hm => by
    obtain rfl : k = hd.length := by omega
    have ih := free_1 wk sl hd hwk hsl hn hu hd.length 0 m (by omega) (by rw [hm]; exact tabW_congr fun i hi => if_pos hi)
    refine Goods.to 2000 [.b false, .l, .stop] mixed (ih) (by kernel_rfl) ?_
    show Yes _
    repeat' apply And.intro
    (all_goals first | rfl | assumption | trivial | omega | (simp [-List.getD_eq_getElem?_getD] <;> omega) | (simp (disch := omega) only [w64, wu64] <;> omega) | (simp (disch := omega) [-List.getD_eq_getElem?_getD, List.getD_cons_zero, List.getD_cons_succ, kCast_self, dfl_pair, dfl_int, w64, wu64] <;> omega) | (rw [Bool.eq_iff_iff]; simp (disch := omega) [-List.getD_eq_getElem?_getD, List.getD_cons_zero, List.getD_cons_succ, kCast_self, dfl_pair, dfl_int, w64, wu64] <;> omega) | (simp_all [-List.getD_eq_getElem?_getD] <;> omega))
  | j + 1, k, m, h, hm => by
    have hin : m.inr ((k : Nat) : Int) := ⟨by omega, by rw [hm, tabW_len]; omega⟩
    have ho := of_yes wk sl k (by omega) (by omega) (by omega)
    have ih := free_0 j (k + 1) ((m.acc 2 (k : Nat)).put (k : Nat) (refN wk sl k)) (by omega) (by
      rw [MemS.put_words hin, hm, Int.toNat_natCast]
      refine tabW_set' fun i hi => ?_
      by_cases h1 : i = k
      · subst h1; rw [if_pos rfl, if_pos (by omega)]
      · rw [if_neg h1]; by_cases h2 : i < k
        · rw [if_pos h2, if_pos (by omega)]
        · rw [if_neg h2, if_neg (by omega)])
    refine Goods.to 2000 [.b true, .c (.of ho), .c (.of (mem_store m k (refN wk sl k))), .l, .stop] mixed (ih) (by kernel_rfl) ?_
    show Yes _
    repeat' apply And.intro
    (all_goals first | rfl | assumption | trivial | omega | (simp [-List.getD_eq_getElem?_getD] <;> omega) | (simp (disch := omega) only [w64, wu64] <;> omega) | (simp (disch := omega) [-List.getD_eq_getElem?_getD, List.getD_cons_zero, List.getD_cons_succ, kCast_self, dfl_pair, dfl_int, w64, wu64] <;> omega) | (rw [Bool.eq_iff_iff]; simp (disch := omega) [-List.getD_eq_getElem?_getD, List.getD_cons_zero, List.getD_cons_succ, kCast_self, dfl_pair, dfl_int, w64, wu64] <;> omega) | (simp_all [-List.getD_eq_getElem?_getD] <;> omega))
end
theorem TagFree_tri (wk sl : Nat) (hd : List Int) (hwk : wk ≤ 255) (hsl : sl ≤ 255) (hu : ∀ i, i < hd.length → ∃ x : Nat, hd.getD i 0 = x ∧ x ≤ 255) (_ : hd.length ≤ 9223372036854775807) : Tri En 4 [.int .u8 wk, .int .u8 sl, .slice 0 0 hd.length] [.tab false (.int .u8) hd] (.bl true) (gones 1) := by
  refine Tri.of Tryd.func4 rfl Tryd.call4 rfl ?_
  by_cases hn : hd.length ≤ 60
  · have hm := mem_new hd.length
    rw [show (min (max (hd.length : Int) 0) 16777216).toNat = hd.length by omega] at hm
    have ih := free_0 wk sl hd hwk hsl hn hu hd.length 0 ⟨List.replicate hd.length 0, 0, 0, 0, 0⟩ (by omega) (by rw [tabW_zero]; exact tabW_congr fun i _ => (if_neg (by omega)).symm)
    refine Goods.to 2000 [.c (.of speaks_tri), .b false, .c (.of hm), .l, .stop] mixed (ih) (by kernel_rfl) ?_
    show Yes _
    repeat' apply And.intro
    (all_goals first | rfl | assumption | trivial | omega | (simp [-List.getD_eq_getElem?_getD] <;> omega) | (simp (disch := omega) only [w64, wu64] <;> omega) | (simp (disch := omega) [-List.getD_eq_getElem?_getD, List.getD_cons_zero, List.getD_cons_succ, kCast_self, dfl_pair, dfl_int, w64, wu64] <;> omega) | (rw [Bool.eq_iff_iff]; simp (disch := omega) [-List.getD_eq_getElem?_getD, List.getD_cons_zero, List.getD_cons_succ, kCast_self, dfl_pair, dfl_int, w64, wu64] <;> omega) | (simp_all [-List.getD_eq_getElem?_getD] <;> omega))
  · refine Goods.fin 2000 [.c (.of speaks_tri), .b true] mixed Tryd.func4 ?_
    show Yes _
    repeat' apply And.intro
    (all_goals first | rfl | assumption | trivial | omega | (simp [-List.getD_eq_getElem?_getD] <;> omega) | (simp (disch := omega) only [w64, wu64] <;> omega) | (simp (disch := omega) [-List.getD_eq_getElem?_getD, List.getD_cons_zero, List.getD_cons_succ, kCast_self, dfl_pair, dfl_int, w64, wu64] <;> omega) | (rw [Bool.eq_iff_iff]; simp (disch := omega) [-List.getD_eq_getElem?_getD, List.getD_cons_zero, List.getD_cons_succ, kCast_self, dfl_pair, dfl_int, w64, wu64] <;> omega) | (simp_all [-List.getD_eq_getElem?_getD] <;> omega))
theorem u8s_ok {l : List Int} (h : ∀ y : Int, y ∈ l → (Lit.int .u8 y).wf = true) : ∀ i, i < l.length → ∃ x : Nat, l.getD i 0 = x ∧ x ≤ 255 := fun k hk => wf_u8 (h (l.getD k 0) (by simp [List.getD, hk]))
theorem TagFree_law (d : dats ([(false, (.int .u8)), (false, (.int .u8)), (false, (.slice (.int .u8)))] : List (Bool × Sh))) (hd : datsOk ([(false, (.int .u8)), (false, (.int .u8)), (false, (.slice (.int .u8)))] : List (Bool × Sh)) d) : Tri En 4 (argsOf ([(false, (.int .u8)), (false, (.int .u8)), (false, (.slice (.int .u8)))] : List (Bool × Sh)) d 0) (objsOf ([(false, (.int .u8)), (false, (.int .u8)), (false, (.slice (.int .u8)))] : List (Bool × Sh)) d) (.bl true) (gones (cnts ([(false, (.int .u8)), (false, (.int .u8)), (false, (.slice (.int .u8)))] : List (Bool × Sh)))) := by
  obtain ⟨wk, sl, hd0, _⟩ := d
  obtain ⟨h2, h3, ⟨h0, h1⟩, _⟩ := hd
  obtain ⟨wk, rfl, hwk⟩ := wf_u8 h2
  obtain ⟨sl, rfl, hsl⟩ := wf_u8 h3
  exact TagFree_tri wk sl hd0 hwk hsl (u8s_ok h1) (maxLen_le h0)
end Go.Proofs.YtmnpjemapdmigaaDoor.E

