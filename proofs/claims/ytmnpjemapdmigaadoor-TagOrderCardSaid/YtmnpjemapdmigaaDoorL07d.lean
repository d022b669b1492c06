/- TagOrder: the law's contract. -/
import Derived.Test.YtmnpjemapdmigaaDoorL07c
namespace Go.Proofs.YtmnpjemapdmigaaDoor.E
open Go
set_option maxRecDepth 100000

abbrev RefK : K := .pair (.int .i64) (.pair (.int .i64) (.int .i64))
abbrev RefT := Int × Int × Int
def refD : RefT := (0, 0, 0)
def Ref64 (r : RefT) : Prop := (-9223372036854775808 ≤ r.1 ∧ r.1 ≤ 9223372036854775807) ∧ (-9223372036854775808 ≤ r.2.1 ∧ r.2.1 ≤ 9223372036854775807) ∧ (-9223372036854775808 ≤ r.2.2 ∧ r.2.2 ≤ 9223372036854775807)
def RefOk (r : RefT) : Prop := (0 ≤ r.1 ∧ r.1 < 256) ∧ (0 ≤ r.2.1 ∧ r.2.1 < 256) ∧ 0 ≤ r.2.2 ∧ r.2.2 < 4294967296
instance (r : RefT) : Decidable (RefOk r) := by unfold RefOk; infer_instance
/-- A reference's word, or 0. -/
def ofW (r : RefT) : Nat := if RefOk r then refN r.1.toNat r.2.1.toNat r.2.2.toNat else 0
theorem ofW_lt (r : RefT) : ofW r < 18446744073709551616 := by unfold ofW; split; exact refN_lt ..; omega
theorem of_any (r : RefT) (h : Ref64 r) : Tri En 12 [refI r.1 r.2.1 r.2.2] [] (.int .u64 (ofW r)) [] := by
  unfold ofW
  by_cases hk : RefOk r
  · rw [if_pos hk]
    obtain ⟨x, y, z⟩ := r
    obtain ⟨a, b, c, rfl, rfl, rfl, h0, h1, h2⟩ := ref_nat (wk := x) (sl := y) (tg := z) hk
    exact of_yes a b c h0 h1 h2
  · rw [if_neg hk]
    exact of_no r.1 r.2.1 r.2.2 h.1 h.2.1 h.2.2 hk
theorem ref64_ok {l : List RefT} (h : ∀ y ∈ l, okK RefK y) : ∀ i, i < l.length → Ref64 (l.getD i refD) := fun i hi => by
  have hm : l.getD i refD ∈ l := by simp [List.getD, hi]
  exact ⟨wf_i64 (h _ hm).1, wf_i64 (h _ hm).2.1, wf_i64 (h _ hm).2.2⟩
theorem mem_tabW {n : Nat} {f : Nat → Int} {x : Int} : x ∈ tabW n f ↔ ∃ i, i < n ∧ f i = x := by
  unfold tabW
  rw [List.mem_map]
  constructor
  · rintro ⟨i, hi, h⟩; exact ⟨i, List.mem_range.1 hi, h⟩
  · rintro ⟨i, hi, h⟩; exact ⟨i, List.mem_range.2 hi, h⟩
theorem hits_congr (wk sl : Int) {l l' : List Int} (h : ∀ x, x ∈ l ↔ x ∈ l') (z : Int) : z ∈ hits wk sl l ↔ z ∈ hits wk sl l' := by
  rw [hits_mem, hits_mem]
  exact ⟨fun ⟨x, h1, h2⟩ => ⟨x, (h x).1 h1, h2⟩, fun ⟨x, h1, h2⟩ => ⟨x, (h x).2 h1, h2⟩⟩
def ordW (rs : List RefT) (k q : Nat) : Int :=
  if q < rs.length then if q < k then ofW (rs.getD q refD) else 0
  else if q < 2 * rs.length then if 2 * rs.length - 1 - q < k then ofW (rs.getD (2 * rs.length - 1 - q) refD) else 0
  else if q - 2 * rs.length < k then ofW (rs.getD 0 refD) else 0
theorem ordW_step (rs : List RefT) (k q : Nat) (hk : k < rs.length) : (if q = 2 * rs.length + k then (ofW (rs.getD 0 refD) : Int) else if q = 2 * rs.length - 1 - k then (ofW (rs.getD k refD) : Int) else if q = k then (ofW (rs.getD k refD) : Int) else ordW rs k q) = ordW rs (k + 1) q := by
  unfold ordW
  by_cases h1 : q < rs.length
  · rw [if_neg (by omega), if_neg (by omega), if_pos h1, if_pos h1]
    by_cases h2 : q = k
    · subst h2; rw [if_pos rfl, if_pos (by omega)]
    · rw [if_neg h2]
      by_cases h3 : q < k
      · rw [if_pos h3, if_pos (by omega)]
      · rw [if_neg h3, if_neg (by omega)]
  · rw [if_neg h1, if_neg h1]
    by_cases h2 : q < 2 * rs.length
    · rw [if_neg (by omega), if_pos h2, if_pos h2]
      by_cases h3 : q = 2 * rs.length - 1 - k
      · rw [if_pos h3, if_pos (by omega), show 2 * rs.length - 1 - q = k by omega]
      · rw [if_neg h3, if_neg (by omega)]
        by_cases h4 : 2 * rs.length - 1 - q < k
        · rw [if_pos h4, if_pos (by omega)]
        · rw [if_neg h4, if_neg (by omega)]
    · rw [if_neg h2, if_neg h2]
      by_cases h3 : q = 2 * rs.length + k
      · rw [if_pos h3, if_pos (by omega)]
      · rw [if_neg h3, if_neg (by omega), if_neg (by omega)]
        by_cases h4 : q - 2 * rs.length < k
        · rw [if_pos h4, if_pos (by omega)]
        · rw [if_neg h4, if_neg (by omega)]
def wA (rs : List RefT) : List Int := tabW rs.length fun i => (ofW (rs.getD i refD) : Int)
def wB (rs : List RefT) : List Int := tabW rs.length fun i => (ofW (rs.getD (rs.length - 1 - i) refD) : Int)
def wC (rs : List RefT) : List Int := tabW (3 * rs.length) (ordW rs rs.length)
theorem wA_len (rs : List RefT) : (wA rs).length = rs.length := tabW_len ..
theorem wB_len (rs : List RefT) : (wB rs).length = rs.length := tabW_len ..
theorem wC_len (rs : List RefT) : (wC rs).length = 3 * rs.length := tabW_len ..
theorem wC_a (rs : List RefT) (i : Nat) (hi : i < rs.length) : (wC rs).getD (0 + i) 0 = (wA rs).getD i 0 := by
  rw [wC, wA, tabW_get (by omega), tabW_get hi, ordW, if_pos (by omega), if_pos (by omega), Nat.zero_add]
theorem wC_b (rs : List RefT) (i : Nat) (hi : i < rs.length) : (wC rs).getD (rs.length + i) 0 = (wB rs).getD i 0 := by
  rw [wC, wB, tabW_get (by omega), tabW_get hi, ordW, if_neg (by omega), if_pos (by omega), if_pos (by omega), show 2 * rs.length - 1 - (rs.length + i) = rs.length - 1 - i by omega]
theorem wB_mem (rs : List RefT) (x : Int) : x ∈ wA rs ↔ x ∈ wB rs := by
  rw [wA, wB, mem_tabW, mem_tabW]
  constructor
  · rintro ⟨i, hi, h⟩; exact ⟨rs.length - 1 - i, by omega, by rw [show rs.length - 1 - (rs.length - 1 - i) = i by omega]; exact h⟩
  · rintro ⟨i, hi, h⟩; exact ⟨rs.length - 1 - i, by omega, h⟩
theorem wC_mem (rs : List RefT) (x : Int) : x ∈ wA rs ↔ x ∈ wC rs := by
  rw [wA, wC, mem_tabW, mem_tabW]
  constructor
  · rintro ⟨i, hi, h⟩; exact ⟨i, by omega, by rw [ordW, if_pos hi, if_pos hi]; exact h⟩
  · rintro ⟨i, hi, h⟩
    unfold ordW at h
    by_cases h1 : i < rs.length
    · rw [if_pos h1, if_pos h1] at h; exact ⟨i, h1, h⟩
    · rw [if_neg h1] at h
      by_cases h2 : i < 2 * rs.length
      · rw [if_pos h2, if_pos (by omega)] at h; exact ⟨_, by omega, h⟩
      · rw [if_neg h2, if_pos (by omega)] at h; exact ⟨0, by omega, h⟩
theorem wC_u64 (rs : List RefT) : u64s (wC rs) := fun k hk => by
  rw [wC_len] at hk
  rw [wC, tabW_get hk]
  unfold ordW
  split <;> (try split) <;> (try split) <;> first | exact ⟨_, rfl, ofW_lt _⟩ | exact ⟨0, rfl, by omega⟩
noncomputable abbrev gOrd (rs : List RefT) : Frm := ⟨En, 5, Tryd.f5.ntmps, [.tab false RefK rs], .bl true, gones 1⟩
section
variable (wk sl : Nat) (rs : List RefT) (hwk : wk ≤ 255) (hsl : sl ≤ 255) (hn : rs.length ≤ 60)
include hn
set_option maxHeartbeats 1000000 in
theorem ord_end (m : MemS) (hf : m.faults = 0) : Goods (gOrd rs) ⟨.none, lp Tryd.f5 1,
    [(8, .ptr 1 0 0), (11, .ptr 3 0 0), (12, .ptr 5 0 0), (13, .ptr 7 0 0), (82, .int .i64 (3 * rs.length + 1 : Nat)), (83, .int .i64 (3 * rs.length + 1 : Nat))],
    hp [.tab false RefK rs, memC 2 m, memT m, scanC 1 4 rs.length 0 wk sl (hits wk sl (wA rs)), tagsT (hits wk sl (wA rs)), scanC 1 6 (2 * rs.length : Nat) 0 wk sl (hits wk sl (wB rs)), tagsT (hits wk sl (wB rs)), scanC 1 8 (3 * rs.length : Nat) 0 wk sl (hits wk sl (wC rs)), tagsT (hits wk sl (wC rs))]⟩ := by
  have lA := hits_len (wk : Int) (sl : Int) (wA rs)
  have lB := hits_len (wk : Int) (sl : Int) (wB rs)
  have lC := hits_len (wk : Int) (sl : Int) (wC rs)
  rw [wA_len] at lA
  rw [wB_len] at lB
  rw [wC_len] at lC
  have eB := leastT_congr (hits_congr (wk : Int) (sl : Int) (wB_mem rs))
  have eC := leastT_congr (hits_congr (wk : Int) (sl : Int) (wC_mem rs))
  generalize hits wk sl (wA rs) = ua at *
  generalize hits wk sl (wB rs) = ub at *
  generalize hits wk sl (wC rs) = uc at *
  have rA := ref_tri m rs.length 0 wk sl ua (by omega)
  have rB := ref_tri m (2 * rs.length : Nat) 0 wk sl ub (by omega)
  have rC := ref_tri m (3 * rs.length : Nat) 0 wk sl uc (by omega)
  rw [← eB] at rB
  rw [← eC] at rC
  have hF := mem_faults m
  rw [hf] at hF
  refine Goods.fin 2000 [.b false, .k 93 (.of rA), .k 95 (.of rB), .s 96 (some true) true true, .k 99 (.of rA), .k 101 (.of rC), .s 102 (some true) true true, .k 106 (.of hF)] mixed Tryd.func5 ?_
  show Yes _
  repeat' apply And.intro
  (all_goals first | rfl | assumption | trivial | omega | (simp [-List.getD_eq_getElem?_getD] <;> omega) | (simp (disch := omega) only [w64, wu64] <;> omega) | (simp (disch := omega) [-List.getD_eq_getElem?_getD, List.getD_cons_zero, List.getD_cons_succ, kCast_self, dfl_pair, dfl_int, w64, wu64] <;> omega) | (rw [Bool.eq_iff_iff]; simp (disch := omega) [-List.getD_eq_getElem?_getD, List.getD_cons_zero, List.getD_cons_succ, kCast_self, dfl_pair, dfl_int, w64, wu64] <;> omega) | (simp_all [-List.getD_eq_getElem?_getD] <;> omega))
theorem ord_b : ∀ (j k : Nat) (m : MemS), k + j = 3 * rs.length → rs.length ≤ k → m.words = wC rs → m.faults = 0 → Goods (gOrd rs) ⟨.none, lp Tryd.f5 1,
    [(8, .ptr 1 0 0), (11, .ptr 3 0 0), (12, .ptr 5 0 0), (13, .ptr 7 0 0), (82, .int .i64 (3 * rs.length + 1 : Nat)), (83, .int .i64 k)],
    hp [.tab false RefK rs, memC 2 m, memT m, scanC 1 4 rs.length 0 wk sl (hits wk sl (wA rs)), tagsT (hits wk sl (wA rs)), scanC 1 6 (2 * rs.length : Nat) 0 wk sl (hits wk sl (wB rs)), tagsT (hits wk sl (wB rs)), scanC 1 8 k j wk sl (hits wk sl ((wC rs).take k)), tagsT (hits wk sl ((wC rs).take k))]⟩
  | 0, k, m, h, hk, hm, hf => by
    obtain rfl : k = 3 * rs.length := by omega
    rw [List.take_of_length_le (by rw [wC_len]; omega)]
    have ih := ord_end wk sl rs hn m hf
    have sA := step_end m rs.length wk sl (hits wk sl (wA rs))
    have sB := step_end m (2 * rs.length : Nat) wk sl (hits wk sl (wB rs))
    have sC := step_end m (3 * rs.length : Nat) wk sl (hits wk sl (wC rs))
    refine Goods.to 2000 [.b true, .c (.of sA), .c (.of sB), .c (.of sC), .l, .stop] mixed (ih) (by kernel_rfl) ?_
    show Yes _
    repeat' apply And.intro
    (all_goals first | rfl | assumption | trivial | omega | (simp [-List.getD_eq_getElem?_getD] <;> omega) | (simp (disch := omega) only [w64, wu64] <;> omega) | (simp (disch := omega) [-List.getD_eq_getElem?_getD, List.getD_cons_zero, List.getD_cons_succ, kCast_self, dfl_pair, dfl_int, w64, wu64] <;> omega) | (rw [Bool.eq_iff_iff]; simp (disch := omega) [-List.getD_eq_getElem?_getD, List.getD_cons_zero, List.getD_cons_succ, kCast_self, dfl_pair, dfl_int, w64, wu64] <;> omega) | (simp_all [-List.getD_eq_getElem?_getD] <;> omega))
  | j + 1, k, m, h, hk, hm, hf => by
    have hin : m.inr ((0 + k : Nat) : Int) := ⟨by omega, by rw [hm, wC_len]; omega⟩
    have ih := ord_b j (k + 1) (m.acc 1 ((0 + k : Nat) : Int)) (by omega) (by omega) hm (by rw [MemS.acc_faults hin, hf])
    have sA := step_end m rs.length wk sl (hits wk sl (wA rs))
    have sB := step_end m (2 * rs.length : Nat) wk sl (hits wk sl (wB rs))
    have sC := step_at m 0 j k wk sl (wC rs) (by rw [hm]; exact wC_u64 rs) (fun i _ => by rw [hm, Nat.zero_add]) (by rw [hm]; omega) (by rw [wC_len]; omega) (by rw [hm, wC_len]; omega)
    rw [Nat.zero_add] at ih sC
    rw [Nat.zero_add] at sC
    refine Goods.to 2000 [.b true, .c (.of sA), .c (.of sB), .c (.of sC), .l, .stop] mixed (ih) (by kernel_rfl) ?_
    show Yes _
    repeat' apply And.intro
    (all_goals first | rfl | assumption | trivial | omega | (simp [-List.getD_eq_getElem?_getD] <;> omega) | (simp (disch := omega) only [w64, wu64] <;> omega) | (simp (disch := omega) [-List.getD_eq_getElem?_getD, List.getD_cons_zero, List.getD_cons_succ, kCast_self, dfl_pair, dfl_int, w64, wu64] <;> omega) | (rw [Bool.eq_iff_iff]; simp (disch := omega) [-List.getD_eq_getElem?_getD, List.getD_cons_zero, List.getD_cons_succ, kCast_self, dfl_pair, dfl_int, w64, wu64] <;> omega) | (simp_all [-List.getD_eq_getElem?_getD] <;> omega))
theorem ord_a : ∀ (j k : Nat) (m : MemS), k + j = rs.length → m.words = wC rs → m.faults = 0 → Goods (gOrd rs) ⟨.none, lp Tryd.f5 1,
    [(8, .ptr 1 0 0), (11, .ptr 3 0 0), (12, .ptr 5 0 0), (13, .ptr 7 0 0), (82, .int .i64 (3 * rs.length + 1 : Nat)), (83, .int .i64 k)],
    hp [.tab false RefK rs, memC 2 m, memT m, scanC 1 4 k j wk sl (hits wk sl ((wA rs).take k)), tagsT (hits wk sl ((wA rs).take k)), scanC 1 6 (rs.length + k : Nat) j wk sl (hits wk sl ((wB rs).take k)), tagsT (hits wk sl ((wB rs).take k)), scanC 1 8 k (j + 2 * rs.length : Nat) wk sl (hits wk sl ((wC rs).take k)), tagsT (hits wk sl ((wC rs).take k))]⟩
  | 0, k, m, h, hm, hf => by
    obtain rfl : k = rs.length := by omega
    have ih := ord_b wk sl rs hn (2 * rs.length) rs.length m (by omega) (by omega) hm hf
    rw [List.take_of_length_le (l := wA rs) (by rw [wA_len]; omega), List.take_of_length_le (l := wB rs) (by rw [wB_len]; omega), Nat.zero_add, show rs.length + rs.length = 2 * rs.length by omega]
    exact ih
  | j + 1, k, m, h, hm, hf => by
    have hl : m.words.length = 3 * rs.length := by rw [hm, wC_len]
    have hu : u64s m.words := by rw [hm]; exact wC_u64 rs
    have i1 : m.inr ((0 + k : Nat) : Int) := ⟨by omega, by omega⟩
    have i2 : (m.acc 1 ((0 + k : Nat) : Int)).inr ((rs.length + k : Nat) : Int) := ⟨by omega, by rw [MemS.acc_words]; omega⟩
    have i3 : ((m.acc 1 ((0 + k : Nat) : Int)).acc 1 ((rs.length + k : Nat) : Int)).inr ((0 + k : Nat) : Int) := ⟨by omega, by rw [MemS.acc_words, MemS.acc_words]; omega⟩
    have ih := ord_a j (k + 1) (((m.acc 1 ((0 + k : Nat) : Int)).acc 1 ((rs.length + k : Nat) : Int)).acc 1 ((0 + k : Nat) : Int)) (by omega) hm (by rw [MemS.acc_faults i3, MemS.acc_faults i2, MemS.acc_faults i1, hf])
    have sA := step_at m 0 j k wk sl (wA rs) hu (fun i hi => by rw [hm]; exact wC_a rs i (by rwa [wA_len] at hi)) (by rw [wA_len]; omega) (by rw [wA_len]; omega) (by omega)
    have sB := step_at (m.acc 1 ((0 + k : Nat) : Int)) rs.length j k wk sl (wB rs) hu (fun i hi => by rw [MemS.acc_words, hm]; exact wC_b rs i (by rwa [wB_len] at hi)) (by rw [MemS.acc_words, wB_len]; omega) (by rw [wB_len]; omega) (by rw [MemS.acc_words]; omega)
    have sC := step_at ((m.acc 1 ((0 + k : Nat) : Int)).acc 1 ((rs.length + k : Nat) : Int)) 0 (j + 2 * rs.length) k wk sl (wC rs) hu (fun i _ => by rw [MemS.acc_words, MemS.acc_words, hm, Nat.zero_add]) (by rw [MemS.acc_words, MemS.acc_words, hm]; omega) (by rw [wC_len]; omega) (by rw [MemS.acc_words, MemS.acc_words]; omega)
    rw [Nat.zero_add] at ih sA sC sB
    rw [Nat.zero_add] at sA sC
    refine Goods.to 2000 [.b true, .c (.of sA), .c (.of sB), .c (.of sC), .l, .stop] mixed (ih) (by kernel_rfl) ?_
    show Yes _
    repeat' apply And.intro
    (all_goals first | rfl | assumption | trivial | omega | (simp [-List.getD_eq_getElem?_getD] <;> omega) | (simp (disch := omega) only [w64, wu64] <;> omega) | (simp (disch := omega) [-List.getD_eq_getElem?_getD, List.getD_cons_zero, List.getD_cons_succ, kCast_self, dfl_pair, dfl_int, w64, wu64] <;> omega) | (rw [Bool.eq_iff_iff]; simp (disch := omega) [-List.getD_eq_getElem?_getD, List.getD_cons_zero, List.getD_cons_succ, kCast_self, dfl_pair, dfl_int, w64, wu64] <;> omega) | (simp_all [-List.getD_eq_getElem?_getD] <;> omega))
end
end Go.Proofs.YtmnpjemapdmigaaDoor.E
