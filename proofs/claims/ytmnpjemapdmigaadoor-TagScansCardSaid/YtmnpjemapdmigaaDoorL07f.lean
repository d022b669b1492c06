/- TagScans: the law's contract, from the scan on. -/
import Derived.Test.YtmnpjemapdmigaaDoorL07d
namespace Go.Proofs.YtmnpjemapdmigaaDoor.E
open Go
set_option maxRecDepth 100000

def caseC (rs : List RefT) (js : List Int) (wk sl a n : Nat) : AObj := .cells [.slice 0 0 rs.length, .slice 1 0 js.length, .int .u8 wk, .int .u8 sl, .int .u8 a, .int .u8 n]
def fW (f : Nat → Nat) : List Int := tabW 300 fun i => (f i : Int)
def segW (f : Nat → Nat) (a n : Nat) : List Int := tabW n fun i => (f (a + i) : Int)
theorem seg_len (f : Nat → Nat) (a n : Nat) : (segW f a n).length = n := tabW_len ..
noncomputable abbrev gScs (rs : List RefT) (js : List Int) : Frm := ⟨En, 7, Tryd.f7.ntmps, [.tab false RefK rs, .tab false (.int .u64) js], .bl true, gones 2⟩
section
variable (wk sl a n N : Nat) (rs : List RefT) (js : List Int) (f : Nat → Nat) (hwk : wk ≤ 255) (hsl : sl ≤ 255) (ha : a ≤ 255) (hn : n ≤ 255) (hN : N ≤ 255) (hf : ∀ i, f i < 18446744073709551616) (han : a + n ≤ 300)
include hwk hsl ha hn han
theorem sc_4 (T t : Nat) (hT : T ≤ n) (ht : t ≤ T) (hs : (∃ i, i < n ∧ f (a + i) = refN wk sl t) ↔ t < T) (m : MemS) (hm : m.words = fW f)
    (next : Goods (gScs rs js) ⟨.none, lp Tryd.f7 3, [(1, .ptr 2 0 0), (3, .ptr 3 0 0), (9, .int .i64 n), (13, .ptr 5 0 0), (14, .int .i64 (t + 1 : Nat))], hp [.tab false RefK rs, .tab false (.int .u64) js, caseC rs js wk sl a N, memC 4 m, memT m, .cells [.int .i64 wk, .int .i64 sl, .int .i64 T]]⟩) :
    ∀ (j k : Nat) (b : Bool), k + j = n → (b = true ↔ ∃ i, i < k ∧ f (a + i) = refN wk sl t) → Goods (gScs rs js) ⟨.none, lp Tryd.f7 4,
    [(1, .ptr 2 0 0), (3, .ptr 3 0 0), (9, .int .i64 n), (13, .ptr 5 0 0), (14, .int .i64 t), (15, .bl b), (142, .int .i64 n), (143, .int .i64 k)], hp [.tab false RefK rs, .tab false (.int .u64) js, caseC rs js wk sl a N, memC 4 m, memT m, .cells [.int .i64 wk, .int .i64 sl, .int .i64 T]]⟩
  | 0, k, b, h, hb => by
    obtain rfl : k = n := by omega
    rw [hs] at hb
    cases b with
    | true =>
      have hlt := hb.1 rfl
      refine Goods.to 2000 [.b false, .b false, .l, .stop] mixed (next) (by kernel_rfl) ?_
      show Yes _
      repeat' apply And.intro
      (all_goals first | rfl | assumption | trivial | omega | (simp [-List.getD_eq_getElem?_getD] <;> omega) | (simp (disch := omega) only [w64, wu64] <;> omega) | (simp (disch := omega) [-List.getD_eq_getElem?_getD, List.getD_cons_zero, List.getD_cons_succ, kCast_self, dfl_pair, dfl_int, w64, wu64] <;> omega) | (rw [Bool.eq_iff_iff]; simp (disch := omega) [-List.getD_eq_getElem?_getD, List.getD_cons_zero, List.getD_cons_succ, kCast_self, dfl_pair, dfl_int, w64, wu64] <;> omega) | (simp_all [-List.getD_eq_getElem?_getD] <;> omega))
    | false =>
      have hge : ¬ t < T := fun h => by cases hb.2 h
      refine Goods.to 2000 [.b false, .b false, .l, .stop] mixed (next) (by kernel_rfl) ?_
      show Yes _
      repeat' apply And.intro
      (all_goals first | rfl | assumption | trivial | omega | (simp [-List.getD_eq_getElem?_getD] <;> omega) | (simp (disch := omega) only [w64, wu64] <;> omega) | (simp (disch := omega) [-List.getD_eq_getElem?_getD, List.getD_cons_zero, List.getD_cons_succ, kCast_self, dfl_pair, dfl_int, w64, wu64] <;> omega) | (rw [Bool.eq_iff_iff]; simp (disch := omega) [-List.getD_eq_getElem?_getD, List.getD_cons_zero, List.getD_cons_succ, kCast_self, dfl_pair, dfl_int, w64, wu64] <;> omega) | (simp_all [-List.getD_eq_getElem?_getD] <;> omega))
  | j + 1, k, b, h, hb => by
    cases b with
    | true =>
      have ih := sc_4 T t hT ht hs m hm next j (k + 1) true (by omega) ⟨fun _ => by obtain ⟨i, hi, he⟩ := hb.1 rfl; exact ⟨i, by omega, he⟩, fun _ => rfl⟩
      refine Goods.to 2000 [.b true, .l, .stop] mixed (ih) (by kernel_rfl) ?_
      show Yes _
      repeat' apply And.intro
      (all_goals first | rfl | assumption | trivial | omega | (simp [-List.getD_eq_getElem?_getD] <;> omega) | (simp (disch := omega) only [w64, wu64] <;> omega) | (simp (disch := omega) [-List.getD_eq_getElem?_getD, List.getD_cons_zero, List.getD_cons_succ, kCast_self, dfl_pair, dfl_int, w64, wu64] <;> omega) | (rw [Bool.eq_iff_iff]; simp (disch := omega) [-List.getD_eq_getElem?_getD, List.getD_cons_zero, List.getD_cons_succ, kCast_self, dfl_pair, dfl_int, w64, wu64] <;> omega) | (simp_all [-List.getD_eq_getElem?_getD] <;> omega))
    | false =>
      have hno : ¬ ∃ i, i < k ∧ f (a + i) = refN wk sl t := fun h => by cases hb.2 h
      have hg : m.get ((a + k : Nat) : Int) = (f (a + k) : Int) := by
        rw [MemS.get_in ⟨by omega, by rw [hm, fW, tabW_len]; omega⟩, hm, Int.toNat_natCast, fW, tabW_get (by omega)]
      have hp := mem_peek m (a + k : Nat)
      rw [hg] at hp
      have ho := of_yes wk sl t (by omega) (by omega) (by omega)
      by_cases he : f (a + k) = refN wk sl t
      · have ih := sc_4 T t hT ht hs m hm next j (k + 1) true (by omega) ⟨fun _ => ⟨k, by omega, he⟩, fun _ => rfl⟩
        have he2 : (f (a + k) : Int) = (refN wk sl t : Int) := by rw [he]
        generalize refN wk sl t = x at he2 ho
        refine Goods.to 2000 [.b true, .k 154 (.of hp), .k 161 (.of ho), .s 162 (some true) true true, .l, .stop] mixed (ih) (by kernel_rfl) ?_
        show Yes _
        repeat' apply And.intro
        (all_goals first | rfl | assumption | trivial | omega | (simp [-List.getD_eq_getElem?_getD, he2] <;> omega) | (simp (disch := omega) only [w64, wu64] <;> omega) | (simp (disch := omega) [-List.getD_eq_getElem?_getD, List.getD_cons_zero, List.getD_cons_succ, kCast_self, dfl_pair, dfl_int, w64, wu64, he2] <;> omega) | (rw [Bool.eq_iff_iff]; simp (disch := omega) [-List.getD_eq_getElem?_getD, List.getD_cons_zero, List.getD_cons_succ, kCast_self, dfl_pair, dfl_int, w64, wu64, he2] <;> omega) | (simp_all [-List.getD_eq_getElem?_getD] <;> omega))
      · have ih := sc_4 T t hT ht hs m hm next j (k + 1) false (by omega) ⟨fun h => (nomatch h), fun ⟨i, hi, hx⟩ => by
          by_cases hik : i = k
          · subst hik; exact absurd hx he
          · exact absurd ⟨i, by omega, hx⟩ hno⟩
        have he2 : ¬ (f (a + k) : Int) = (refN wk sl t : Int) := by omega
        generalize refN wk sl t = x at he2 ho
        refine Goods.to 2000 [.b true, .k 154 (.of hp), .k 161 (.of ho), .s 162 (some false) true true, .l, .stop] mixed (ih) (by kernel_rfl) ?_
        show Yes _
        repeat' apply And.intro
        (all_goals first | rfl | assumption | trivial | omega | (simp [-List.getD_eq_getElem?_getD, he2] <;> omega) | (simp (disch := omega) only [w64, wu64] <;> omega) | (simp (disch := omega) [-List.getD_eq_getElem?_getD, List.getD_cons_zero, List.getD_cons_succ, kCast_self, dfl_pair, dfl_int, w64, wu64, he2] <;> omega) | (rw [Bool.eq_iff_iff]; simp (disch := omega) [-List.getD_eq_getElem?_getD, List.getD_cons_zero, List.getD_cons_succ, kCast_self, dfl_pair, dfl_int, w64, wu64, he2] <;> omega) | (simp_all [-List.getD_eq_getElem?_getD] <;> omega))
theorem sc_3 (T : Nat) (hT : T ≤ n) (hs : ∀ t, t ≤ T → ((∃ i, i < n ∧ f (a + i) = refN wk sl t) ↔ t < T)) (m : MemS) (hm : m.words = fW f) : ∀ (j t : Nat), t + j = T + 1 →
    Goods (gScs rs js) ⟨.none, lp Tryd.f7 3, [(1, .ptr 2 0 0), (3, .ptr 3 0 0), (9, .int .i64 n), (13, .ptr 5 0 0), (14, .int .i64 t)], hp [.tab false RefK rs, .tab false (.int .u64) js, caseC rs js wk sl a N, memC 4 m, memT m, .cells [.int .i64 wk, .int .i64 sl, .int .i64 T]]⟩
  | 0, t, h => by
    refine Goods.fin 2000 [.b false, .s 173 (some true) true true] mixed Tryd.func7 ?_
    show Yes _
    repeat' apply And.intro
    (all_goals first | rfl | assumption | trivial | omega | (simp [-List.getD_eq_getElem?_getD] <;> omega) | (simp (disch := omega) only [w64, wu64] <;> omega) | (simp (disch := omega) [-List.getD_eq_getElem?_getD, List.getD_cons_zero, List.getD_cons_succ, kCast_self, dfl_pair, dfl_int, w64, wu64] <;> omega) | (rw [Bool.eq_iff_iff]; simp (disch := omega) [-List.getD_eq_getElem?_getD, List.getD_cons_zero, List.getD_cons_succ, kCast_self, dfl_pair, dfl_int, w64, wu64] <;> omega) | (simp_all [-List.getD_eq_getElem?_getD] <;> omega))
  | j + 1, t, h => by
    have ih := sc_4 wk sl a n N rs js f hwk hsl ha hn han T t hT (by omega) (hs t (by omega)) m hm (sc_3 T hT hs m hm j (t + 1) (by omega)) n 0 false (by omega) ⟨fun h => (nomatch h), fun ⟨i, hi, _⟩ => by omega⟩
    refine Goods.to 2000 [.b true, .l, .stop] mixed (ih) (by kernel_rfl) ?_
    show Yes _
    repeat' apply And.intro
    (all_goals first | rfl | assumption | trivial | omega | (simp [-List.getD_eq_getElem?_getD] <;> omega) | (simp (disch := omega) only [w64, wu64] <;> omega) | (simp (disch := omega) [-List.getD_eq_getElem?_getD, List.getD_cons_zero, List.getD_cons_succ, kCast_self, dfl_pair, dfl_int, w64, wu64] <;> omega) | (rw [Bool.eq_iff_iff]; simp (disch := omega) [-List.getD_eq_getElem?_getD, List.getD_cons_zero, List.getD_cons_succ, kCast_self, dfl_pair, dfl_int, w64, wu64] <;> omega) | (simp_all [-List.getD_eq_getElem?_getD] <;> omega))
include hf
theorem sc_2 (L : Nat) (hL : L ≤ 300) : ∀ (j k : Nat) (m : MemS), k + j = n → m.words = fW f → m.ops = (L + k : Nat) → m.faults = 0 →
    Goods (gScs rs js) ⟨.none, lp Tryd.f7 2, [(1, .ptr 2 0 0), (3, .ptr 3 0 0), (9, .int .i64 n), (10, .int .i64 L), (11, .ptr 5 0 0), (81, .int .i64 n), (82, .int .i64 k)], hp [.tab false RefK rs, .tab false (.int .u64) js, caseC rs js wk sl a N, memC 4 m, memT m, scanC 3 6 (a + k : Nat) j wk sl (hits wk sl ((segW f a n).take k)), tagsT (hits wk sl ((segW f a n).take k))]⟩
  | 0, k, m, h, hm, ho, hF => by
    obtain rfl : k = n := by omega
    rw [List.take_of_length_le (by rw [seg_len]; omega)]
    have hlen := hits_len (wk : Int) (sl : Int) (segW f a k)
    rw [seg_len] at hlen
    have hsp := leastT_spec (hits wk sl (segW f a k))
    have hs : ∀ t, t ≤ leastT (hits wk sl (segW f a k)) → ((∃ i, i < k ∧ f (a + i) = refN wk sl t) ↔ t < leastT (hits wk sl (segW f a k))) := by
      intro t ht
      have := tab_hits wk sl k (by omega) (by omega) (fun i => f (a + i)) t (by omega)
      rw [← this]
      constructor
      · intro hmem
        apply Classical.byContradiction; intro hc
        obtain rfl : t = leastT (hits wk sl (segW f a k)) := by omega
        exact hsp.2.2 hmem
      · exact hsp.2.1 t
    have ih := sc_3 wk sl a k N rs js f hwk hsl ha hn han (leastT (hits wk sl (segW f a k))) (by omega) hs m hm (leastT (hits wk sl (segW f a k)) + 1) 0 (by omega)
    have hT : leastT (hits wk sl (segW f a k)) ≤ k := by omega
    generalize hits wk sl (segW f a k) = us at ih hlen hT
    have hr := ref_tri m (a + k : Nat) 0 wk sl us (by omega)
    have he := step_end m (a + k : Nat) wk sl us
    have hO := mem_ops m
    rw [ho] at hO
    have hFF := mem_faults m
    rw [hF] at hFF
    refine Goods.to 2000 [.b false, .c (.of hr), .k 105 (.of he), .k 109 (.of hO), .s 113 (some false) true true, .k 117 (.of hFF), .s 118 (some false) true true, .s 126 (some false) true true, .b false, .l, .stop] mixed (ih) (by kernel_rfl) ?_
    show Yes _
    repeat' apply And.intro
    (all_goals first | rfl | assumption | trivial | omega | (simp [-List.getD_eq_getElem?_getD] <;> omega) | (simp (disch := omega) only [w64, wu64] <;> omega) | (simp (disch := omega) [-List.getD_eq_getElem?_getD, List.getD_cons_zero, List.getD_cons_succ, kCast_self, dfl_pair, dfl_int, w64, wu64] <;> omega) | (rw [Bool.eq_iff_iff]; simp (disch := omega) [-List.getD_eq_getElem?_getD, List.getD_cons_zero, List.getD_cons_succ, kCast_self, dfl_pair, dfl_int, w64, wu64] <;> omega) | (simp_all [-List.getD_eq_getElem?_getD] <;> omega))
  | j + 1, k, m, h, hm, ho, hF => by
    have hin : m.inr ((a + k : Nat) : Int) := ⟨by omega, by rw [hm, fW, tabW_len]; omega⟩
    have hos : (m.acc 1 ((a + k : Nat) : Int)).ops = (L + (k + 1) : Nat) := by rw [MemS.acc_ops, ho]; exact inc_nat (by omega)
    have ih := sc_2 L hL j (k + 1) (m.acc 1 ((a + k : Nat) : Int)) (by omega) hm hos (by rw [MemS.acc_faults hin, hF])
    have hs := step_at m a j k wk sl (segW f a n) (by rw [hm]; exact tab_u64 _ _ fun i _ => hf i) (fun i hi => by rw [seg_len] at hi; rw [hm, fW, segW, tabW_get (by omega), tabW_get hi]) (by rw [hm, fW, tabW_len, seg_len]; omega) (by rw [seg_len]; omega) (by rw [hm, fW, tabW_len]; omega)
    have hO := mem_ops (m.acc 1 ((a + k : Nat) : Int))
    rw [hos] at hO
    have e : decide ((j : Int) = 0) = ((k : Int) == IntKind.i64.wrap (n - 1)) := by rw [w64 (by omega) (by omega), Bool.eq_iff_iff]; simp; omega
    refine Goods.to 2000 [.b true, .c (.of hs), .s 91 (some false) true true, .c (.of hO), .b false, .l, .stop] mixed (ih) (by kernel_rfl) ?_
    show Yes _
    repeat' apply And.intro
    (all_goals first | rfl | assumption | trivial | omega | (simp [-List.getD_eq_getElem?_getD, e] <;> omega) | (simp (disch := omega) only [w64, wu64] <;> omega) | (simp (disch := omega) [-List.getD_eq_getElem?_getD, List.getD_cons_zero, List.getD_cons_succ, kCast_self, dfl_pair, dfl_int, w64, wu64, e] <;> omega) | (rw [Bool.eq_iff_iff]; simp (disch := omega) [-List.getD_eq_getElem?_getD, List.getD_cons_zero, List.getD_cons_succ, kCast_self, dfl_pair, dfl_int, w64, wu64, e] <;> omega) | (simp_all [-List.getD_eq_getElem?_getD] <;> omega))
end
end Go.Proofs.YtmnpjemapdmigaaDoor.E
