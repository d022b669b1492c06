/- WholeTags: the law's contract. -/
import Derived.Test.YtcicfbccdgkfhaaDoorLTc
namespace Go.Proofs.YtcicfbccdgkfhaaDoor.E
open Go
set_option maxRecDepth 100000

set_option maxHeartbeats 4000000 in
theorem wt_hold (ps : List Int) (hps : ps.length ≤ 300) (W : Nat) (hW : W ≤ 6) (hW1 : 1 ≤ W) (S : Nat) (g : Nat → Nat) (m m2 : MemS) (hI : TgI W S g m) (k p w h0 : Nat) (hk : k < ps.length) (hy : ps.getD k (dfl (.int .u8)) = (p : Int)) (hp2 : p ≤ 255) (hbig : 128 ≤ p) (hw : w = p % W) (hh : g 0 = h0) (hm2 : ((m.acc 1 ((0 : Nat) : Int)).acc 2 ((1 + w : Nat) : Int)).put ((1 + w : Nat) : Int) (h0 : Int) = m2) (ih : Goods (gWt ps) (wtSt ps W m2 (k + 1))) : Goods (gWt ps) (wtSt ps W m k) := by
  have hlt : p % W < W := Nat.mod_lt _ (by omega)
  have f1 := fr_head (frOk hW)
  have l1 := mem_load m ((0 : Nat) : Int)
  rw [hI.gm (by omega), hh] at l1
  have f2 := fr_held (frOk hW) (i := (w : Int)) (by omega) (by omega)
  rw [show (0 : Int) + 1 + (w : Int) = ((1 + w : Nat) : Int) by omega] at f2
  have s2 := mem_store (m.acc 1 ((0 : Nat) : Int)) ((1 + w : Nat) : Int) (h0 : Int)
  rw [hm2] at s2
  have e1 : Int.tmod (IntKind.i64.wrap (ps.getD k 0)) (W : Int) = (w : Int) := by
    rw [show ps.getD k 0 = (p : Int) from hy, w64 (by omega) (by omega), Int.tmod_eq_emod_of_nonneg (by omega), hw]; simp
  have e2 : IntKind.i64.wrap (Int.tmod (IntKind.i64.wrap (ps.getD k 0)) (W : Int)) = (w : Int) := by rw [e1, w64 (by omega) (by omega)]
  clear hm2
  have hmw : m.words = (m.acc 1 ((0 : Nat) : Int)).words := rfl
  generalize m.acc 1 ((0 : Nat) : Int) = m1 at *
  refine Goods.to 2000 [.b true, .k 54 (.of f1), .k 55 (.of l1), .b true, .k 61 (.of f2), .k 63 (.of s2), .l, .stop] mixed (ih) (by kernel_rfl) ?_
  show Yes _
  repeat' apply And.intro
  all_goals try first | exact hmw | exact e1 | exact e2
  (all_goals first | rfl | assumption | trivial | omega | (simp [-List.getD_eq_getElem?_getD, hy] <;> omega) | (simp (disch := omega) only [w64, wu64] <;> omega) | (simp (disch := omega) [-List.getD_eq_getElem?_getD, List.getD_cons_zero, List.getD_cons_succ, kCast_self, dfl_pair, dfl_int, w64, wu64, hy] <;> omega) | (rw [Bool.eq_iff_iff]; simp (disch := omega) [-List.getD_eq_getElem?_getD, List.getD_cons_zero, List.getD_cons_succ, kCast_self, dfl_pair, dfl_int, w64, wu64, hy] <;> omega) | (simp_all [-List.getD_eq_getElem?_getD] <;> omega))
set_option maxHeartbeats 4000000 in
theorem wt_newa (ps : List Int) (hps : ps.length ≤ 300) (W : Nat) (hW : W ≤ 6) (hW1 : 1 ≤ W) (S : Nat) (g : Nat → Nat) (m : MemS) (hI : TgI W S g m) (k p w h0 a b t : Nat) (hk : k < ps.length) (hy : ps.getD k (dfl (.int .u8)) = (p : Int)) (hp2 : p ≤ 255) (hsm : p < 128) (hw : w = p % W) (hh : g 0 = h0) (h1 : h0 = refN a b t) (ha : a < 256) (hb : b < 256) (ht : t < 4294967296) (hc : a = w ∧ b = 0) (ih : Goods (gWt ps) (wt1 ps W (m.acc 1 ((0 : Nat) : Int)) k h0 w 1 0 W [])) : Goods (gWt ps) (wtSt ps W m k) := by
  have hlt : p % W < W := Nat.mod_lt _ (by omega)
  have f1 := fr_head (frOk hW)
  have l1 := mem_load m ((0 : Nat) : Int)
  rw [hI.gm (by omega), hh] at l1
  have t1 := to_of a b t ha hb ht
  rw [← h1] at t1
  have f2 := fr_held (frOk hW) (i := 0) (by omega) (by omega)
  have n1 := scan_new (m.acc 1 ((0 : Nat) : Int)) 1 W w 1
  rw [show max (W : Int) 0 = (W : Int) by omega] at n1
  have e1 : Int.tmod (IntKind.i64.wrap (ps.getD k 0)) (W : Int) = (w : Int) := by
    rw [show ps.getD k 0 = (p : Int) from hy, w64 (by omega) (by omega), Int.tmod_eq_emod_of_nonneg (by omega), hw]; simp
  have e2 : IntKind.i64.wrap (Int.tmod (IntKind.i64.wrap (ps.getD k 0)) (W : Int)) = (w : Int) := by rw [e1, w64 (by omega) (by omega)]
  have e3 : ((a : Int) == IntKind.i64.wrap (Int.tmod (IntKind.i64.wrap (ps.getD k 0)) (W : Int))) = decide (a = w) := by rw [e2]; by_cases h : a = w <;> simp [h] <;> omega
  have e4 : ((a : Int) == Int.tmod (IntKind.i64.wrap (ps.getD k 0)) (W : Int)) = decide (a = w) := by rw [e1]; by_cases h : a = w <;> simp [h] <;> omega
  clear h1
  unfold wt1 at ih
  have hmw : m.words = (m.acc 1 ((0 : Nat) : Int)).words := rfl
  generalize m.acc 1 ((0 : Nat) : Int) = m1 at *
  refine Goods.to 2000 [.b true, .k 54 (.of f1), .k 55 (.of l1), .b false, .c (.of t1), .s 74 (some true) true true, .s 78 (some true) true true, .k 82 (.of f2), .k 87 (.of n1), .l, .stop] mixed (ih) (by kernel_rfl) ?_
  show Yes _
  repeat' apply And.intro
  all_goals try first | exact hmw | exact e1 | exact e2 | (rw [e3]; first | exact decide_eq_true (by omega) | exact decide_eq_false (by omega)) | (rw [e4]; first | exact decide_eq_true (by omega) | exact decide_eq_false (by omega))
  (all_goals first | rfl | assumption | trivial | omega | (simp [-List.getD_eq_getElem?_getD, hy] <;> omega) | (simp (disch := omega) only [w64, wu64] <;> omega) | (simp (disch := omega) [-List.getD_eq_getElem?_getD, List.getD_cons_zero, List.getD_cons_succ, kCast_self, dfl_pair, dfl_int, w64, wu64, hy] <;> omega) | (rw [Bool.eq_iff_iff]; simp (disch := omega) [-List.getD_eq_getElem?_getD, List.getD_cons_zero, List.getD_cons_succ, kCast_self, dfl_pair, dfl_int, w64, wu64, hy] <;> omega) | (simp_all [-List.getD_eq_getElem?_getD] <;> omega))
set_option maxHeartbeats 4000000 in
theorem wt_newb (ps : List Int) (hps : ps.length ≤ 300) (W : Nat) (hW : W ≤ 6) (hW1 : 1 ≤ W) (S : Nat) (g : Nat → Nat) (m : MemS) (hI : TgI W S g m) (k p w h0 a b t : Nat) (hk : k < ps.length) (hy : ps.getD k (dfl (.int .u8)) = (p : Int)) (hp2 : p ≤ 255) (hsm : p < 128) (hw : w = p % W) (hh : g 0 = h0) (h1 : h0 = refN a b t) (ha : a < 256) (hb : b < 256) (ht : t < 4294967296) (hc : a ≠ w) (ih : Goods (gWt ps) (wt1 ps W (m.acc 1 ((0 : Nat) : Int)) k h0 w 0 0 W [])) : Goods (gWt ps) (wtSt ps W m k) := by
  have hlt : p % W < W := Nat.mod_lt _ (by omega)
  have f1 := fr_head (frOk hW)
  have l1 := mem_load m ((0 : Nat) : Int)
  rw [hI.gm (by omega), hh] at l1
  have t1 := to_of a b t ha hb ht
  rw [← h1] at t1
  have f2 := fr_held (frOk hW) (i := 0) (by omega) (by omega)
  have n1 := scan_new (m.acc 1 ((0 : Nat) : Int)) 1 W w 0
  rw [show max (W : Int) 0 = (W : Int) by omega] at n1
  have e1 : Int.tmod (IntKind.i64.wrap (ps.getD k 0)) (W : Int) = (w : Int) := by
    rw [show ps.getD k 0 = (p : Int) from hy, w64 (by omega) (by omega), Int.tmod_eq_emod_of_nonneg (by omega), hw]; simp
  have e2 : IntKind.i64.wrap (Int.tmod (IntKind.i64.wrap (ps.getD k 0)) (W : Int)) = (w : Int) := by rw [e1, w64 (by omega) (by omega)]
  have e3 : ((a : Int) == IntKind.i64.wrap (Int.tmod (IntKind.i64.wrap (ps.getD k 0)) (W : Int))) = decide (a = w) := by rw [e2]; by_cases h : a = w <;> simp [h] <;> omega
  have e4 : ((a : Int) == Int.tmod (IntKind.i64.wrap (ps.getD k 0)) (W : Int)) = decide (a = w) := by rw [e1]; by_cases h : a = w <;> simp [h] <;> omega
  clear h1
  unfold wt1 at ih
  have hmw : m.words = (m.acc 1 ((0 : Nat) : Int)).words := rfl
  generalize m.acc 1 ((0 : Nat) : Int) = m1 at *
  refine Goods.to 2000 [.b true, .k 54 (.of f1), .k 55 (.of l1), .b false, .c (.of t1), .s 74 (some false) true true, .k 82 (.of f2), .k 87 (.of n1), .l, .stop] mixed (ih) (by kernel_rfl) ?_
  show Yes _
  repeat' apply And.intro
  all_goals try first | exact hmw | exact e1 | exact e2 | (rw [e3]; first | exact decide_eq_true (by omega) | exact decide_eq_false (by omega)) | (rw [e4]; first | exact decide_eq_true (by omega) | exact decide_eq_false (by omega))
  (all_goals first | rfl | assumption | trivial | omega | (simp [-List.getD_eq_getElem?_getD, hy] <;> omega) | (simp (disch := omega) only [w64, wu64] <;> omega) | (simp (disch := omega) [-List.getD_eq_getElem?_getD, List.getD_cons_zero, List.getD_cons_succ, kCast_self, dfl_pair, dfl_int, w64, wu64, hy] <;> omega) | (rw [Bool.eq_iff_iff]; simp (disch := omega) [-List.getD_eq_getElem?_getD, List.getD_cons_zero, List.getD_cons_succ, kCast_self, dfl_pair, dfl_int, w64, wu64, hy] <;> omega) | (simp_all [-List.getD_eq_getElem?_getD] <;> omega))
set_option maxHeartbeats 4000000 in
theorem wt_newc (ps : List Int) (hps : ps.length ≤ 300) (W : Nat) (hW : W ≤ 6) (hW1 : 1 ≤ W) (S : Nat) (g : Nat → Nat) (m : MemS) (hI : TgI W S g m) (k p w h0 a b t : Nat) (hk : k < ps.length) (hy : ps.getD k (dfl (.int .u8)) = (p : Int)) (hp2 : p ≤ 255) (hsm : p < 128) (hw : w = p % W) (hh : g 0 = h0) (h1 : h0 = refN a b t) (ha : a < 256) (hb : b < 256) (ht : t < 4294967296) (hc : a = w ∧ b ≠ 0) (ih : Goods (gWt ps) (wt1 ps W (m.acc 1 ((0 : Nat) : Int)) k h0 w 0 0 W [])) : Goods (gWt ps) (wtSt ps W m k) := by
  have hlt : p % W < W := Nat.mod_lt _ (by omega)
  have f1 := fr_head (frOk hW)
  have l1 := mem_load m ((0 : Nat) : Int)
  rw [hI.gm (by omega), hh] at l1
  have t1 := to_of a b t ha hb ht
  rw [← h1] at t1
  have f2 := fr_held (frOk hW) (i := 0) (by omega) (by omega)
  have n1 := scan_new (m.acc 1 ((0 : Nat) : Int)) 1 W w 0
  rw [show max (W : Int) 0 = (W : Int) by omega] at n1
  have e1 : Int.tmod (IntKind.i64.wrap (ps.getD k 0)) (W : Int) = (w : Int) := by
    rw [show ps.getD k 0 = (p : Int) from hy, w64 (by omega) (by omega), Int.tmod_eq_emod_of_nonneg (by omega), hw]; simp
  have e2 : IntKind.i64.wrap (Int.tmod (IntKind.i64.wrap (ps.getD k 0)) (W : Int)) = (w : Int) := by rw [e1, w64 (by omega) (by omega)]
  have e3 : ((a : Int) == IntKind.i64.wrap (Int.tmod (IntKind.i64.wrap (ps.getD k 0)) (W : Int))) = decide (a = w) := by rw [e2]; by_cases h : a = w <;> simp [h] <;> omega
  have e4 : ((a : Int) == Int.tmod (IntKind.i64.wrap (ps.getD k 0)) (W : Int)) = decide (a = w) := by rw [e1]; by_cases h : a = w <;> simp [h] <;> omega
  clear h1
  unfold wt1 at ih
  have hmw : m.words = (m.acc 1 ((0 : Nat) : Int)).words := rfl
  generalize m.acc 1 ((0 : Nat) : Int) = m1 at *
  refine Goods.to 2000 [.b true, .k 54 (.of f1), .k 55 (.of l1), .b false, .c (.of t1), .s 74 (some true) true true, .s 78 (some false) true true, .k 82 (.of f2), .k 87 (.of n1), .l, .stop] mixed (ih) (by kernel_rfl) ?_
  show Yes _
  repeat' apply And.intro
  all_goals try first | exact hmw | exact e1 | exact e2 | (rw [e3]; first | exact decide_eq_true (by omega) | exact decide_eq_false (by omega)) | (rw [e4]; first | exact decide_eq_true (by omega) | exact decide_eq_false (by omega))
  (all_goals first | rfl | assumption | trivial | omega | (simp [-List.getD_eq_getElem?_getD, hy] <;> omega) | (simp (disch := omega) only [w64, wu64] <;> omega) | (simp (disch := omega) [-List.getD_eq_getElem?_getD, List.getD_cons_zero, List.getD_cons_succ, kCast_self, dfl_pair, dfl_int, w64, wu64, hy] <;> omega) | (rw [Bool.eq_iff_iff]; simp (disch := omega) [-List.getD_eq_getElem?_getD, List.getD_cons_zero, List.getD_cons_succ, kCast_self, dfl_pair, dfl_int, w64, wu64, hy] <;> omega) | (simp_all [-List.getD_eq_getElem?_getD] <;> omega))
theorem wt_peeks (ps : List Int) (hps : ps.length ≤ 300) (W : Nat) (hW : W ≤ 6) (S : Nat) (g : Nat → Nat) (m m2 : MemS) (hI : TgI W S g m) (k h0 w sd : Nat) (hk : k < ps.length) (hh : g 0 = h0) (hw : w < 256) (hs : sd < 256) (ht : leastT (hsT g w sd W) < 4294967296) (hm2 : (m.acc 4 ((0 : Nat) : Int)).put ((0 : Nat) : Int) (refN w sd (leastT (hsT g w sd W)) : Nat) = m2) (ih : Goods (gWt ps) (wtSt ps W m2 (k + 1))) : ∀ (j v : Nat), v + j = W → Goods (gWt ps) (wt2 ps W m k h0 w sd (leastT (hsT g w sd W)) v)
  | 0, v, hv => by
    obtain rfl : v = W := by omega
    exact wt_lay ps hps v hW S g m m2 hI k h0 w sd _ hk hh hw hs ht hm2 ih
  | j + 1, v, hv => wt_peek ps W hW S g m hI k h0 w sd _ v _ (by omega) rfl (hs_free g w sd W v hw hs ht (by omega)) hw hs ht (wt_peeks ps hps W hW S g m m2 hI k h0 w sd hk hh hw hs ht hm2 ih j (v + 1) (by omega))
theorem wt_scans (ps : List Int) (W : Nat) (hW : W ≤ 6) (S : Nat) (g : Nat → Nat) (k h0 w sd : Nat) (ih : ∀ m, TgI W S g m → Goods (gWt ps) (wt1 ps W m k h0 w sd W 0 (hsT g w sd W))) : ∀ (r i : Nat) (m : MemS), i + r = W → TgI W S g m → Goods (gWt ps) (wt1 ps W m k h0 w sd i r (hsT g w sd i))
  | 0, i, m, hi, hI => by
    obtain rfl : i = W := by omega
    exact ih m hI
  | r + 1, i, m, hi, hI => by
    refine wt_scan ps W hW S g m hI k h0 w sd i r hi _ _ (hs_len g w sd i) (hs_step g w sd i) ?_
    exact wt_scans ps W hW S g k h0 w sd ih r (i + 1) _ (by omega) (hI.acc (by omega))
theorem wt_0 (ps : List Int) (hps : ps.length ≤ 300) (hok : ∀ k, k < ps.length → ∃ y : Nat, ps.getD k (dfl (.int .u8)) = (y : Int) ∧ y ≤ 255) (W : Nat) (hW : W ≤ 6) (hW1 : 1 ≤ W) (S : Nat) : ∀ (j k : Nat) (g : Nat → Nat) (m : MemS), k + j = ps.length → TgI W S g m → Goods (gWt ps) (wtSt ps W m k)
  | 0, k, g, m, hk, hI => by
    obtain rfl : k = ps.length := by omega
    exact wt_last ps W S g m hI
  | j + 1, k, g, m, hk, hI => by
    obtain ⟨p, hy, hp2⟩ := hok k (by omega)
    have hlt : p % W < W := Nat.mod_lt _ (by omega)
    obtain ⟨a, b, t, h1, ha, hb, ht⟩ := hI.hd
    by_cases hbig : 128 ≤ p
    · exact wt_hold ps hps W hW hW1 S g m _ hI k p (p % W) (g 0) (by omega) hy hp2 hbig rfl rfl rfl (wt_0 ps hps hok W hW hW1 S j (k + 1) _ _ (by omega) ((hI.acc (i := 0) (by omega)).put (i := 1 + p % W) (by omega) (hI.h1 0) fun h => by omega))
    · have fin : ∀ sd, sd < 256 → Goods (gWt ps) (wt1 ps W (m.acc 1 ((0 : Nat) : Int)) k (g 0) (p % W) sd 0 W []) := fun sd hs => by
        have hle : leastT (hsT g (p % W) sd W) ≤ 6 := by
          have := (leastT_spec (hsT g (p % W) sd W)).1
          have := hs_len g (p % W) sd W
          omega
        refine wt_scans ps W hW S g k (g 0) (p % W) sd (fun m hI => ?_) W 0 _ (by omega) (hI.acc (i := 0) (by omega))
        refine wt_ref ps W hW m k (g 0) (p % W) sd _ (hs_len g _ sd W) ?_
        refine wt_peeks ps hps W hW S g m _ hI k (g 0) (p % W) sd (by omega) rfl (by omega) hs (by omega) rfl ?_ W 0 (by omega)
        exact wt_0 ps hps hok W hW hW1 S j (k + 1) _ _ (by omega) (hI.put (i := 0) (by omega) (refN_lt ..) fun _ => ⟨_, _, _, rfl, by omega, hs, by omega⟩)
      by_cases c1 : a = p % W
      · by_cases c2 : b = 0
        · exact wt_newa ps hps W hW hW1 S g m hI k p _ _ a b t (by omega) hy hp2 (by omega) rfl rfl h1 ha hb ht ⟨c1, c2⟩ (fin 1 (by omega))
        · exact wt_newc ps hps W hW hW1 S g m hI k p _ _ a b t (by omega) hy hp2 (by omega) rfl rfl h1 ha hb ht ⟨c1, c2⟩ (fin 0 (by omega))
      · exact wt_newb ps hps W hW hW1 S g m hI k p _ _ a b t (by omega) hy hp2 (by omega) rfl rfl h1 ha hb ht c1 (fin 0 (by omega))
set_option maxHeartbeats 4000000 in
theorem WholeTags_tri (wk : Nat) (hwk : wk ≤ 255) (ps : List Int) (hpl : ps.length ≤ 9223372036854775807) (hok : ∀ k, k < ps.length → ∃ y : Nat, ps.getD k (dfl (.int .u8)) = (y : Int) ∧ y ≤ 255) : Tri En 3 [.int .u8 wk, .slice 0 0 ps.length] [.tab false (.int .u8) ps] (.bl true) (gones 1) := by
  obtain ⟨W, hWd⟩ : ∃ W, W = 1 + wk % 6 := ⟨_, rfl⟩
  have hW : W ≤ 6 := by omega
  have hW1 : 1 ≤ W := by omega
  have e1 : IntKind.i64.wrap (1 + Int.tmod (IntKind.i64.wrap (wk : Int)) 6) = (W : Int) := by
    rw [w64 (x := (wk : Int)) (by omega) (by omega), Int.tmod_eq_emod_of_nonneg (by omega), w64 (by omega) (by omega), hWd]; omega
  obtain ⟨S, hS⟩ : ∃ S : Nat, (1 + 4 * (W : Int) + 2 * (W : Int) * fRec 1 W) = (S : Int) ∧ W + 1 ≤ S ∧ S ≤ 1000 := by
    have h1 : (W : Int) * (1 + 3 * (W : Int)) ≤ 6 * 19 := Int.mul_le_mul (by omega) (by omega) (by omega) (by omega)
    have h2 : 0 ≤ (W : Int) * (1 + 3 * (W : Int)) := Int.mul_nonneg (by omega) (by omega)
    have h3 : 2 * (W : Int) * fRec 1 W = 2 * ((W : Int) * (1 + 3 * (W : Int))) := by unfold fRec; rw [Int.mul_assoc]
    rw [h3]
    exact ⟨(1 + 4 * (W : Int) + 2 * ((W : Int) * (1 + 3 * (W : Int)))).toNat, by omega, by omega, by omega⟩
  have fs := fr_size (frOk hW)
  rw [hS.1] at fs
  have nm := mem_new (S : Int)
  rw [show (min (max (S : Int) 0) 16777216).toNat = S by omega] at nm
  have lt := least_tri true (l := [0]) (by simp)
  rw [show leastT [0] = 1 by decide] at lt
  refine Tri.of Tryd.func3 rfl Tryd.call3 rfl ?_
  by_cases hl : ps.length ≤ 300
  · have f1 := fr_head (frOk hW)
    have o1 := of_yes 0 0 0 (by omega) (by omega) (by omega)
    have st := mem_store ⟨List.replicate S 0, 0, 0, 0, 0⟩ ((0 : Nat) : Int) (refN 0 0 0 : Nat)
    have hin : (⟨List.replicate S 0, 0, 0, 0, 0⟩ : MemS).inr ((0 : Nat) : Int) := ⟨by omega, by show (0 : Int) < ((List.replicate S 0).length : Int); rw [List.length_replicate]; omega⟩
    have hI : TgI W S (updG (fun _ => 0) 0 (refN 0 0 0)) (((⟨List.replicate S 0, 0, 0, 0, 0⟩ : MemS).acc 2 ((0 : Nat) : Int)).put ((0 : Nat) : Int) (refN 0 0 0 : Nat)) := by
      refine ⟨?_, hS.2.1, by omega, fun j => ?_, by rw [MemS.put_faults hin], ⟨0, 0, 0, rfl, by omega, by omega, by omega⟩⟩
      · rw [MemS.put_words hin]
        show (List.replicate S 0).set 0 _ = _
        rw [tabW_zero]
        refine tabW_set' fun j hj => ?_
        unfold updG
        split <;> rfl
      · unfold updG
        split
        · exact refN_lt ..
        · show (0 : Nat) < _
          omega
    have ih := wt_0 ps hl hok W hW hW1 S ps.length 0 _ _ (by omega) hI
    clear hI
    generalize (((⟨List.replicate S 0, 0, 0, 0, 0⟩ : MemS).acc 2 ((0 : Nat) : Int)).put ((0 : Nat) : Int) (refN 0 0 0 : Nat)) = m1 at *
    generalize (⟨List.replicate S 0, 0, 0, 0, 0⟩ : MemS) = m0 at *
    generalize refN 0 0 0 = z at *
    refine Goods.to 2000 [.c (.of fs), .c (.of nm), .k 29 (.of lt), .s 30 (some false) true true, .b false, .k 37 (.of f1), .k 39 (.of o1), .k 40 (.of st), .l, .stop] mixed (ih) (by kernel_rfl) ?_
    show Yes _
    repeat' apply And.intro
    all_goals try exact e1
    (all_goals first | rfl | assumption | trivial | omega | (simp [-List.getD_eq_getElem?_getD, e1] <;> omega) | (simp (disch := omega) only [w64, wu64] <;> omega) | (simp (disch := omega) [-List.getD_eq_getElem?_getD, List.getD_cons_zero, List.getD_cons_succ, kCast_self, dfl_pair, dfl_int, w64, wu64, e1] <;> omega) | (rw [Bool.eq_iff_iff]; simp (disch := omega) [-List.getD_eq_getElem?_getD, List.getD_cons_zero, List.getD_cons_succ, kCast_self, dfl_pair, dfl_int, w64, wu64, e1] <;> omega) | (simp_all [-List.getD_eq_getElem?_getD] <;> omega))
  · refine Goods.fin 2000 [.c (.of fs), .c (.of nm), .k 29 (.of lt), .s 30 (some false) true true, .b true] mixed Tryd.func3 ?_
    show Yes _
    repeat' apply And.intro
    all_goals try exact e1
    (all_goals first | rfl | assumption | trivial | omega | (simp [-List.getD_eq_getElem?_getD, e1] <;> omega) | (simp (disch := omega) only [w64, wu64] <;> omega) | (simp (disch := omega) [-List.getD_eq_getElem?_getD, List.getD_cons_zero, List.getD_cons_succ, kCast_self, dfl_pair, dfl_int, w64, wu64, e1] <;> omega) | (rw [Bool.eq_iff_iff]; simp (disch := omega) [-List.getD_eq_getElem?_getD, List.getD_cons_zero, List.getD_cons_succ, kCast_self, dfl_pair, dfl_int, w64, wu64, e1] <;> omega) | (simp_all [-List.getD_eq_getElem?_getD] <;> omega))
theorem u8s_at {xs : List Int} (h : ∀ y ∈ xs, okK (.int .u8) y) : ∀ k, k < xs.length → ∃ y : Nat, xs.getD k (dfl (.int .u8)) = (y : Int) ∧ y ≤ 255 := fun k hk => wf_u8 (h (xs.getD k (dfl (.int .u8))) (by simp [List.getD, hk]))
theorem WholeTags_law (d : dats ([(false, (.int .u8)), (false, (.slice (.int .u8)))] : List (Bool × Sh))) (hd : datsOk ([(false, (.int .u8)), (false, (.slice (.int .u8)))] : List (Bool × Sh)) d) : Tri En 3 (argsOf ([(false, (.int .u8)), (false, (.slice (.int .u8)))] : List (Bool × Sh)) d 0) (objsOf ([(false, (.int .u8)), (false, (.slice (.int .u8)))] : List (Bool × Sh)) d) (.bl true) (gones (cnts ([(false, (.int .u8)), (false, (.slice (.int .u8)))] : List (Bool × Sh)))) := by
  obtain ⟨wk, ps, _⟩ := d
  obtain ⟨h0, ⟨h1, h2⟩, _⟩ := hd
  obtain ⟨wk, rfl, hwk⟩ := wf_u8 h0
  exact WholeTags_tri wk hwk ps (maxLen_le h1) (u8s_at h2)
end Go.Proofs.YtcicfbccdgkfhaaDoor.E
