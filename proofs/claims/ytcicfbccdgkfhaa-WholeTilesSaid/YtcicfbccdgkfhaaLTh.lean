/- WholeTiles: the walk through superblocks and their blocks. -/
import Derived.Test.YtcicfbccdgkfhaaLTg
namespace Go.Proofs.Ytcicfbccdgkfhaa.E
set_option linter.unusedSimpArgs false
set_option linter.unusedVariables false
open Go
set_option maxRecDepth 100000

structure TI (l : List IvT) (e : Nat) : Prop where
  ch : Chain 65536 l e
  first : 65536 < e → ∃ n l', l = (65536, n) :: l' ∧ 16 ≤ n
theorem TI.nil : TI [] 65536 := ⟨rfl, fun h => by omega⟩
theorem TI.ge {l : List IvT} {e : Nat} (h : TI l e) : 65536 ≤ e := by have := h.ch.le; omega
theorem TI.add {l : List IvT} {e : Nat} (h : TI l e) (n : Nat) (hn : 1 ≤ n) (h16 : e = 65536 → 16 ≤ n) : TI (l ++ [((e : Int), (n : Int))]) (e + n) := by
  refine ⟨?_, fun _ => ?_⟩
  · have := h.ch.add (n := (n : Int)) (by omega)
    rw [show ((e + n : Nat) : Int) = (e : Int) + n by omega]; exact this
  · have hg := h.ge
    by_cases he : 65536 < e
    · obtain ⟨n', l', rfl, h2⟩ := h.first he
      exact ⟨n', l' ++ [((e : Int), (n : Int))], rfl, h2⟩
    · have he2 : e = 65536 := by omega
      have hch := h.ch
      cases l with
      | nil => exact ⟨n, [], by rw [he2]; rfl, by have := h16 he2; omega⟩
      | cons x l =>
        have h1 := hch.2.2.le
        have h2 := hch.2.1
        omega
theorem TI.put {l : List IvT} {e : Nat} (h : TI l e) (hl : l.length < 10000) (he : e ≤ 1000000) (n : Nat) (hn : 1 ≤ n) (hn2 : n ≤ 1000000) : Tri En 23 [.ptr 0 0 0, .agg [.int .i64 (e : Int), .int .i64 (n : Int)]] [.cells [.slice 1 0 l.length], .tab true IvK l] (.bl true) [.cells [.slice 2 0 (l ++ [((e : Int), (n : Int))]).length], .gone, .tab true IvK (l ++ [((e : Int), (n : Int))])] :=
  put_end l 65536 e e n h.ch hl (by omega) (Int.le_refl _) (by omega) (by omega) (by omega)
noncomputable abbrev gW (c : Cnf) (cs : List Int) : Frm := ⟨En, 5, Try.f5.ntmps, [.tab false (.int .i64) c.cl, .tab false (.int .u8) cs], .bl true, gones 2⟩
def cnfO (c : Cnf) : AObj := .cells [.int .i64 c.w, .int .i64 c.s, .int .i64 c.b, .int .i64 c.t, .slice 0 0 c.cl.length]
noncomputable abbrev wOut (c : Cnf) (cs : List Int) (l : List IvT) (s : Nat) : Cfg := ⟨.none, lp Try.f5 0, [(1, .slice 1 0 cs.length), (2, .ptr 2 0 0), (5, .ptr 3 0 0), (30, .int .i64 c.s), (31, .int .i64 s)],
  hp [.tab false (.int .i64) c.cl, .tab false (.int .u8) cs, cnfO c, .cells [.slice 4 0 l.length], .tab true IvK l]⟩
noncomputable abbrev wIn (c : Cnf) (cs : List Int) (l : List IvT) (s k e m i : Nat) : Cfg := ⟨.none, lp Try.f5 1, [(1, .slice 1 0 cs.length), (2, .ptr 2 0 0), (5, .ptr 3 0 0), (6, .int .i64 s), (7, .int .i64 k), (8, .int .i64 e), (30, .int .i64 c.s), (31, .int .i64 s), (52, .int .i64 m), (53, .int .i64 i)],
  hp [.tab false (.int .i64) c.cl, .tab false (.int .u8) cs, cnfO c, .cells [.slice 4 0 l.length], .tab true IvK l]⟩
section
set_option maxHeartbeats 4000000
theorem wt_in (c : Cnf) (hc : c.Ok) (cs : List Int) (s : Nat) (hs : (s : Int) < c.s) (hs8 : c.s ≤ 8) (k : Nat) (hk : k < c.cl.length) (z : Nat) (hz : c.cl.getD k 0 = z) (z2 : 16 ≤ z) (z3 : z ≤ 512) (m : Nat) (hcap : capN c k = m) (hm2 : 2 ≤ m) (hm64 : m ≤ 64) (hmz : m * z ≤ 1024) (hmr : 1024 < m * z + z)
    (next : ∀ l, TI l (65536 + 1024 * (s + 1)) → l.length ≤ 65 * (s + 1) → Goods (gW c cs) (wOut c cs l (s + 1))) :
    ∀ (j i : Nat) (l : List IvT) (e : Nat), i + j = m → e = 65536 + 1024 * s + i * z → TI l e → l.length ≤ 65 * s + i → Goods (gW c cs) (wIn c cs l s k e m i)
  | 0, i, l, e, hi, he, hl, hn => by
    obtain rfl : i = m := by omega
    have l1 := hc.l1
    have hi2 : 1 ≤ i * z := Nat.le_trans (show 1 ≤ 2 * 16 by omega) (Nat.mul_le_mul hm2 z2)
    obtain ⟨y, hy⟩ : ∃ y, y = i * z := ⟨_, rfl⟩
    rw [← hy] at he hmz hmr hi2
    obtain ⟨r, hr⟩ : ∃ r, r = 1024 - y := ⟨_, rfl⟩
    have g0 : IntKind.i64.wrap (IntKind.i64.wrap (65536 + IntKind.i64.wrap (1024 * IntKind.i64.wrap ((s : Int) + 1))) - (e : Int)) = (r : Int) := by
      rw [w64 (x := (s : Int) + 1) (by omega) (by omega), w64 (x := 1024 * ((s : Int) + 1)) (by omega) (by omega), w64 (x := 65536 + 1024 * ((s : Int) + 1)) (by omega) (by omega), w64 (by omega) (by omega)]
      omega
    have g1 : decide (IntKind.i64.wrap (IntKind.i64.wrap (65536 + IntKind.i64.wrap (1024 * IntKind.i64.wrap ((s : Int) + 1))) - (e : Int)) < 0) = false := by rw [g0]; exact decide_eq_false (by omega)
    have g2 : decide (IntKind.i64.wrap (IntKind.i64.wrap (65536 + IntKind.i64.wrap (1024 * IntKind.i64.wrap ((s : Int) + 1))) - (e : Int)) ≥ c.cl.getD k 0) = false := by rw [g0, hz]; exact decide_eq_false (by omega)
    by_cases h0 : 0 < r
    · have hp := hl.put (by omega) (by omega) r (by omega) (by omega)
      have ih := next (l ++ [((e : Int), (r : Int))]) (by
        have := hl.add r (by omega) (by omega)
        rwa [show e + r = 65536 + 1024 * (s + 1) by omega] at this) (by simp; omega)
      have g3 : decide (IntKind.i64.wrap (IntKind.i64.wrap (65536 + IntKind.i64.wrap (1024 * IntKind.i64.wrap ((s : Int) + 1))) - (e : Int)) > 0) = true := by rw [g0]; exact decide_eq_true (by omega)
      refine Goods.to 2000 [.b false, .s 91 (some false) true true, .s 99 (some false) true true, .s 103 (some true) true true, .c (.of hp), .l, .stop] mixed (ih) (by kernel_rfl) ?_
      show Yes _
      repeat' apply And.intro
      all_goals try first | exact g0 | exact g1 | exact g2 | exact g3
      (all_goals first | rfl | assumption | trivial | omega | (simp [-List.getD_eq_getElem?_getD] <;> omega) | (simp (disch := omega) only [w64, wu64] <;> omega) | (simp (disch := omega) [-List.getD_eq_getElem?_getD, List.getD_cons_zero, List.getD_cons_succ, kCast_self, dfl_pair, dfl_int, w64, wu64] <;> omega) | (rw [Bool.eq_iff_iff]; simp (disch := omega) [-List.getD_eq_getElem?_getD, List.getD_cons_zero, List.getD_cons_succ, kCast_self, dfl_pair, dfl_int, w64, wu64] <;> omega) | (simp_all [-List.getD_eq_getElem?_getD] <;> omega))
    · have ih := next l (by rwa [show 65536 + 1024 * (s + 1) = e by omega]) (by omega)
      have g3 : decide (IntKind.i64.wrap (IntKind.i64.wrap (65536 + IntKind.i64.wrap (1024 * IntKind.i64.wrap ((s : Int) + 1))) - (e : Int)) > 0) = false := by rw [g0]; exact decide_eq_false (by omega)
      refine Goods.to 2000 [.b false, .s 91 (some false) true true, .s 99 (some false) true true, .s 103 (some false) true true, .l, .stop] mixed (ih) (by kernel_rfl) ?_
      show Yes _
      repeat' apply And.intro
      all_goals try first | exact g0 | exact g1 | exact g2 | exact g3
      (all_goals first | rfl | assumption | trivial | omega | (simp [-List.getD_eq_getElem?_getD] <;> omega) | (simp (disch := omega) only [w64, wu64] <;> omega) | (simp (disch := omega) [-List.getD_eq_getElem?_getD, List.getD_cons_zero, List.getD_cons_succ, kCast_self, dfl_pair, dfl_int, w64, wu64] <;> omega) | (rw [Bool.eq_iff_iff]; simp (disch := omega) [-List.getD_eq_getElem?_getD, List.getD_cons_zero, List.getD_cons_succ, kCast_self, dfl_pair, dfl_int, w64, wu64] <;> omega) | (simp_all [-List.getD_eq_getElem?_getD] <;> omega))
  | j + 1, i, l, e, hi, he, hl, hn => by
    have l1 := hc.l1
    have hle : (i + 1) * z ≤ 1024 := Nat.le_trans (Nat.mul_le_mul_right z (by omega)) hmz
    have hsucc : (i + 1) * z = i * z + z := Nat.succ_mul ..
    have ha := addr_tri false c hc k hk z hz z2 z3 m hcap hmz s i hs (by omega)
    rw [← he] at ha
    have hp := hl.put (by omega) (by omega) z (by omega) (by omega)
    have ih := wt_in c hc cs s hs hs8 k hk z hz z2 z3 m hcap hm2 hm64 hmz hmr next j (i + 1) (l ++ [((e : Int), (z : Int))]) (e + z) (by omega) (by omega) (hl.add z (by omega) (by omega)) (by simp; omega)
    refine Goods.to 2000 [.b true, .k 61 (.of ha), .s 64 (some false) true true, .c (.of hp), .l, .stop] mixed (ih) (by kernel_rfl) ?_
    show Yes _
    repeat' apply And.intro
    (all_goals first | rfl | assumption | trivial | omega | (simp [-List.getD_eq_getElem?_getD, hz] <;> omega) | (simp (disch := omega) only [w64, wu64] <;> omega) | (simp (disch := omega) [-List.getD_eq_getElem?_getD, List.getD_cons_zero, List.getD_cons_succ, kCast_self, dfl_pair, dfl_int, w64, wu64, hz] <;> omega) | (rw [Bool.eq_iff_iff]; simp (disch := omega) [-List.getD_eq_getElem?_getD, List.getD_cons_zero, List.getD_cons_succ, kCast_self, dfl_pair, dfl_int, w64, wu64, hz] <;> omega) | (simp_all [-List.getD_eq_getElem?_getD] <;> omega))
end
end Go.Proofs.Ytcicfbccdgkfhaa.E
