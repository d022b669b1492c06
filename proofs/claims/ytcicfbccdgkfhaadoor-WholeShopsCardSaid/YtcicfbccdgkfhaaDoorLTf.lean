/- WholeShops: the law's contract. -/
import Derived.Test.YtcicfbccdgkfhaaDoorLTe
namespace Go.Proofs.YtcicfbccdgkfhaaDoor.E
set_option linter.unusedSimpArgs false
set_option linter.unusedVariables false
open Go
set_option maxRecDepth 100000

theorem ws_supers (c : Cnf) (h : c.Ok) (xs : List Int) (sz : Int) (n Z : Nat) (hn : (n : Int) = c.s) (hZ : 1 + 4 * c.w + 2 * n ≤ (Z : Int)) (hZ2 : Z ≤ 50000) (ma mb : MemS) (ck : Nat) (es : CntT) (f : Nat → Nat) (hA : ShI c n Z f ma es) (hB : ShI c n Z (fun _ => 0) mb []) : ∀ (j i : Nat), i + j = n → Goods (gWs c xs) (ws2 c xs sz n Z ma mb ck es i)
  | 0, i, hi => by
    obtain rfl : i = n := by omega
    have w0 := h.w0
    exact ws_last c h xs sz i Z hn (by omega) hZ2 ma mb ck es f hA hB
  | j + 1, i, hi => ws_super c h xs sz n Z hn hZ ma mb ck es hA.hF i (by omega) (ws_supers c h xs sz n Z hn hZ hZ2 ma mb ck es f hA hB j (i + 1) (by omega))
theorem ws_mid (c : Cnf) (h : c.Ok) (xs : List Int) (sz : Int) (n Z : Nat) (hn : (n : Int) = c.s) (ma mb : MemS) (ck : Nat) (es : CntT) (ih : Goods (gWs c xs) (ws2 c xs sz n Z ma mb ck es 0)) : Goods (gWs c xs) (ws1 c xs sz n Z ma mb ck es xs.length) := by
  refine Goods.to 2000 [.b false, .l, .stop] mixed (ih) (by kernel_rfl) ?_
  show Yes _
  repeat' apply And.intro
  (all_goals first | rfl | assumption | trivial | omega | (simp [-List.getD_eq_getElem?_getD] <;> omega) | (simp (disch := omega) only [w64, wu64] <;> omega) | (simp (disch := omega) [-List.getD_eq_getElem?_getD, List.getD_cons_zero, List.getD_cons_succ, kCast_self, dfl_pair, dfl_int, w64, wu64] <;> omega) | (rw [Bool.eq_iff_iff]; simp (disch := omega) [-List.getD_eq_getElem?_getD, List.getD_cons_zero, List.getD_cons_succ, kCast_self, dfl_pair, dfl_int, w64, wu64] <;> omega) | (simp_all [-List.getD_eq_getElem?_getD] <;> omega))
theorem ws_0 (c : Cnf) (h : c.Ok) (xs : List Int) (hx : xs.length ≤ 100) (hok : ∀ k, k < xs.length → ∃ y : Nat, xs.getD k (dfl (.int .u16)) = (y : Int) ∧ y ≤ 65535) (sz : Int) (n Z : Nat) (hn : (n : Int) = c.s) (hZ : 1 + 4 * c.w + 2 * n ≤ (Z : Int)) (hZ2 : Z ≤ 50000) (mb : MemS) (hB : ShI c n Z (fun _ => 0) mb []) : ∀ (j k : Nat) (ma : MemS) (ck : Nat) (es : CntT) (f : Nat → Nat), k + j = xs.length → ShI c n Z f ma es → Goods (gWs c xs) (ws1 c xs sz n Z ma mb ck es k)
  | 0, k, ma, ck, es, f, hk, hA => by
    obtain rfl : k = xs.length := by omega
    exact ws_mid c h xs sz n Z hn ma mb ck es (ws_supers c h xs sz n Z hn hZ hZ2 ma mb ck es f hA hB n 0 (by omega))
  | j + 1, k, ma, ck, es, f, hk, hA => by
    have w0 := h.w0
    have l0 := h.l0
    obtain ⟨y, hy, hy2⟩ := hok k (by omega)
    by_cases hg : grainP c (65536 + (y : Int))
    · obtain ⟨g, g1, g2⟩ := grain_of hg
      have h0 : thOk c (0, 0) := .inl ⟨Int.le_refl 0, by show (0 : Int) < _; omega, rfl⟩
      exact ws_yes c h xs hx sz n Z hn hZ2 ma _ mb ck _ es _ k (by omega) y g hy hy2 (by omega) (by omega) h0 rfl rfl rfl (ws_0 c h xs hx hok sz n Z hn hZ hZ2 mb hB j (k + 1) _ _ _ _ (by omega) (hA.mark h (by omega) h0 (by omega) _ ck))
    · exact ws_no c h xs hx sz n Z hn hZ2 ma mb ck es k (by omega) y hy hy2 hg (ws_0 c h xs hx hok sz n Z hn hZ hZ2 mb hB j (k + 1) ma ck es f (by omega) hA)
def c2 : Cnf := ⟨1, 1, 1, 0, [16]⟩
theorem c2_ok : c2.Ok := ⟨⟨by decide, by decide, by decide, by decide, by decide, by decide, by decide, by decide⟩, by decide, by decide, ⟨by decide, trivial⟩⟩
theorem u16s_at {xs : List Int} (h : ∀ y ∈ xs, okK (.int .u16) y) : ∀ k, k < xs.length → ∃ y : Nat, xs.getD k (dfl (.int .u16)) = (y : Int) ∧ y ≤ 65535 := fun k hk => wf_u16 (h (xs.getD k (dfl (.int .u16))) (by simp [List.getD, hk]))
theorem first_all (n Z : Nat) (hZ : 1 ≤ Z) (c : Cnf) : ShI c n Z (fun _ => 0) (((⟨List.replicate (Z + 64 * n) 0, 0, 0, 0, 0⟩ : MemS).acc 2 0).put 0 (refN 0 0 0 : Nat)) [] := by
  obtain ⟨hF, hf⟩ := first_w (Z + 64 * n) (by omega)
  have hin : (⟨List.replicate (Z + 64 * n) 0, 0, 0, 0, 0⟩ : MemS).inr 0 := ⟨by omega, by show (0 : Int) < ((List.replicate (Z + 64 * n) 0).length : Int); rw [List.length_replicate]; omega⟩
  have hw := MemS.put_words hin 2 (refN 0 0 0 : Nat)
  refine ⟨?_, hF.sub (by omega), fun g hg => hF.rest (Z + g) (by omega) (by omega), fun _ => by simp, hf, List.Pairwise.nil, fun z => ⟨fun h => absurd (show (none : Option Int).isSome = true from h) (by simp), fun ⟨g, _, _, h⟩ => by rw [th_zero.1] at h; simp at h⟩⟩
  rw [hw, List.length_set]; exact List.length_replicate
set_option maxHeartbeats 4000000 in
theorem WholeShops_tri (c : Cnf) (hcl : c.cl.length ≤ 9223372036854775807) (xs : List Int) (hxl : xs.length ≤ 9223372036854775807) (hok : ∀ k, k < xs.length → ∃ y : Nat, xs.getD k (dfl (.int .u16)) = (y : Int) ∧ y ≤ 65535) (sz : Int) : Tri En 4 [cnfA 0 c, .slice 1 0 xs.length, .int .i64 sz] [.tab false (.int .i64) c.cl, .tab false (.int .u16) xs] (.bl true) (gones 2) := by
  have hz0 : hallSz c2 1 = ((15 : Nat) : Int) := by decide
  have o0 := open_yes true c2 c2_ok 1 rfl 15 hz0 (by omega) _ rfl
  have l0 := live_of 0
  have m0 := mark_yes c2 c2_ok 15 (by omega) (((⟨List.replicate (15 + 64 * 1) 0, 0, 0, 0, 0⟩ : MemS).acc 2 0).put 0 (refN 0 0 0 : Nat)) 0 (by decide) (0, 0) (.inl ⟨by decide, by decide, rfl⟩)
  generalize (((⟨List.replicate (15 + 64 * 1) 0, 0, 0, 0, 0⟩ : MemS).acc 2 0).put 0 (refN 0 0 0 : Nat)) = q0 at *
  generalize (q0.acc 2 ((15 + 0 : Nat) : Int)).put ((15 + 0 : Nat) : Int) (codeN (0, 0)) = q1 at *
  refine Tri.of Tryd.func4 rfl Tryd.call4 rfl ?_
  by_cases hx : xs.length ≤ 100
  · by_cases hc : c.cl.length ≤ 100
    · by_cases h : c.Ok
      · have s0 := h.s0
        have s1 := h.s1
        have w0 := h.w0
        obtain ⟨n, hn⟩ : ∃ n : Nat, (n : Int) = c.s := ⟨c.s.toNat, by omega⟩
        obtain ⟨Z, hZ, hZ1, hZ2⟩ := hall_sz h hn
        have hA := first_all n Z (by omega) c
        have op := open_yes false c h n hn Z hZ hZ2 _ rfl
        generalize (((⟨List.replicate (Z + 64 * n) 0, 0, 0, 0, 0⟩ : MemS).acc 2 0).put 0 (refN 0 0 0 : Nat)) = m at *
        have ih := ws_0 c h xs hx hok sz n Z hn hZ1 hZ2 m hA xs.length 0 m 0 [] _ (by omega) hA
        refine Goods.to 2000 [.c (.of o0), .s 29 (some false) true true, .k 39 (.of l0), .k 40 (.of m0), .s 45 (some false) true true, .s 50 (some false) true true, .c (.of op), .c (.of op), .s 63 (some false) true true, .s 66 (some false) true true, .l, .stop] mixed (ih) (by kernel_rfl) ?_
        show Yes _
        repeat' apply And.intro
        (all_goals first | rfl | assumption | trivial | omega | (simp [-List.getD_eq_getElem?_getD] <;> omega) | (simp (disch := omega) only [w64, wu64] <;> omega) | (simp (disch := omega) [-List.getD_eq_getElem?_getD, List.getD_cons_zero, List.getD_cons_succ, kCast_self, dfl_pair, dfl_int, w64, wu64] <;> omega) | (rw [Bool.eq_iff_iff]; simp (disch := omega) [-List.getD_eq_getElem?_getD, List.getD_cons_zero, List.getD_cons_succ, kCast_self, dfl_pair, dfl_int, w64, wu64] <;> omega) | (simp_all [-List.getD_eq_getElem?_getD] <;> omega))
      · have op := open_no false c hcl h
        refine Goods.fin 2000 [.c (.of o0), .s 29 (some false) true true, .k 39 (.of l0), .k 40 (.of m0), .s 45 (some false) true true, .s 50 (some false) true true, .c (.of op), .c (.of op), .s 63 (some true) true true, .s 78 (some true) true true] mixed Tryd.func4 ?_
        show Yes _
        repeat' apply And.intro
        (all_goals first | rfl | assumption | trivial | omega | (simp [-List.getD_eq_getElem?_getD] <;> omega) | (simp (disch := omega) only [w64, wu64] <;> omega) | (simp (disch := omega) [-List.getD_eq_getElem?_getD, List.getD_cons_zero, List.getD_cons_succ, kCast_self, dfl_pair, dfl_int, w64, wu64] <;> omega) | (rw [Bool.eq_iff_iff]; simp (disch := omega) [-List.getD_eq_getElem?_getD, List.getD_cons_zero, List.getD_cons_succ, kCast_self, dfl_pair, dfl_int, w64, wu64] <;> omega) | (simp_all [-List.getD_eq_getElem?_getD] <;> omega))
    · refine Goods.fin 2000 [.c (.of o0), .s 29 (some false) true true, .k 39 (.of l0), .k 40 (.of m0), .s 45 (some false) true true, .s 50 (some true) true true] mixed Tryd.func4 ?_
      show Yes _
      repeat' apply And.intro
      (all_goals first | rfl | assumption | trivial | omega | (simp [-List.getD_eq_getElem?_getD] <;> omega) | (simp (disch := omega) only [w64, wu64] <;> omega) | (simp (disch := omega) [-List.getD_eq_getElem?_getD, List.getD_cons_zero, List.getD_cons_succ, kCast_self, dfl_pair, dfl_int, w64, wu64] <;> omega) | (rw [Bool.eq_iff_iff]; simp (disch := omega) [-List.getD_eq_getElem?_getD, List.getD_cons_zero, List.getD_cons_succ, kCast_self, dfl_pair, dfl_int, w64, wu64] <;> omega) | (simp_all [-List.getD_eq_getElem?_getD] <;> omega))
  · refine Goods.fin 2000 [.c (.of o0), .s 29 (some false) true true, .k 39 (.of l0), .k 40 (.of m0), .s 45 (some true) true true] mixed Tryd.func4 ?_
    show Yes _
    repeat' apply And.intro
    (all_goals first | rfl | assumption | trivial | omega | (simp [-List.getD_eq_getElem?_getD] <;> omega) | (simp (disch := omega) only [w64, wu64] <;> omega) | (simp (disch := omega) [-List.getD_eq_getElem?_getD, List.getD_cons_zero, List.getD_cons_succ, kCast_self, dfl_pair, dfl_int, w64, wu64] <;> omega) | (rw [Bool.eq_iff_iff]; simp (disch := omega) [-List.getD_eq_getElem?_getD, List.getD_cons_zero, List.getD_cons_succ, kCast_self, dfl_pair, dfl_int, w64, wu64] <;> omega) | (simp_all [-List.getD_eq_getElem?_getD] <;> omega))
theorem WholeShops_law (d : dats ([(true, (.pair (.int .i64) (.pair (.int .i64) (.pair (.int .i64) (.pair (.int .i64) (.pair (.slice (.int .i64)) .unit)))))), (false, (.slice (.int .u16))), (false, (.int .i64))] : List (Bool × Sh))) (hd : datsOk ([(true, (.pair (.int .i64) (.pair (.int .i64) (.pair (.int .i64) (.pair (.int .i64) (.pair (.slice (.int .i64)) .unit)))))), (false, (.slice (.int .u16))), (false, (.int .i64))] : List (Bool × Sh)) d) : Tri En 4 (argsOf ([(true, (.pair (.int .i64) (.pair (.int .i64) (.pair (.int .i64) (.pair (.int .i64) (.pair (.slice (.int .i64)) .unit)))))), (false, (.slice (.int .u16))), (false, (.int .i64))] : List (Bool × Sh)) d 0) (objsOf ([(true, (.pair (.int .i64) (.pair (.int .i64) (.pair (.int .i64) (.pair (.int .i64) (.pair (.slice (.int .i64)) .unit)))))), (false, (.slice (.int .u16))), (false, (.int .i64))] : List (Bool × Sh)) d) (.bl true) (gones (cnts ([(true, (.pair (.int .i64) (.pair (.int .i64) (.pair (.int .i64) (.pair (.int .i64) (.pair (.slice (.int .i64)) .unit)))))), (false, (.slice (.int .u16))), (false, (.int .i64))] : List (Bool × Sh)))) := by
  obtain ⟨⟨w, s, b, t, cl, _⟩, xs, sz, _⟩ := d
  obtain ⟨⟨h0, h1, h2, h3, ⟨h4, _⟩, _⟩, ⟨h5, h6⟩, h7, _⟩ := hd
  exact WholeShops_tri ⟨w, s, b, t, cl⟩ (maxLen_le h4) xs (maxLen_le h5) (u16s_at h6) sz
end Go.Proofs.YtcicfbccdgkfhaaDoor.E
