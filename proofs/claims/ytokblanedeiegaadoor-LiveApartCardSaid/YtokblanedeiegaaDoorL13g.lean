/- LiveApart: the law's contract, concluded. -/
import Derived.Test.YtokblanedeiegaaDoorL13f
namespace Go.Proofs.YtokblanedeiegaaDoor.E
open Go
set_option maxRecDepth 100000

theorem ap_0 (c : Cnf) (h : c.Ok) (l : List ActT) (hl : l.length ≤ 100) (hq : ∀ k, k < l.length → -9223372036854775808 ≤ (l.getD k (dfl ActK)).2.2.2 ∧ (l.getD k (dfl ActK)).2.2.2 ≤ 9223372036854775807) (sd : List Bool) (hsd : sd.length ≤ 9223372036854775807) (G : Nat) (hG : (G : Int) = 64 * c.s) : ∀ (j k : Nat) (f f2 : Nat → Nat) (m n : MemS), k + j = l.length → ApI G f f2 m n → Goods (gAp c l sd) (apSt c l sd G k m n)
  | 0, k, f, f2, m, n, hk, hI => by
    obtain rfl : k = l.length := by omega
    exact ap_end c h l sd G hG f f2 m n hI
  | j + 1, k, f, f2, m, n, hk, hI => by
    obtain ⟨⟨kd, at_, p, q⟩, hy⟩ : ∃ x, l.getD k (dfl ActK) = x := ⟨_, rfl⟩
    have hq1 := hq k (by omega)
    rw [hy] at hq1
    have nxt : ∀ f f2 m n, ApI G f f2 m n → Goods (gAp c l sd) (apSt c l sd G (k + 1) m n) := fun f f2 m n hI => ap_0 c h l hl hq sd hsd G hG j (k + 1) f f2 m n (by omega) hI
    by_cases k0 : kd = 0
    · subst k0
      have sz := law_size false c h p q hq1
      by_cases hx : thOk c (p, q)
      · have hz := (size_ne c h (p, q)).2 hx
        by_cases h1 : k < sd.length
        · by_cases h2 : sd.getD k (dfl .bool) = true
          · obtain ⟨m1, x, v, lk, I1⟩ := look_b c h G hG f f2 m n hI at_
            obtain ⟨m2, f2', v2, mk, I2⟩ := mark_b c h G hG f f2 m1 n I1 at_ (p, q) hx
            exact ap0_b c h l hl sd hsd G m m1 m2 n k (by omega) at_ p q hy _ hz x v v2 sz lk mk h1 h2 (nxt _ _ _ _ I2)
          · obtain ⟨m1, x, v, lk, I1⟩ := look_a c h G hG f f2 m n hI at_
            obtain ⟨m2, n2, f', v2, mk, mn, I2⟩ := mark_a c h G hG f f2 m1 n I1 at_ (p, q) hx
            exact ap0_x c h l hl sd hsd G m m1 m2 n n2 k (by omega) at_ p q hy _ hz x v v2 sz lk mk mn h1 (eq_false_of_ne_true h2) (nxt _ _ _ _ I2)
        · obtain ⟨m1, x, v, lk, I1⟩ := look_a c h G hG f f2 m n hI at_
          obtain ⟨m2, n2, f', v2, mk, mn, I2⟩ := mark_a c h G hG f f2 m1 n I1 at_ (p, q) hx
          exact ap0_y c h l hl sd hsd G m m1 m2 n n2 k (by omega) at_ p q hy _ hz x v v2 sz lk mk mn h1 trivial (nxt _ _ _ _ I2)
      · have hz : sizeN c (p, q) = 0 := by
          apply Classical.byContradiction; intro hn
          exact hx ((size_ne c h (p, q)).1 hn)
        rw [hz] at sz
        exact ap_skip c l hl sd G m n k (by omega) at_ p q hy sz (nxt _ _ _ _ hI)
    · by_cases k1 : kd = 1
      · subst k1
        by_cases h1 : k < sd.length
        · by_cases h2 : sd.getD k (dfl .bool) = true
          · obtain ⟨m1, x, v, lk, I1⟩ := look_b c h G hG f f2 m n hI at_
            obtain ⟨m2, f2', x2, v2, mk, I2⟩ := take_b c h G hG f f2 m1 n I1 at_
            exact ap1_b c l hl sd hsd G m m1 m2 n k (by omega) at_ p q hy x x2 v v2 lk mk h1 h2 (nxt _ _ _ _ I2)
          · obtain ⟨m1, x, v, lk, I1⟩ := look_a c h G hG f f2 m n hI at_
            obtain ⟨m2, n2, f', x2, v2, mk, mn, I2⟩ := take_a c h G hG f f2 m1 n I1 at_
            exact ap1_x c l hl sd hsd G m m1 m2 n n2 k (by omega) at_ p q hy x x2 v v2 lk mk mn h1 (eq_false_of_ne_true h2) (nxt _ _ _ _ I2)
        · obtain ⟨m1, x, v, lk, I1⟩ := look_a c h G hG f f2 m n hI at_
          obtain ⟨m2, n2, f', x2, v2, mk, mn, I2⟩ := take_a c h G hG f f2 m1 n I1 at_
          exact ap1_y c l hl sd hsd G m m1 m2 n n2 k (by omega) at_ p q hy x x2 v v2 lk mk mn h1 trivial (nxt _ _ _ _ I2)
      · by_cases h1 : k < sd.length
        · by_cases h2 : sd.getD k (dfl .bool) = true
          · obtain ⟨m1, x, v, lk, I1⟩ := look_b c h G hG f f2 m n hI at_
            exact ap2_b c l hl sd hsd G m m1 n k (by omega) kd at_ p q hy k0 k1 x v lk h1 h2 (nxt _ _ _ _ I1)
          · obtain ⟨m1, x, v, lk, I1⟩ := look_a c h G hG f f2 m n hI at_
            exact ap2_x c l hl sd hsd G m m1 n k (by omega) kd at_ p q hy k0 k1 x v lk h1 (eq_false_of_ne_true h2) (nxt _ _ _ _ I1)
        · obtain ⟨m1, x, v, lk, I1⟩ := look_a c h G hG f f2 m n hI at_
          exact ap2_y c l hl sd hsd G m m1 n k (by omega) kd at_ p q hy k0 k1 x v lk h1 trivial (nxt _ _ _ _ I1)
set_option maxHeartbeats 4000000 in
theorem LiveApart_tri (c : Cnf) (hc : c.cl.length ≤ 9223372036854775807) (l : List ActT) (hll : l.length ≤ 9223372036854775807) (hq : ∀ k, k < l.length → -9223372036854775808 ≤ (l.getD k (dfl ActK)).2.2.2 ∧ (l.getD k (dfl ActK)).2.2.2 ≤ 9223372036854775807) (sd : List Bool) (hsd : sd.length ≤ 9223372036854775807) : Tri En 6 [cnfA 0 c, .slice 1 0 l.length, .slice 2 0 sd.length] [.tab false (.int .i64) c.cl, .tab false ActK l, .tab false .bool sd] (.bl true) (gones 3) := by
  refine Tri.of Tryd.func6 rfl Tryd.call6 rfl ?_
  by_cases h : c.Ok
  · by_cases hl : l.length ≤ 100
    · have s0 := h.s0
      have s1 := h.s1
      have l1 := h.l1
      obtain ⟨G, hG⟩ : ∃ G : Nat, (G : Int) = 64 * c.s := ⟨(64 * c.s).toNat, by omega⟩
      have ls := live_size false c h.toSmall
      rw [← hG] at ls
      have hm := mem_new (2 * G : Nat)
      rw [show (min (max ((2 * G : Nat) : Int) 0) 16777216).toNat = 2 * G by omega] at hm
      have hn := mem_new (G : Int)
      rw [show (min (max (G : Int) 0) 16777216).toNat = G by omega] at hn
      have hI : ApI G (fun _ => 0) (fun _ => 0) ⟨List.replicate (2 * G) 0, 0, 0, 0, 0⟩ ⟨List.replicate G 0, 0, 0, 0, 0⟩ := by
        refine ⟨?_, ?_, fun _ => by simp, fun _ => by simp, rfl⟩
        · show List.replicate (2 * G) 0 = _
          rw [tabW_zero]; exact tabW_congr fun i _ => by split <;> rfl
        · show List.replicate G 0 = _
          rw [tabW_zero]; rfl
      generalize (⟨List.replicate (2 * G) 0, 0, 0, 0, 0⟩ : MemS) = m at hm hI
      generalize (⟨List.replicate G 0, 0, 0, 0, 0⟩ : MemS) = n at hn hI
      have na := new_tri m false (0 : Nat) c l1
      have nb := new_tri m false G c l1
      have nn := new_tri n false (0 : Nat) c l1
      have ih := ap_0 c h l hl hq sd hsd G hG l.length 0 _ _ m n (by omega) hI
      refine Goods.to 2000 [.c (.of speaks_tri), .c (.of (may_yes false c h)), .b false, .k 29 (.of ls), .k 31 (.of hm), .k 33 (.of ls), .k 34 (.of hn), .k 37 (.of na), .k 40 (.of ls), .k 42 (.of nb), .k 45 (.of nn), .l, .stop] mixed (ih) (by kernel_rfl) ?_
      show Yes _
      repeat' apply And.intro
      (all_goals first | rfl | assumption | trivial | omega | (simp [-List.getD_eq_getElem?_getD] <;> omega) | (simp (disch := omega) only [w64, wu64] <;> omega) | (simp (disch := omega) [-List.getD_eq_getElem?_getD, List.getD_cons_zero, List.getD_cons_succ, kCast_self, dfl_pair, dfl_int, w64, wu64] <;> omega) | (rw [Bool.eq_iff_iff]; simp (disch := omega) [-List.getD_eq_getElem?_getD, List.getD_cons_zero, List.getD_cons_succ, kCast_self, dfl_pair, dfl_int, w64, wu64] <;> omega) | (simp_all [-List.getD_eq_getElem?_getD] <;> omega))
    · refine Goods.fin 2000 [.c (.of speaks_tri), .c (.of (may_yes false c h)), .b true] mixed Tryd.func6 ?_
      show Yes _
      repeat' apply And.intro
      (all_goals first | rfl | assumption | trivial | omega | (simp [-List.getD_eq_getElem?_getD] <;> omega) | (simp (disch := omega) only [w64, wu64] <;> omega) | (simp (disch := omega) [-List.getD_eq_getElem?_getD, List.getD_cons_zero, List.getD_cons_succ, kCast_self, dfl_pair, dfl_int, w64, wu64] <;> omega) | (rw [Bool.eq_iff_iff]; simp (disch := omega) [-List.getD_eq_getElem?_getD, List.getD_cons_zero, List.getD_cons_succ, kCast_self, dfl_pair, dfl_int, w64, wu64] <;> omega) | (simp_all [-List.getD_eq_getElem?_getD] <;> omega))
  · refine Goods.fin 2000 [.c (.of speaks_tri), .c (.of (may_no false c hc h))] mixed Tryd.func6 ?_
    show Yes _
    repeat' apply And.intro
    (all_goals first | rfl | assumption | trivial | omega | (simp [-List.getD_eq_getElem?_getD] <;> omega) | (simp (disch := omega) only [w64, wu64] <;> omega) | (simp (disch := omega) [-List.getD_eq_getElem?_getD, List.getD_cons_zero, List.getD_cons_succ, kCast_self, dfl_pair, dfl_int, w64, wu64] <;> omega) | (rw [Bool.eq_iff_iff]; simp (disch := omega) [-List.getD_eq_getElem?_getD, List.getD_cons_zero, List.getD_cons_succ, kCast_self, dfl_pair, dfl_int, w64, wu64] <;> omega) | (simp_all [-List.getD_eq_getElem?_getD] <;> omega))
theorem act_bounds {l : List ActT} (h : ∀ y ∈ l, okK ActK y) : ∀ k, k < l.length → -9223372036854775808 ≤ (l.getD k (dfl ActK)).2.2.2 ∧ (l.getD k (dfl ActK)).2.2.2 ≤ 9223372036854775807 := fun k hk => wf_i64 (h (l.getD k (dfl ActK)) (by simp [List.getD, hk])).2.2.2
theorem LiveApart_law (d : dats ([(true, (.pair (.int .i64) (.pair (.int .i64) (.pair (.int .i64) (.pair (.int .i64) (.pair (.slice (.int .i64)) .unit)))))), (false, (.slice (.pair (.int .i64) (.pair (.int .i64) (.pair (.pair (.int .i64) (.pair (.int .i64) .unit)) .unit))))), (false, (.slice .bool))] : List (Bool × Sh))) (hd : datsOk ([(true, (.pair (.int .i64) (.pair (.int .i64) (.pair (.int .i64) (.pair (.int .i64) (.pair (.slice (.int .i64)) .unit)))))), (false, (.slice (.pair (.int .i64) (.pair (.int .i64) (.pair (.pair (.int .i64) (.pair (.int .i64) .unit)) .unit))))), (false, (.slice .bool))] : List (Bool × Sh)) d) : Tri En 6 (argsOf ([(true, (.pair (.int .i64) (.pair (.int .i64) (.pair (.int .i64) (.pair (.int .i64) (.pair (.slice (.int .i64)) .unit)))))), (false, (.slice (.pair (.int .i64) (.pair (.int .i64) (.pair (.pair (.int .i64) (.pair (.int .i64) .unit)) .unit))))), (false, (.slice .bool))] : List (Bool × Sh)) d 0) (objsOf ([(true, (.pair (.int .i64) (.pair (.int .i64) (.pair (.int .i64) (.pair (.int .i64) (.pair (.slice (.int .i64)) .unit)))))), (false, (.slice (.pair (.int .i64) (.pair (.int .i64) (.pair (.pair (.int .i64) (.pair (.int .i64) .unit)) .unit))))), (false, (.slice .bool))] : List (Bool × Sh)) d) (.bl true) (gones (cnts ([(true, (.pair (.int .i64) (.pair (.int .i64) (.pair (.int .i64) (.pair (.int .i64) (.pair (.slice (.int .i64)) .unit)))))), (false, (.slice (.pair (.int .i64) (.pair (.int .i64) (.pair (.pair (.int .i64) (.pair (.int .i64) .unit)) .unit))))), (false, (.slice .bool))] : List (Bool × Sh)))) := by
  obtain ⟨⟨w, s, b, t, cl, _⟩, l, sd, _⟩ := d
  obtain ⟨⟨h0, h1, h2, h3, ⟨h4, _⟩, _⟩, ⟨h6, h7⟩, ⟨h8, _⟩, _⟩ := hd
  exact LiveApart_tri ⟨w, s, b, t, cl⟩ (maxLen_le h4) l (maxLen_le h6) (act_bounds h7) sd (maxLen_le h8)
end Go.Proofs.YtokblanedeiegaaDoor.E
