/- LiveDoes: the law's contract, concluded. -/
import Derived.Test.YtokblanedeiegaaDoorL13k
import Derived.Test.YtokblanedeiegaaDoorL13l
namespace Go.Proofs.YtokblanedeiegaaDoor.E
open Go
set_option maxRecDepth 100000

theorem do_all (c : Cnf) (h : c.Ok) (l : List ActT) (G : Nat) (hG : (G : Int) = 64 * c.s) (f : Nat → Nat) (m : MemS) (ck : Nat) (es : ThMap) (hI : DoI c G f m es) : ∀ (j k : Nat), k + j = (allL c f G).length → Goods (gDo c l) (doS2 c l (allL c f G) k m ck es)
  | 0, k, hk => by
    obtain rfl : k = (allL c f G).length := by omega
    have s1 := h.s1
    have hL := allL_len c f G
    exact do_last c l _ (by omega) m hI.hF ck es (hI.len hG)
  | j + 1, k, hk => by
    have ih := do_all c h l G hG f m ck es hI j (k + 1) (by omega)
    have s1 := h.s1
    have hL := allL_len c f G
    obtain ⟨a, x, h1, h2, h3⟩ := hI.at (k := k) (by omega)
    have sz := law_size false c h x.1 x.2 h3
    have e1 : (mgT a es).getD (0, 0) = x := by rw [h2]; rfl
    have e2 : mhas (kk := .int .i64) (vk := IvK) a es = true := by rw [mhas_iff]; show (mgT a es).isSome = true; rw [h2]; rfl
    cases k with
    | zero => exact do_all0 c l _ (by omega) m ck es (by omega) a _ x h1 e1 e2 sz ih
    | succ k => exact do_allS c l _ (by omega) m ck es k (by omega) (allL_lt c f G (by omega)) a _ x h1 e1 e2 sz ih
set_option maxHeartbeats 2000000 in
theorem do_end (c : Cnf) (h : c.Ok) (l : List ActT) (G : Nat) (hG : (G : Int) = 64 * c.s) (f : Nat → Nat) (m : MemS) (ck : Nat) (es : ThMap) (hI : DoI c G f m es) : Goods (gDo c l) (doSt c l l.length m ck es) := by
  have s1 := h.s1
  have a1 := all_tri c h 3 (by omega) m f G hG fun g hg => ⟨hI.gm hg, hI.h1 g⟩
  have ih := do_all c h l G hG f m ck es hI (allL c f G).length 0 (by omega)
  generalize allL c f G = L at *
  refine Goods.to 2000 [.b false, .k 149 (.of a1), .l, .stop] mixed (ih) (by kernel_rfl) ?_
  show Yes _
  repeat' apply And.intro
  (all_goals first | rfl | assumption | trivial | omega | (simp [-List.getD_eq_getElem?_getD] <;> omega) | (simp (disch := omega) only [w64, wu64] <;> omega) | (simp (disch := omega) [-List.getD_eq_getElem?_getD, List.getD_cons_zero, List.getD_cons_succ, kCast_self, dfl_pair, dfl_int, w64, wu64] <;> omega) | (rw [Bool.eq_iff_iff]; simp (disch := omega) [-List.getD_eq_getElem?_getD, List.getD_cons_zero, List.getD_cons_succ, kCast_self, dfl_pair, dfl_int, w64, wu64] <;> omega) | (simp_all [-List.getD_eq_getElem?_getD] <;> omega))
theorem do_0 (c : Cnf) (h : c.Ok) (l : List ActT) (hl : l.length ≤ 200) (hq : ∀ k, k < l.length → -9223372036854775808 ≤ (l.getD k (dfl ActK)).2.2.2 ∧ (l.getD k (dfl ActK)).2.2.2 ≤ 9223372036854775807) (G : Nat) (hG : (G : Int) = 64 * c.s) : ∀ (j k : Nat) (f : Nat → Nat) (m : MemS) (ck : Nat) (es : ThMap), k + j = l.length → DoI c G f m es → Goods (gDo c l) (doSt c l k m ck es)
  | 0, k, f, m, ck, es, hk, hI => by
    obtain rfl : k = l.length := by omega
    exact do_end c h l G hG f m ck es hI
  | j + 1, k, f, m, ck, es, hk, hI => by
    obtain ⟨⟨kd, at_, p, q⟩, hy⟩ : ∃ x, l.getD k (dfl ActK) = x := ⟨_, rfl⟩
    have hq1 := hq k (by omega)
    rw [hy] at hq1
    have nxt : ∀ f m ck es, DoI c G f m es → Goods (gDo c l) (doSt c l (k + 1) m ck es) := fun f m ck es hI => do_0 c h l hl hq G hG j (k + 1) f m ck es (by omega) hI
    have hk' : k < l.length := by omega
    have s1 := h.s1
    have gt : ∀ {g : Nat}, g < G → (mgT (keyN g) es).getD (0, 0) = thOf (f g) ∧ mhas (kk := .int .i64) (vk := IvK) (keyN g) es = thIs (f g) := fun {g} hg => by
      rw [mhas_iff]
      show _ ∧ (mgT (keyN g) es).isSome = _
      rw [hI.hy g hg]
      by_cases e : thIs (f g) = true
      · rw [if_pos e, e]; exact ⟨rfl, rfl⟩
      · rw [if_neg e, eq_false_of_ne_true e, thOf_no (eq_false_of_ne_true e)]; exact ⟨rfl, rfl⟩
    have gn : ¬ grainP c at_ → (mgT at_ es).getD (0, 0) = (0, 0) ∧ mhas (kk := .int .i64) (vk := IvK) at_ es = false := fun hn => by
      rw [mhas_iff]
      show _ ∧ (mgT at_ es).isSome = _
      rw [hI.hn at_ hn]; exact ⟨rfl, rfl⟩
    have hno : ¬ grainP c at_ → (¬ 65536 ≤ at_) ∨ (65536 ≤ at_ ∧ ¬ at_ < 65536 + 1024 * c.s) ∨ (65536 ≤ at_ ∧ at_ < 65536 + 1024 * c.s ∧ ¬ Int.tmod at_ 16 = 0) := fun hn => by
      unfold grainP at hn
      by_cases a : 65536 ≤ at_
      · by_cases b : at_ < 65536 + 1024 * c.s
        · exact .inr (.inr ⟨a, b, fun e => hn ⟨a, b, e⟩⟩)
        · exact .inr (.inl ⟨a, b⟩)
      · exact .inl a
    by_cases k0 : kd = 0
    · subst k0
      have sz := law_size false c h p q hq1
      by_cases hx : thOk c (p, q)
      · have hz := (size_ne c h (p, q)).2 hx
        by_cases hg : grainP c at_
        · obtain ⟨g, h1, e⟩ := grain_of hg
          subst e
          exact do0_g c h l hl m _ k hk' _ p q hy hg ck es _ hz sz (mark_yes c h 3 (by omega) m g h1 (p, q) hx).toBool (MemS.put_ops ..) (nxt _ _ _ _ (hI.mark h hG (by omega) hx ck))
        · have tk := (mark_no c h 3 (by omega) m at_ hg (p, q)).toBool
          rcases hno hg with a | ⟨a, b⟩ | ⟨a, b, d⟩
          · exact do0_a c h l hl m k hk' _ p q hy a ck es _ hz sz tk (nxt _ _ _ _ hI)
          · exact do0_b c h l hl m k hk' _ p q hy a b ck es _ hz sz tk (nxt _ _ _ _ hI)
          · exact do0_c c h l hl m k hk' _ p q hy a b d ck es _ hz sz tk (nxt _ _ _ _ hI)
      · have hz : sizeN c (p, q) = 0 := by
          apply Classical.byContradiction; intro hn
          exact hx ((size_ne c h (p, q)).1 hn)
        rw [hz] at sz
        by_cases hg : grainP c at_
        · obtain ⟨a, b, d⟩ := hg
          exact do0s_d c h l hl m k hk' _ p q hy a b d ck es sz (nxt _ _ _ _ hI)
        · rcases hno hg with a | ⟨a, b⟩ | ⟨a, b, d⟩
          · exact do0s_a c h l hl m k hk' _ p q hy a ck es sz (nxt _ _ _ _ hI)
          · exact do0s_b c h l hl m k hk' _ p q hy a b ck es sz (nxt _ _ _ _ hI)
          · exact do0s_c c h l hl m k hk' _ p q hy a b d ck es sz (nxt _ _ _ _ hI)
    · by_cases k1 : kd = 1
      · subst k1
        by_cases hg : grainP c at_
        · obtain ⟨g, h1, e⟩ := grain_of hg
          subst e
          exact do1_g c h l hl m _ k hk' _ p q hy hg ck es _ _ (take_yes c h 3 (by omega) m g h1 (f g) (hI.gm (by omega)) (hI.h1 g)) (MemS.put_ops ..) (gt (by omega)).1 (gt (by omega)).2 (nxt _ _ _ _ (hI.take hG (by omega)))
        · have tk := (take_no c h 3 (by omega) m at_ hg).tupBool
          have e1 := (gn hg).1
          have e2 := (gn hg).2
          rcases hno hg with a | ⟨a, b⟩ | ⟨a, b, d⟩
          · exact do1_a c h l hl m k hk' _ p q hy a ck es tk e1 e2 (nxt _ _ _ _ (hI.del hG hg))
          · exact do1_b c h l hl m k hk' _ p q hy a b ck es tk e1 e2 (nxt _ _ _ _ (hI.del hG hg))
          · exact do1_c c h l hl m k hk' _ p q hy a b d ck es tk e1 e2 (nxt _ _ _ _ (hI.del hG hg))
      · by_cases k2 : kd = 2
        · subst k2
          by_cases hg : grainP c at_
          · obtain ⟨g, h1, e⟩ := grain_of hg
            subst e
            exact do2_g c h l hl m _ k hk' _ p q hy hg ck es _ _ (look_yes c h 3 (by omega) m g h1 (f g) (hI.gm (by omega)) (hI.h1 g)) (MemS.acc_ops ..) (gt (by omega)).1 (gt (by omega)).2 (nxt _ _ _ _ (hI.acc (by omega)))
          · have tk := (look_no c h 3 (by omega) m at_ hg).tupBool
            have e1 := (gn hg).1
            have e2 := (gn hg).2
            rcases hno hg with a | ⟨a, b⟩ | ⟨a, b, d⟩
            · exact do2_a c h l hl m k hk' _ p q hy a ck es tk e1 e2 (nxt _ _ _ _ hI)
            · exact do2_b c h l hl m k hk' _ p q hy a b ck es tk e1 e2 (nxt _ _ _ _ hI)
            · exact do2_c c h l hl m k hk' _ p q hy a b d ck es tk e1 e2 (nxt _ _ _ _ hI)
        · by_cases hg : grainP c at_
          · obtain ⟨a, b, d⟩ := hg
            exact do3_d c h l hl m k hk' _ _ p q hy k0 k1 k2 a b d ck es (nxt _ _ _ _ hI)
          · rcases hno hg with a | ⟨a, b⟩ | ⟨a, b, d⟩
            · exact do3_a c h l hl m k hk' _ _ p q hy k0 k1 k2 a ck es (nxt _ _ _ _ hI)
            · exact do3_b c h l hl m k hk' _ _ p q hy k0 k1 k2 a b ck es (nxt _ _ _ _ hI)
            · exact do3_c c h l hl m k hk' _ _ p q hy k0 k1 k2 a b d ck es (nxt _ _ _ _ hI)
set_option maxHeartbeats 4000000 in
theorem LiveDoes_tri (c : Cnf) (hc : c.cl.length ≤ 9223372036854775807) (l : List ActT) (hll : l.length ≤ 9223372036854775807) (hq : ∀ k, k < l.length → -9223372036854775808 ≤ (l.getD k (dfl ActK)).2.2.2 ∧ (l.getD k (dfl ActK)).2.2.2 ≤ 9223372036854775807) : Tri En 7 [cnfA 0 c, .slice 1 0 l.length] [.tab false (.int .i64) c.cl, .tab false ActK l] (.bl true) (gones 2) := by
  refine Tri.of Tryd.func7 rfl Tryd.call7 rfl ?_
  by_cases h : c.Ok
  · by_cases hl : l.length ≤ 200
    · have s0 := h.s0
      have s1 := h.s1
      have l1 := h.l1
      obtain ⟨G, hG⟩ : ∃ G : Nat, (G : Int) = 64 * c.s := ⟨(64 * c.s).toNat, by omega⟩
      have ls := live_size false c h.toSmall
      rw [← hG] at ls
      have hm := mem_new (G + 3 : Nat)
      rw [show (min (max ((G + 3 : Nat) : Int) 0) 16777216).toNat = G + 3 by omega] at hm
      have hI : DoI c G (fun _ => 0) ⟨List.replicate (G + 3) 0, 0, 0, 0, 0⟩ [] := by
        refine ⟨?_, fun _ => by simp, rfl, List.Pairwise.nil, fun g _ => ?_, fun z _ => rfl⟩
        · show List.replicate (G + 3) 0 = _
          rw [tabW_zero]; exact tabW_congr fun i _ => by split <;> rfl
        · rw [th_zero.1]; rfl
      generalize (⟨List.replicate (G + 3) 0, 0, 0, 0, 0⟩ : MemS) = m at hm hI
      have na := new_tri m false (3 : Nat) c l1
      have ih := do_0 c h l hl hq G hG l.length 0 _ m 0 [] (by omega) hI
      refine Goods.to 2000 [.c (.of speaks_tri), .c (.of (may_yes false c h)), .b false, .k 32 (.of ls), .k 34 (.of hm), .k 37 (.of na), .l, .stop] mixed (ih) (by kernel_rfl) ?_
      show Yes _
      repeat' apply And.intro
      (all_goals first | rfl | assumption | trivial | omega | (simp [-List.getD_eq_getElem?_getD] <;> omega) | (simp (disch := omega) only [w64, wu64] <;> omega) | (simp (disch := omega) [-List.getD_eq_getElem?_getD, List.getD_cons_zero, List.getD_cons_succ, kCast_self, dfl_pair, dfl_int, w64, wu64] <;> omega) | (rw [Bool.eq_iff_iff]; simp (disch := omega) [-List.getD_eq_getElem?_getD, List.getD_cons_zero, List.getD_cons_succ, kCast_self, dfl_pair, dfl_int, w64, wu64] <;> omega) | (simp_all [-List.getD_eq_getElem?_getD] <;> omega))
    · refine Goods.fin 2000 [.c (.of speaks_tri), .c (.of (may_yes false c h)), .b true] mixed Tryd.func7 ?_
      show Yes _
      repeat' apply And.intro
      (all_goals first | rfl | assumption | trivial | omega | (simp [-List.getD_eq_getElem?_getD] <;> omega) | (simp (disch := omega) only [w64, wu64] <;> omega) | (simp (disch := omega) [-List.getD_eq_getElem?_getD, List.getD_cons_zero, List.getD_cons_succ, kCast_self, dfl_pair, dfl_int, w64, wu64] <;> omega) | (rw [Bool.eq_iff_iff]; simp (disch := omega) [-List.getD_eq_getElem?_getD, List.getD_cons_zero, List.getD_cons_succ, kCast_self, dfl_pair, dfl_int, w64, wu64] <;> omega) | (simp_all [-List.getD_eq_getElem?_getD] <;> omega))
  · refine Goods.fin 2000 [.c (.of speaks_tri), .c (.of (may_no false c hc h))] mixed Tryd.func7 ?_
    show Yes _
    repeat' apply And.intro
    (all_goals first | rfl | assumption | trivial | omega | (simp [-List.getD_eq_getElem?_getD] <;> omega) | (simp (disch := omega) only [w64, wu64] <;> omega) | (simp (disch := omega) [-List.getD_eq_getElem?_getD, List.getD_cons_zero, List.getD_cons_succ, kCast_self, dfl_pair, dfl_int, w64, wu64] <;> omega) | (rw [Bool.eq_iff_iff]; simp (disch := omega) [-List.getD_eq_getElem?_getD, List.getD_cons_zero, List.getD_cons_succ, kCast_self, dfl_pair, dfl_int, w64, wu64] <;> omega) | (simp_all [-List.getD_eq_getElem?_getD] <;> omega))
theorem LiveDoes_law (d : dats ([(true, (.pair (.int .i64) (.pair (.int .i64) (.pair (.int .i64) (.pair (.int .i64) (.pair (.slice (.int .i64)) .unit)))))), (false, (.slice (.pair (.int .i64) (.pair (.int .i64) (.pair (.pair (.int .i64) (.pair (.int .i64) .unit)) .unit)))))] : List (Bool × Sh))) (hd : datsOk ([(true, (.pair (.int .i64) (.pair (.int .i64) (.pair (.int .i64) (.pair (.int .i64) (.pair (.slice (.int .i64)) .unit)))))), (false, (.slice (.pair (.int .i64) (.pair (.int .i64) (.pair (.pair (.int .i64) (.pair (.int .i64) .unit)) .unit)))))] : List (Bool × Sh)) d) : Tri En 7 (argsOf ([(true, (.pair (.int .i64) (.pair (.int .i64) (.pair (.int .i64) (.pair (.int .i64) (.pair (.slice (.int .i64)) .unit)))))), (false, (.slice (.pair (.int .i64) (.pair (.int .i64) (.pair (.pair (.int .i64) (.pair (.int .i64) .unit)) .unit)))))] : List (Bool × Sh)) d 0) (objsOf ([(true, (.pair (.int .i64) (.pair (.int .i64) (.pair (.int .i64) (.pair (.int .i64) (.pair (.slice (.int .i64)) .unit)))))), (false, (.slice (.pair (.int .i64) (.pair (.int .i64) (.pair (.pair (.int .i64) (.pair (.int .i64) .unit)) .unit)))))] : List (Bool × Sh)) d) (.bl true) (gones (cnts ([(true, (.pair (.int .i64) (.pair (.int .i64) (.pair (.int .i64) (.pair (.int .i64) (.pair (.slice (.int .i64)) .unit)))))), (false, (.slice (.pair (.int .i64) (.pair (.int .i64) (.pair (.pair (.int .i64) (.pair (.int .i64) .unit)) .unit)))))] : List (Bool × Sh)))) := by
  obtain ⟨⟨w, s, b, t, cl, _⟩, l, _⟩ := d
  obtain ⟨⟨h0, h1, h2, h3, ⟨h4, _⟩, _⟩, ⟨h6, h7⟩, _⟩ := hd
  exact LiveDoes_tri ⟨w, s, b, t, cl⟩ (maxLen_le h4) l (maxLen_le h6) (act_bounds h7)
end Go.Proofs.YtokblanedeiegaaDoor.E
