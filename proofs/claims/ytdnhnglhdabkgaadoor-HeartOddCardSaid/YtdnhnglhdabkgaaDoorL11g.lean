/- HeartOdd: the law's contract. -/
import Derived.Test.YtdnhnglhdabkgaaDoorL11e
import Derived.Test.YtdnhnglhdabkgaaDoorL11b
namespace Go.Proofs.YtdnhnglhdabkgaaDoor.E
set_option linter.unusedSimpArgs false
set_option linter.unusedVariables false
open Go
set_option maxRecDepth 100000

noncomputable abbrev gHo (c : Cnf) (l : List AskT) : Frm := ⟨En, 5, Tryd.f5.ntmps, [.tab false (.int .i64) c.cl, .tab false AskK l], .bl true, gones 2⟩
noncomputable abbrev hoSt (c : Cnf) (l : List AskT) (n ra rb : Nat) (f : SupF) (k : Nat) : Cfg := ⟨.none, lp Tryd.f5 0, [(3, .ptr 2 0 0), (5, .ptr 3 0 0), (9, .ptr 4 0 0), (10, .slice 5 0 n), (11, .slice 6 0 (2 * n)), (47, .slice 1 0 l.length), (48, .int .i64 l.length), (49, .int .i64 k)],
  hp [.tab false (.int .i64) c.cl, .tab false AskK l, cnfD c, .cells [.int .u64 ra, .int .u64 rb], .cells [.int .i64 c.w, .int .i64 c.s, .int .i64 c.b, .int .i64 c.t, .slice 7 0 c.cl.length], rlT n f, .tab true (.int .u64) (hW n f), .tab true (.int .i64) c.cl]⟩
theorem ho_end (c : Cnf) (hc : c.Ok) (l : List AskT) (n ra rb : Nat) (hra : ra < 18446744073709551616) (hodd : oddA ra) (hn : (n : Int) = c.s) (f : SupF) (hI : HInv c n f) : Goods (gHo c l) (hoSt c l n ra rb f l.length) := by
  have s1 := hc.s1
  have sm := same_tri c hc n (by omega) f hI
  have ha := apply_odd true c n f ra rb hra hodd
  have r1 := ask_refill_no (-1) (by omega) (by omega) (by omega)
  have r2 := ask_give_no 4294967296 (by omega) (by omega) (by omega)
  have hl := hW_len n f
  have hl2 := rL_len n f
  refine Goods.fin 2000 [.b false, .k 67 (.of ha), .s 69 (some true) true true, .k 73 (.of sm), .k 76 (.of r1), .s 78 (some true) true true, .k 81 (.of r2), .s 83 (some true) true true] mixed Tryd.func5 ?_
  show Yes _
  repeat' apply And.intro
  (all_goals first | rfl | assumption | trivial | omega | (simp [-List.getD_eq_getElem?_getD] <;> omega) | (simp (disch := omega) only [w64, wu64] <;> omega) | (simp (disch := omega) [-List.getD_eq_getElem?_getD, List.getD_cons_zero, List.getD_cons_succ, kCast_self, dfl_pair, dfl_int, w64, wu64] <;> omega) | (rw [Bool.eq_iff_iff]; simp (disch := omega) [-List.getD_eq_getElem?_getD, List.getD_cons_zero, List.getD_cons_succ, kCast_self, dfl_pair, dfl_int, w64, wu64] <;> omega) | (simp_all [-List.getD_eq_getElem?_getD] <;> omega))
set_option maxHeartbeats 4000000 in
theorem ho_a (c : Cnf) (hc : c.Ok) (l : List AskT) (hll : l.length ≤ 60) (n r1 r2 : Nat) (hn : (n : Int) = c.s) (f f' : SupF) (k : Nat) (hk : k < l.length) (kd q : Int) (m ra rb x y : Nat) (hy : l.getD k (dfl AskK) = (kd, q, (m : Int), (ra : Int), (rb : Int))) (hd : TDo false c n f kd q m ra rb 3 x y f' [rlT n f']) (ih : Goods (gHo c l) (hoSt c l n r1 r2 f' (k + 1))) : Goods (gHo c l) (hoSt c l n r1 r2 f k) := by
  have s1 := hc.s1
  have hl := hW_len n f
  have hl2 := rL_len n f
  have hl3 := hW_len n f'
  have hl4 := rL_len n f'
  refine Goods.to 2000 [.b true, .c (.of hd), .l, .stop] mixed (ih) (by kernel_rfl) ?_
  show Yes _
  repeat' apply And.intro
  (all_goals first | rfl | assumption | trivial | omega | (simp [-List.getD_eq_getElem?_getD, hy] <;> omega) | (simp (disch := omega) only [w64, wu64] <;> omega) | (simp (disch := omega) [-List.getD_eq_getElem?_getD, List.getD_cons_zero, List.getD_cons_succ, kCast_self, dfl_pair, dfl_int, w64, wu64, hy] <;> omega) | (rw [Bool.eq_iff_iff]; simp (disch := omega) [-List.getD_eq_getElem?_getD, List.getD_cons_zero, List.getD_cons_succ, kCast_self, dfl_pair, dfl_int, w64, wu64, hy] <;> omega) | (simp_all [-List.getD_eq_getElem?_getD] <;> omega))
set_option maxHeartbeats 4000000 in
theorem ho_b (c : Cnf) (hc : c.Ok) (l : List AskT) (hll : l.length ≤ 60) (n r1 r2 : Nat) (hn : (n : Int) = c.s) (f f' : SupF) (k : Nat) (hk : k < l.length) (kd q : Int) (m ra rb x y : Nat) (hy : l.getD k (dfl AskK) = (kd, q, (m : Int), (ra : Int), (rb : Int))) (hd : TDo false c n f kd q m ra rb 4 x y f' [.gone, rlT n f']) (ih : Goods (gHo c l) (hoSt c l n r1 r2 f' (k + 1))) : Goods (gHo c l) (hoSt c l n r1 r2 f k) := by
  have s1 := hc.s1
  have hl := hW_len n f
  have hl2 := rL_len n f
  have hl3 := hW_len n f'
  have hl4 := rL_len n f'
  refine Goods.to 2000 [.b true, .c (.of hd), .l, .stop] mixed (ih) (by kernel_rfl) ?_
  show Yes _
  repeat' apply And.intro
  (all_goals first | rfl | assumption | trivial | omega | (simp [-List.getD_eq_getElem?_getD, hy] <;> omega) | (simp (disch := omega) only [w64, wu64] <;> omega) | (simp (disch := omega) [-List.getD_eq_getElem?_getD, List.getD_cons_zero, List.getD_cons_succ, kCast_self, dfl_pair, dfl_int, w64, wu64, hy] <;> omega) | (rw [Bool.eq_iff_iff]; simp (disch := omega) [-List.getD_eq_getElem?_getD, List.getD_cons_zero, List.getD_cons_succ, kCast_self, dfl_pair, dfl_int, w64, wu64, hy] <;> omega) | (simp_all [-List.getD_eq_getElem?_getD] <;> omega))
theorem ho_0 (c : Cnf) (hc : c.Ok) (l : List AskT) (hll : l.length ≤ 60) (hok : ∀ y ∈ l, okK AskK y) (n : Nat) (hn : (n : Int) = c.s) (r1 r2 : Nat) (hra : r1 < 18446744073709551616) (hodd : oddA r1) : ∀ (j k : Nat) (f : SupF), k + j = l.length → HInv c n f → Goods (gHo c l) (hoSt c l n r1 r2 f k)
  | 0, k, f, hk, hI => by
    obtain rfl : k = l.length := by omega
    exact ho_end c hc l n r1 r2 hra hodd hn f hI
  | j + 1, k, f, hk, hI => by
    obtain ⟨kd, q, m, ra, rb, hy, h1, h2, h3⟩ := asks_at hok (show k < l.length by omega)
    obtain ⟨x, y, f', hI', hd⟩ := do_step false c hc n hn f hI kd q m ra rb h1 h2 h3
    have ih := ho_0 c hc l hll hok n hn r1 r2 hra hodd j (k + 1) f' (by omega) hI'
    rcases hd with hd | hd
    · exact ho_a c hc l hll n r1 r2 hn f f' k (by omega) kd q m ra rb x y hy hd ih
    · exact ho_b c hc l hll n r1 r2 hn f f' k (by omega) kd q m ra rb x y hy hd ih
theorem odd_and {a : Nat} (ha : a < 18446744073709551616) : IntKind.u64.wrap (BitVec.ofInt IntKind.u64.bits (a : Int) &&& BitVec.ofInt IntKind.u64.bits 255).toNat = ((a % 256 : Nat) : Int) := by
  have h := and_eq a 255 ha (by omega)
  rw [show a &&& 255 = a % 256 from Nat.and_two_pow_sub_one_eq_mod a 8] at h
  exact h
theorem odd_shr (a : Nat) : (a : Int).fdiv (2 ^ min (8 : Int).toNat IntKind.u64.bits) = ((a / 256 : Nat) : Int) := shr_lit a 8 (by omega)
set_option maxHeartbeats 4000000 in
theorem ho_ina (c : Cnf) (h : c.Ok) (l : List AskT) (hl : l.length ≤ 60) (n ra rb : Nat) (hra : ra < 18446744073709551616) (hn : (n : Int) = c.s) (k1 : ¬ 1 ≤ ra % 256) (ih : Goods (gHo c l) (hoSt c l n ra rb (fun _ => (0, 0, 0)) 0)) : Tri En 5 [cnfA 0 c, .slice 1 0 l.length, .agg [.int .u64 ra, .int .u64 rb]] [.tab false (.int .i64) c.cl, .tab false AskK l] (.bl true) (gones 2) := by
  have s0 := h.s0
  have s1 := h.s1
  have l1 := h.l1
  have g1 : decide (IntKind.u64.wrap (BitVec.ofInt IntKind.u64.bits (ra : Int) &&& BitVec.ofInt IntKind.u64.bits 255).toNat ≥ 1) = decide (ra % 256 ≥ 1) := by rw [odd_and hra]; exact decide_eq_decide.2 (by omega)
  have g2 : decide (IntKind.u64.wrap (BitVec.ofInt IntKind.u64.bits (ra : Int) &&& BitVec.ofInt IntKind.u64.bits 255).toNat ≤ 4) = decide (ra % 256 ≤ 4) := by rw [odd_and hra]; exact decide_eq_decide.2 (by omega)
  have g3 : decide ((ra : Int).fdiv (2 ^ min (8 : Int).toNat IntKind.u64.bits) < 4294967296) = decide (ra / 256 < 4294967296) := by rw [odd_shr ra]; exact decide_eq_decide.2 (by omega)
  have d1 : decide (ra % 256 ≥ 1) = decide (1 ≤ ra % 256) := rfl
  have h1 := heart_new false c l1
  have h2 := rnew_tri false c h n hn
  have h3 := heart_words true c h n hn
  have hw := hW_nought n
  have may := may_yes false c h
  refine Tri.of Tryd.func5 rfl Tryd.call5 rfl ?_
  refine Goods.to 2000 [.c (.of speaks_tri), .c (.of may), .b false, .s 31 (some false) true true, .k 41 (.of h1), .k 43 (.of h2), .c (.of h3), .l, .stop] mixed (ih) (by kernel_rfl) ?_
  show Yes _
  repeat' apply And.intro
  all_goals try first | exact g1.trans (decide_eq_true (by omega)) | exact g1.trans (decide_eq_false (by omega)) | exact g2.trans (decide_eq_true (by omega)) | exact g2.trans (decide_eq_false (by omega)) | exact g3.trans (decide_eq_false (by omega))
  (all_goals first | rfl | assumption | trivial | omega | (simp [-List.getD_eq_getElem?_getD] <;> omega) | (simp (disch := omega) only [w64, wu64] <;> omega) | (simp (disch := omega) [-List.getD_eq_getElem?_getD, List.getD_cons_zero, List.getD_cons_succ, kCast_self, dfl_pair, dfl_int, w64, wu64] <;> omega) | (rw [Bool.eq_iff_iff]; simp (disch := omega) [-List.getD_eq_getElem?_getD, List.getD_cons_zero, List.getD_cons_succ, kCast_self, dfl_pair, dfl_int, w64, wu64] <;> omega) | (simp_all [-List.getD_eq_getElem?_getD] <;> omega))
set_option maxHeartbeats 4000000 in
theorem ho_inb (c : Cnf) (h : c.Ok) (l : List AskT) (hl : l.length ≤ 60) (n ra rb : Nat) (hra : ra < 18446744073709551616) (hn : (n : Int) = c.s) (k1 : 1 ≤ ra % 256) (k2 : ¬ ra % 256 ≤ 4) (ih : Goods (gHo c l) (hoSt c l n ra rb (fun _ => (0, 0, 0)) 0)) : Tri En 5 [cnfA 0 c, .slice 1 0 l.length, .agg [.int .u64 ra, .int .u64 rb]] [.tab false (.int .i64) c.cl, .tab false AskK l] (.bl true) (gones 2) := by
  have s0 := h.s0
  have s1 := h.s1
  have l1 := h.l1
  have g1 : decide (IntKind.u64.wrap (BitVec.ofInt IntKind.u64.bits (ra : Int) &&& BitVec.ofInt IntKind.u64.bits 255).toNat ≥ 1) = decide (ra % 256 ≥ 1) := by rw [odd_and hra]; exact decide_eq_decide.2 (by omega)
  have g2 : decide (IntKind.u64.wrap (BitVec.ofInt IntKind.u64.bits (ra : Int) &&& BitVec.ofInt IntKind.u64.bits 255).toNat ≤ 4) = decide (ra % 256 ≤ 4) := by rw [odd_and hra]; exact decide_eq_decide.2 (by omega)
  have g3 : decide ((ra : Int).fdiv (2 ^ min (8 : Int).toNat IntKind.u64.bits) < 4294967296) = decide (ra / 256 < 4294967296) := by rw [odd_shr ra]; exact decide_eq_decide.2 (by omega)
  have d1 : decide (ra % 256 ≥ 1) = decide (1 ≤ ra % 256) := rfl
  have h1 := heart_new false c l1
  have h2 := rnew_tri false c h n hn
  have h3 := heart_words true c h n hn
  have hw := hW_nought n
  have may := may_yes false c h
  refine Tri.of Tryd.func5 rfl Tryd.call5 rfl ?_
  refine Goods.to 2000 [.c (.of speaks_tri), .c (.of may), .b false, .s 31 (some true) true true, .s 34 (some false) true true, .k 41 (.of h1), .k 43 (.of h2), .c (.of h3), .l, .stop] mixed (ih) (by kernel_rfl) ?_
  show Yes _
  repeat' apply And.intro
  all_goals try first | exact g1.trans (decide_eq_true (by omega)) | exact g1.trans (decide_eq_false (by omega)) | exact g2.trans (decide_eq_true (by omega)) | exact g2.trans (decide_eq_false (by omega)) | exact g3.trans (decide_eq_false (by omega))
  (all_goals first | rfl | assumption | trivial | omega | (simp [-List.getD_eq_getElem?_getD] <;> omega) | (simp (disch := omega) only [w64, wu64] <;> omega) | (simp (disch := omega) [-List.getD_eq_getElem?_getD, List.getD_cons_zero, List.getD_cons_succ, kCast_self, dfl_pair, dfl_int, w64, wu64] <;> omega) | (rw [Bool.eq_iff_iff]; simp (disch := omega) [-List.getD_eq_getElem?_getD, List.getD_cons_zero, List.getD_cons_succ, kCast_self, dfl_pair, dfl_int, w64, wu64] <;> omega) | (simp_all [-List.getD_eq_getElem?_getD] <;> omega))
set_option maxHeartbeats 4000000 in
theorem ho_inc (c : Cnf) (h : c.Ok) (l : List AskT) (hl : l.length ≤ 60) (n ra rb : Nat) (hra : ra < 18446744073709551616) (hn : (n : Int) = c.s) (k1 : 1 ≤ ra % 256) (k2 : ra % 256 ≤ 4) (k3 : ¬ ra / 256 < 4294967296) (ih : Goods (gHo c l) (hoSt c l n ra rb (fun _ => (0, 0, 0)) 0)) : Tri En 5 [cnfA 0 c, .slice 1 0 l.length, .agg [.int .u64 ra, .int .u64 rb]] [.tab false (.int .i64) c.cl, .tab false AskK l] (.bl true) (gones 2) := by
  have s0 := h.s0
  have s1 := h.s1
  have l1 := h.l1
  have g1 : decide (IntKind.u64.wrap (BitVec.ofInt IntKind.u64.bits (ra : Int) &&& BitVec.ofInt IntKind.u64.bits 255).toNat ≥ 1) = decide (ra % 256 ≥ 1) := by rw [odd_and hra]; exact decide_eq_decide.2 (by omega)
  have g2 : decide (IntKind.u64.wrap (BitVec.ofInt IntKind.u64.bits (ra : Int) &&& BitVec.ofInt IntKind.u64.bits 255).toNat ≤ 4) = decide (ra % 256 ≤ 4) := by rw [odd_and hra]; exact decide_eq_decide.2 (by omega)
  have g3 : decide ((ra : Int).fdiv (2 ^ min (8 : Int).toNat IntKind.u64.bits) < 4294967296) = decide (ra / 256 < 4294967296) := by rw [odd_shr ra]; exact decide_eq_decide.2 (by omega)
  have d1 : decide (ra % 256 ≥ 1) = decide (1 ≤ ra % 256) := rfl
  have h1 := heart_new false c l1
  have h2 := rnew_tri false c h n hn
  have h3 := heart_words true c h n hn
  have hw := hW_nought n
  have may := may_yes false c h
  refine Tri.of Tryd.func5 rfl Tryd.call5 rfl ?_
  refine Goods.to 2000 [.c (.of speaks_tri), .c (.of may), .b false, .s 31 (some true) true true, .s 34 (some true) true true, .s 38 (some false) true true, .k 41 (.of h1), .k 43 (.of h2), .c (.of h3), .l, .stop] mixed (ih) (by kernel_rfl) ?_
  show Yes _
  repeat' apply And.intro
  all_goals try first | exact g1.trans (decide_eq_true (by omega)) | exact g1.trans (decide_eq_false (by omega)) | exact g2.trans (decide_eq_true (by omega)) | exact g2.trans (decide_eq_false (by omega)) | exact g3.trans (decide_eq_false (by omega))
  (all_goals first | rfl | assumption | trivial | omega | (simp [-List.getD_eq_getElem?_getD] <;> omega) | (simp (disch := omega) only [w64, wu64] <;> omega) | (simp (disch := omega) [-List.getD_eq_getElem?_getD, List.getD_cons_zero, List.getD_cons_succ, kCast_self, dfl_pair, dfl_int, w64, wu64] <;> omega) | (rw [Bool.eq_iff_iff]; simp (disch := omega) [-List.getD_eq_getElem?_getD, List.getD_cons_zero, List.getD_cons_succ, kCast_self, dfl_pair, dfl_int, w64, wu64] <;> omega) | (simp_all [-List.getD_eq_getElem?_getD] <;> omega))
set_option maxHeartbeats 4000000 in
theorem ho_is (c : Cnf) (h : c.Ok) (l : List AskT) (hl : l.length ≤ 60) (ra rb : Nat) (hra : ra < 18446744073709551616) (hodd : 1 ≤ ra % 256 ∧ ra % 256 ≤ 4 ∧ ra / 256 < 4294967296) : Tri En 5 [cnfA 0 c, .slice 1 0 l.length, .agg [.int .u64 ra, .int .u64 rb]] [.tab false (.int .i64) c.cl, .tab false AskK l] (.bl true) (gones 2) := by
  have g1 : decide (IntKind.u64.wrap (BitVec.ofInt IntKind.u64.bits (ra : Int) &&& BitVec.ofInt IntKind.u64.bits 255).toNat ≥ 1) = true := by rw [odd_and hra]; exact decide_eq_true (by omega)
  have g2 : decide (IntKind.u64.wrap (BitVec.ofInt IntKind.u64.bits (ra : Int) &&& BitVec.ofInt IntKind.u64.bits 255).toNat ≤ 4) = true := by rw [odd_and hra]; exact decide_eq_true (by omega)
  have g3 : decide ((ra : Int).fdiv (2 ^ min (8 : Int).toNat IntKind.u64.bits) < 4294967296) = true := by rw [odd_shr ra]; exact decide_eq_true (by omega)
  have may := may_yes false c h
  refine Tri.of Tryd.func5 rfl Tryd.call5 rfl ?_
  refine Goods.fin 2000 [.c (.of speaks_tri), .c (.of may), .b false, .s 31 (some true) true true, .s 34 (some true) true true, .s 38 (some true) true true] mixed Tryd.func5 ?_
  show Yes _
  repeat' apply And.intro
  all_goals try first | exact g1 | exact g2 | exact g3
  (all_goals first | rfl | assumption | trivial | omega | (simp [-List.getD_eq_getElem?_getD] <;> omega) | (simp (disch := omega) only [w64, wu64] <;> omega) | (simp (disch := omega) [-List.getD_eq_getElem?_getD, List.getD_cons_zero, List.getD_cons_succ, kCast_self, dfl_pair, dfl_int, w64, wu64] <;> omega) | (rw [Bool.eq_iff_iff]; simp (disch := omega) [-List.getD_eq_getElem?_getD, List.getD_cons_zero, List.getD_cons_succ, kCast_self, dfl_pair, dfl_int, w64, wu64] <;> omega) | (simp_all [-List.getD_eq_getElem?_getD] <;> omega))
set_option maxHeartbeats 4000000 in
theorem HeartOdd_tri (c : Cnf) (hcl : c.cl.length ≤ 9223372036854775807) (l : List AskT) (hll : l.length ≤ 9223372036854775807) (hok : ∀ y ∈ l, okK AskK y) (ra rb : Nat) (hra : ra < 18446744073709551616) : Tri En 5 [cnfA 0 c, .slice 1 0 l.length, .agg [.int .u64 ra, .int .u64 rb]] [.tab false (.int .i64) c.cl, .tab false AskK l] (.bl true) (gones 2) := by
  by_cases h : c.Ok
  · by_cases hl : l.length ≤ 60
    · have s0 := h.s0
      obtain ⟨n, hn⟩ : ∃ n : Nat, (n : Int) = c.s := ⟨c.s.toNat, by omega⟩
      by_cases hodd : oddA ra
      · have ih := ho_0 c h l hl hok n hn ra rb hra hodd l.length 0 _ (by omega) (HInv.zero c n)
        unfold oddA at hodd
        by_cases k1 : 1 ≤ ra % 256
        · by_cases k2 : ra % 256 ≤ 4
          · exact ho_inc c h l hl n ra rb hra hn k1 k2 (by omega) ih
          · exact ho_inb c h l hl n ra rb hra hn k1 k2 ih
        · exact ho_ina c h l hl n ra rb hra hn k1 ih
      · exact ho_is c h l hl ra rb hra (Classical.byContradiction fun hh => hodd hh)
    · refine Tri.of Tryd.func5 rfl Tryd.call5 rfl ?_
      refine Goods.fin 2000 [.c (.of speaks_tri), .c (.of (may_yes false c h)), .b true] mixed Tryd.func5 ?_
      show Yes _
      repeat' apply And.intro
      (all_goals first | rfl | assumption | trivial | omega | (simp [-List.getD_eq_getElem?_getD] <;> omega) | (simp (disch := omega) only [w64, wu64] <;> omega) | (simp (disch := omega) [-List.getD_eq_getElem?_getD, List.getD_cons_zero, List.getD_cons_succ, kCast_self, dfl_pair, dfl_int, w64, wu64] <;> omega) | (rw [Bool.eq_iff_iff]; simp (disch := omega) [-List.getD_eq_getElem?_getD, List.getD_cons_zero, List.getD_cons_succ, kCast_self, dfl_pair, dfl_int, w64, wu64] <;> omega) | (simp_all [-List.getD_eq_getElem?_getD] <;> omega))
  · refine Tri.of Tryd.func5 rfl Tryd.call5 rfl ?_
    refine Goods.fin 2000 [.c (.of speaks_tri), .c (.of (may_no false c hcl h))] mixed Tryd.func5 ?_
    show Yes _
    repeat' apply And.intro
    (all_goals first | rfl | assumption | trivial | omega | (simp [-List.getD_eq_getElem?_getD] <;> omega) | (simp (disch := omega) only [w64, wu64] <;> omega) | (simp (disch := omega) [-List.getD_eq_getElem?_getD, List.getD_cons_zero, List.getD_cons_succ, kCast_self, dfl_pair, dfl_int, w64, wu64] <;> omega) | (rw [Bool.eq_iff_iff]; simp (disch := omega) [-List.getD_eq_getElem?_getD, List.getD_cons_zero, List.getD_cons_succ, kCast_self, dfl_pair, dfl_int, w64, wu64] <;> omega) | (simp_all [-List.getD_eq_getElem?_getD] <;> omega))
theorem u64_nat {x : Int} (h : (Lit.int .u64 x).wf = true) : ∃ n : Nat, x = n ∧ n < 18446744073709551616 := by
  have := wf_u64 h
  exact ⟨x.toNat, by omega, by omega⟩
theorem HeartOdd_law (d : dats ([(true, (.pair (.int .i64) (.pair (.int .i64) (.pair (.int .i64) (.pair (.int .i64) (.pair (.slice (.int .i64)) .unit)))))), (false, (.slice (.pair (.int .i64) (.pair (.int .i64) (.pair (.int .u64) (.pair (.pair (.int .u64) (.pair (.int .u64) .unit)) .unit)))))), (true, (.pair (.int .u64) (.pair (.int .u64) .unit)))] : List (Bool × Sh))) (hd : datsOk ([(true, (.pair (.int .i64) (.pair (.int .i64) (.pair (.int .i64) (.pair (.int .i64) (.pair (.slice (.int .i64)) .unit)))))), (false, (.slice (.pair (.int .i64) (.pair (.int .i64) (.pair (.int .u64) (.pair (.pair (.int .u64) (.pair (.int .u64) .unit)) .unit)))))), (true, (.pair (.int .u64) (.pair (.int .u64) .unit)))] : List (Bool × Sh)) d) : Tri En 5 (argsOf ([(true, (.pair (.int .i64) (.pair (.int .i64) (.pair (.int .i64) (.pair (.int .i64) (.pair (.slice (.int .i64)) .unit)))))), (false, (.slice (.pair (.int .i64) (.pair (.int .i64) (.pair (.int .u64) (.pair (.pair (.int .u64) (.pair (.int .u64) .unit)) .unit)))))), (true, (.pair (.int .u64) (.pair (.int .u64) .unit)))] : List (Bool × Sh)) d 0) (objsOf ([(true, (.pair (.int .i64) (.pair (.int .i64) (.pair (.int .i64) (.pair (.int .i64) (.pair (.slice (.int .i64)) .unit)))))), (false, (.slice (.pair (.int .i64) (.pair (.int .i64) (.pair (.int .u64) (.pair (.pair (.int .u64) (.pair (.int .u64) .unit)) .unit)))))), (true, (.pair (.int .u64) (.pair (.int .u64) .unit)))] : List (Bool × Sh)) d) (.bl true) (gones (cnts ([(true, (.pair (.int .i64) (.pair (.int .i64) (.pair (.int .i64) (.pair (.int .i64) (.pair (.slice (.int .i64)) .unit)))))), (false, (.slice (.pair (.int .i64) (.pair (.int .i64) (.pair (.int .u64) (.pair (.pair (.int .u64) (.pair (.int .u64) .unit)) .unit)))))), (true, (.pair (.int .u64) (.pair (.int .u64) .unit)))] : List (Bool × Sh)))) := by
  obtain ⟨⟨w, s, b, t, cl, _⟩, l, ⟨ra, rb, _⟩, _⟩ := d
  obtain ⟨⟨h0, h1, h2, h3, ⟨h4, _⟩, _⟩, ⟨h6, h7⟩, ⟨h8, h9, _⟩, _⟩ := hd
  obtain ⟨ra, rfl, hra⟩ := u64_nat h8
  obtain ⟨rb, rfl, hrb⟩ := u64_nat h9
  exact HeartOdd_tri ⟨w, s, b, t, cl⟩ (maxLen_le h4) l (maxLen_le h6) h7 ra rb hra
end Go.Proofs.YtdnhnglhdabkgaaDoor.E
