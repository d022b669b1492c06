/- StockBack: the law's contract. -/
import Derived.Test.YthlpfafmiakfdaaDoorL12b
namespace Go.Proofs.YthlpfafmiakfdaaDoor.E
set_option linter.unusedSimpArgs false
set_option linter.unusedVariables false
open Go
set_option maxRecDepth 100000
theorem pileAt {s : PS} {l : List Blk} (h : s.pile = l) {j : Nat} (hj : j < s.m) : s.zs.getD j (0, 0) = l.getD j (0, 0) := by
  rw [← h]
  unfold PS.pile
  simp [List.getD, List.getElem?_take_of_lt hj]
noncomputable abbrev gBk (own own2 : Bool) (c : Cnf) (bs : List Blk) : Frm := ⟨En, 5, Tryd.f5.ntmps, [.tab own (.int .i64) c.cl, .tab own2 BlkK bs], .bl true, [.gone, .gone]⟩
/-- The third loop: all come back. -/
theorem bk_3 (own own2 : Bool) (c : Cnf) (h : c.Ok) (bs : List Blk) (k : Nat) (hk : k < c.cl.length) (p zs ys : List Blk) (n cl : Nat) (hn : p.length = n) (hn2 : n ≤ 200) (hz : n ≤ zs.length) (hat : ∀ j, j < n → zs.getD j (0, 0) = p.getD j (0, 0)) : ∀ (r i : Nat) (es : TMap), i + r = n →
    Goods (gBk own own2 c bs) ⟨.none, lp Tryd.f5 2, [(7, .ptr 2 0 0), (8, .int .i64 k), (9, .slice 3 0 n), (12, .slice 4 0 n), (70, .int .i64 n), (71, .int .i64 i)], hp [.gone, .gone, stkC 5 c, .tab true BlkK p, .tab true BlkK ys, clsO c, .mix k rawT (.slice 8 0 r), .mix k rawT (.map 9), .tab true BlkK zs, .map BlkK .unit cl es]⟩
  | 0, i, es, hi => by
    have l1 := h.l1
    have h1 := pop_none c k rawT rawT zs cl es l1 hk
    refine Goods.fin 2000 [.b false, .c (.of h1), .s 108 (some true) true true] mixed Tryd.func5 ?_
    show Yes _
    repeat' apply And.intro
    (all_goals first | rfl | assumption | trivial | omega | (simp [-List.getD_eq_getElem?_getD] <;> omega) | (simp (disch := omega) only [w64, wu64] <;> omega) | (simp (disch := omega) [-List.getD_eq_getElem?_getD, List.getD_cons_zero, List.getD_cons_succ, kCast_self, dfl_pair, dfl_int, w64, wu64] <;> omega) | (rw [Bool.eq_iff_iff]; simp (disch := omega) [-List.getD_eq_getElem?_getD, List.getD_cons_zero, List.getD_cons_succ, kCast_self, dfl_pair, dfl_int, w64, wu64] <;> omega) | (simp_all [-List.getD_eq_getElem?_getD] <;> omega))
  | r + 1, i, es, hi => by
    have l1 := h.l1
    have hb : zs.getD r (0, 0) = p.getD r (0, 0) := hat r (by omega)
    have h1 := pop_some c k rawT rawT zs r cl es (p.getD r (0, 0)) l1 hk (by omega) (by omega) hb
    have ih := bk_3 own own2 c h bs k hk p zs ys n cl hn hn2 hz hat r (i + 1) (mdel (kk := BlkK) (p.getD r (0, 0) : Blk) es) (by omega)
    have g0 : IntKind.i64.wrap (IntKind.i64.wrap ((n : Int) - 1) - (i : Int)) = (r : Int) := by
      rw [w64 (x := (n : Int) - 1) (by omega) (by omega), w64 (by omega) (by omega)]; omega
    generalize hB : p.getD r (0, 0) = b at *
    have g1 : p.getD ((IntKind.i64.wrap (IntKind.i64.wrap ((n : Int) - 1) - (i : Int))).toNat + 0) (dfl BlkK) = b := by
      rw [g0, Int.toNat_natCast]; exact hB
    have g2 : (!(b.1 == (p.getD ((IntKind.i64.wrap (IntKind.i64.wrap ((n : Int) - 1) - (i : Int))).toNat + 0) (dfl BlkK)).1 && (b.2 == (p.getD ((IntKind.i64.wrap (IntKind.i64.wrap ((n : Int) - 1) - (i : Int))).toNat + 0) (dfl BlkK)).2 && true))) = false := by
      rw [g1]; simp
    refine Goods.to 2000 [.b true, .c (.of h1), .s 92 (some false) true true, .l, .stop] mixed (ih) (by kernel_rfl) ?_
    show Yes _
    repeat' apply And.intro
    all_goals try exact g2
    (all_goals first | rfl | assumption | trivial | omega | (simp [-List.getD_eq_getElem?_getD, g0, hB] <;> omega) | (simp (disch := omega) only [w64, wu64] <;> omega) | (simp (disch := omega) [-List.getD_eq_getElem?_getD, List.getD_cons_zero, List.getD_cons_succ, kCast_self, dfl_pair, dfl_int, w64, wu64, g0, hB] <;> omega) | (rw [Bool.eq_iff_iff]; simp (disch := omega) [-List.getD_eq_getElem?_getD, List.getD_cons_zero, List.getD_cons_succ, kCast_self, dfl_pair, dfl_int, w64, wu64, g0, hB] <;> omega) | (simp_all [-List.getD_eq_getElem?_getD] <;> omega))
/-- The second loop: the copy is written; what is left is as it was. -/
theorem bk_2 (own own2 : Bool) (c : Cnf) (h : c.Ok) (bs : List Blk) (k : Nat) (hk : k < c.cl.length) (p zs : List Blk) (n cl : Nat) (es : TMap) (hn : p.length = n) (hn2 : n ≤ 200) (hz : n ≤ zs.length) (hat : ∀ j, j < n → zs.getD j (0, 0) = p.getD j (0, 0)) : ∀ (r i : Nat) (ys : List Blk), i + r = n → ys.length = n →
    Goods (gBk own own2 c bs) ⟨.none, lp Tryd.f5 1, [(7, .ptr 2 0 0), (8, .int .i64 k), (9, .slice 3 0 n), (12, .slice 4 0 n), (56, .int .i64 n), (57, .int .i64 i)], hp [.gone, .gone, stkC 5 c, .tab true BlkK p, .tab true BlkK ys, clsO c, .mix k rawT (.slice 8 0 n), .mix k rawT (.map 9), .tab true BlkK zs, .map BlkK .unit cl es]⟩
  | 0, i, ys, hi, hy => by
    have l1 := h.l1
    have ih := bk_3 own own2 c h bs k hk p zs ys n cl hn hn2 hz hat n 0 es (by omega)
    refine Goods.to 2000 [.b false, .l, .stop] mixed (ih) (by kernel_rfl) ?_
    show Yes _
    repeat' apply And.intro
    (all_goals first | rfl | assumption | trivial | omega | (simp [-List.getD_eq_getElem?_getD] <;> omega) | (simp (disch := omega) only [w64, wu64] <;> omega) | (simp (disch := omega) [-List.getD_eq_getElem?_getD, List.getD_cons_zero, List.getD_cons_succ, kCast_self, dfl_pair, dfl_int, w64, wu64] <;> omega) | (rw [Bool.eq_iff_iff]; simp (disch := omega) [-List.getD_eq_getElem?_getD, List.getD_cons_zero, List.getD_cons_succ, kCast_self, dfl_pair, dfl_int, w64, wu64] <;> omega) | (simp_all [-List.getD_eq_getElem?_getD] <;> omega))
  | r + 1, i, ys, hi, hy => by
    have ih := bk_2 own own2 c h bs k hk p zs n cl es hn hn2 hz hat r (i + 1) (ys.set i ((bAt ys i).1, IntKind.i64.wrap ((bAt ys i).2 + 1))) (by omega) (by simp [hy])
    generalize hB : bAt ys i = b at *
    refine Goods.to 2000 [.b true, .l, .stop] mixed (ih) (by kernel_rfl) ?_
    show Yes _
    repeat' apply And.intro
    (all_goals first | rfl | assumption | trivial | omega | (simp [-List.getD_eq_getElem?_getD, hB] <;> omega) | (simp (disch := omega) only [w64, wu64] <;> omega) | (simp (disch := omega) [-List.getD_eq_getElem?_getD, List.getD_cons_zero, List.getD_cons_succ, kCast_self, dfl_pair, dfl_int, w64, wu64, hB] <;> omega) | (rw [Bool.eq_iff_iff]; simp (disch := omega) [-List.getD_eq_getElem?_getD, List.getD_cons_zero, List.getD_cons_succ, kCast_self, dfl_pair, dfl_int, w64, wu64, hB] <;> omega) | (simp_all [-List.getD_eq_getElem?_getD] <;> omega))
/-- The first loop: what can be pushed is. -/
theorem bk_1 (own own2 : Bool) (c : Cnf) (h : c.Ok) (bs : List Blk) (hbs : bs.length ≤ 200) (k : Nat) (hk : k < c.cl.length) : ∀ (r i : Nat) (s : PS), i + r = bs.length → s.Good → s.m ≤ i →
    Goods (gBk own own2 c bs) ⟨.none, lp Tryd.f5 0, [(7, .ptr 2 0 0), (8, .int .i64 k), (9, .slice 8 0 s.m), (37, .slice 1 0 bs.length), (38, .int .i64 bs.length), (39, .int .i64 i)], hp [.gone, .tab own2 BlkK bs, stkC 3 c, clsO c, .mix k rawT (.slice 6 0 s.m), .mix k rawT (.map 7), .tab true BlkK s.zs, .map BlkK .unit s.cl s.es, .tab true BlkK s.pile]⟩
  | 0, i, s, hi, hg, hm => by
    have l1 := h.l1
    have hl := hg.len
    have hle := hg.le
    have hat : ∀ j, j < s.m → s.zs.getD j (0, 0) = s.pile.getD j (0, 0) := fun j hj => pileAt rfl hj
    have h1 := blocks_tri c l1 k rawT rawT s hk hle (by omega)
    obtain ⟨zs, m, cl, es⟩ := s
    simp only at *
    generalize hP : PS.pile ⟨zs, m, cl, es⟩ = p at *
    have hP' : zs.take m = p := hP
    rw [hP'] at h1
    have ih := bk_2 own own2 c h bs k hk p zs m cl es hl (by omega) hle hat m 0 p (by omega) hl
    refine Goods.to 2000 [.b false, .c (.of h1), .l, .stop] mixed (ih) (by kernel_rfl) ?_
    show Yes _
    repeat' apply And.intro
    (all_goals first | rfl | assumption | trivial | omega | (simp [-List.getD_eq_getElem?_getD] <;> omega) | (simp (disch := omega) only [w64, wu64] <;> omega) | (simp (disch := omega) [-List.getD_eq_getElem?_getD, List.getD_cons_zero, List.getD_cons_succ, kCast_self, dfl_pair, dfl_int, w64, wu64] <;> omega) | (rw [Bool.eq_iff_iff]; simp (disch := omega) [-List.getD_eq_getElem?_getD, List.getD_cons_zero, List.getD_cons_succ, kCast_self, dfl_pair, dfl_int, w64, wu64] <;> omega) | (simp_all [-List.getD_eq_getElem?_getD] <;> omega))
  | r + 1, i, s, hi, hg, hm => by
    have l1 := h.l1
    have hle := hg.le
    have hl := hg.len
    have h1 := push_tri c h k rawT rawT s (bAt bs i) hk hle (by omega)
    obtain ⟨g1, g2⟩ := pushS_good (c := c) (k := k) hg (bAt bs i)
    have hmm := pushS_m (c := c) (k := k) (s := s) (b := bAt bs i)
    have ih := bk_1 own own2 c h bs hbs k hk r (i + 1) (pushS c k s (bAt bs i)) (by omega) g1 (by omega)
    have e := pushOk_eq (c := c) (k := k) hg (bAt bs i)
    have g1l := g1.len
    rw [g2] at ih g1l
    unfold pushP at ih g1l
    by_cases hb : inB c k (bAt bs i) ∧ bAt bs i ∉ s.pile
    · rw [e, decide_eq_true hb] at h1
      rw [if_pos hb] at ih g1l
      have hsm : (pushS c k s (bAt bs i)).m = s.m + 1 := by rw [← g1l, List.length_append, hl]; rfl
      generalize pushS c k s (bAt bs i) = s2 at *
      obtain ⟨zs2, m2, cl2, es2⟩ := s2
      simp only at hsm
      subst hsm
      generalize s.pile = p at *
      generalize hB : bAt bs i = b at *
      refine Goods.to 2000 [.b true, .c (.of h1), .l, .stop] mixed (ih) (by kernel_rfl) ?_
      show Yes _
      repeat' apply And.intro
      (all_goals first | rfl | assumption | trivial | omega | (simp [-List.getD_eq_getElem?_getD, hB] <;> omega) | (simp (disch := omega) only [w64, wu64] <;> omega) | (simp (disch := omega) [-List.getD_eq_getElem?_getD, List.getD_cons_zero, List.getD_cons_succ, kCast_self, dfl_pair, dfl_int, w64, wu64, hB] <;> omega) | (rw [Bool.eq_iff_iff]; simp (disch := omega) [-List.getD_eq_getElem?_getD, List.getD_cons_zero, List.getD_cons_succ, kCast_self, dfl_pair, dfl_int, w64, wu64, hB] <;> omega) | (simp_all [-List.getD_eq_getElem?_getD] <;> omega))
    · rw [e, decide_eq_false hb] at h1
      rw [if_neg hb] at ih g1l
      generalize pushS c k s (bAt bs i) = s2 at *
      generalize s.pile = p at *
      generalize hB : bAt bs i = b at *
      refine Goods.to 2000 [.b true, .c (.of h1), .l, .stop] mixed (ih) (by kernel_rfl) ?_
      show Yes _
      repeat' apply And.intro
      (all_goals first | rfl | assumption | trivial | omega | (simp [-List.getD_eq_getElem?_getD, hB] <;> omega) | (simp (disch := omega) only [w64, wu64] <;> omega) | (simp (disch := omega) [-List.getD_eq_getElem?_getD, List.getD_cons_zero, List.getD_cons_succ, kCast_self, dfl_pair, dfl_int, w64, wu64, hB] <;> omega) | (rw [Bool.eq_iff_iff]; simp (disch := omega) [-List.getD_eq_getElem?_getD, List.getD_cons_zero, List.getD_cons_succ, kCast_self, dfl_pair, dfl_int, w64, wu64, hB] <;> omega) | (simp_all [-List.getD_eq_getElem?_getD] <;> omega))
theorem StockBack_tri (own own2 : Bool) (c : Cnf) (hcl : c.cl.length ≤ 9223372036854775807) (u : Nat) (hu : u < 256) (bs : List Blk) (hbl : bs.length ≤ 9223372036854775807) : Tri En 5 [cnfA 0 c, .int .u8 u, .slice 1 0 bs.length] [.tab own (.int .i64) c.cl, .tab own2 BlkK bs] (.bl true) [.gone, .gone] := by
  refine Tri.of Tryd.func5 rfl Tryd.call5 rfl ?_
  by_cases h : c.Ok
  · have hy := may_yes own c h
    by_cases hb : 200 < bs.length
    · refine Goods.fin 2000 [.c (.of speaks_tri), .c (.of hy), .s 28 (some true) true true] mixed Tryd.func5 ?_
      show Yes _
      repeat' apply And.intro
      (all_goals first | rfl | assumption | trivial | omega | (simp [-List.getD_eq_getElem?_getD] <;> omega) | (simp (disch := omega) only [w64, wu64] <;> omega) | (simp (disch := omega) [-List.getD_eq_getElem?_getD, List.getD_cons_zero, List.getD_cons_succ, kCast_self, dfl_pair, dfl_int, w64, wu64] <;> omega) | (rw [Bool.eq_iff_iff]; simp (disch := omega) [-List.getD_eq_getElem?_getD, List.getD_cons_zero, List.getD_cons_succ, kCast_self, dfl_pair, dfl_int, w64, wu64] <;> omega) | (simp_all [-List.getD_eq_getElem?_getD] <;> omega))
    · have l1 := h.l1
      have l0 := h.l0
      obtain ⟨k, hk⟩ : ∃ k, k = u % c.cl.length := ⟨_, rfl⟩
      have hkl : k < c.cl.length := by rw [hk]; exact Nat.mod_lt _ (by omega)
      have g0 : Int.tmod (IntKind.i64.wrap (u : Int)) (c.cl.length : Int) = (k : Int) := by rw [w64 (by omega) (by omega), hk]; rfl
      have hn := new_tri own c h k hkl
      have ih : Goods (gBk own own2 c bs) ⟨.none, lp Tryd.f5 0, [(7, .ptr 2 0 0), (8, .int .i64 k)] ++ (9, .nilslice) :: [(37, .slice 1 0 bs.length), (38, .int .i64 bs.length), (39, .int .i64 (0 : Nat))], hp [.gone, .tab own2 BlkK bs, stkC 3 c, clsO c, .mix k rawT (.slice 6 0 0), .mix k rawT (.map 7), .tab true BlkK [], .map BlkK .unit 0 []]⟩ :=
        Goods.nilTmp BlkK (bk_1 own own2 c h bs (by omega) k hkl bs.length 0 ps0 (by omega) ps0_good (Nat.le_refl _))
      refine Goods.to 2000 [.c (.of speaks_tri), .c (.of hy), .s 28 (some false) true true, .k 30 (.of hn), .l, .stop] mixed (ih) (by kernel_rfl) ?_
      show Yes _
      repeat' apply And.intro
      all_goals try exact g0
      (all_goals first | rfl | assumption | trivial | omega | (simp [-List.getD_eq_getElem?_getD] <;> omega) | (simp (disch := omega) only [w64, wu64] <;> omega) | (simp (disch := omega) [-List.getD_eq_getElem?_getD, List.getD_cons_zero, List.getD_cons_succ, kCast_self, dfl_pair, dfl_int, w64, wu64] <;> omega) | (rw [Bool.eq_iff_iff]; simp (disch := omega) [-List.getD_eq_getElem?_getD, List.getD_cons_zero, List.getD_cons_succ, kCast_self, dfl_pair, dfl_int, w64, wu64] <;> omega) | (simp_all [-List.getD_eq_getElem?_getD] <;> omega))
  · have hy := may_no own c hcl h
    refine Goods.fin 2000 [.c (.of speaks_tri), .c (.of hy)] mixed Tryd.func5 ?_
    show Yes _
    repeat' apply And.intro
    (all_goals first | rfl | assumption | trivial | omega | (simp [-List.getD_eq_getElem?_getD] <;> omega) | (simp (disch := omega) only [w64, wu64] <;> omega) | (simp (disch := omega) [-List.getD_eq_getElem?_getD, List.getD_cons_zero, List.getD_cons_succ, kCast_self, dfl_pair, dfl_int, w64, wu64] <;> omega) | (rw [Bool.eq_iff_iff]; simp (disch := omega) [-List.getD_eq_getElem?_getD, List.getD_cons_zero, List.getD_cons_succ, kCast_self, dfl_pair, dfl_int, w64, wu64] <;> omega) | (simp_all [-List.getD_eq_getElem?_getD] <;> omega))
theorem StockBack_law (d : dats ([(true, (.pair (.int .i64) (.pair (.int .i64) (.pair (.int .i64) (.pair (.int .i64) (.pair (.slice (.int .i64)) .unit)))))), (false, (.int .u8)), (false, (.slice (.pair (.int .i64) (.pair (.int .i64) .unit))))] : List (Bool × Sh))) (hd : datsOk ([(true, (.pair (.int .i64) (.pair (.int .i64) (.pair (.int .i64) (.pair (.int .i64) (.pair (.slice (.int .i64)) .unit)))))), (false, (.int .u8)), (false, (.slice (.pair (.int .i64) (.pair (.int .i64) .unit))))] : List (Bool × Sh)) d) : Tri En 5 (argsOf ([(true, (.pair (.int .i64) (.pair (.int .i64) (.pair (.int .i64) (.pair (.int .i64) (.pair (.slice (.int .i64)) .unit)))))), (false, (.int .u8)), (false, (.slice (.pair (.int .i64) (.pair (.int .i64) .unit))))] : List (Bool × Sh)) d 0) (objsOf ([(true, (.pair (.int .i64) (.pair (.int .i64) (.pair (.int .i64) (.pair (.int .i64) (.pair (.slice (.int .i64)) .unit)))))), (false, (.int .u8)), (false, (.slice (.pair (.int .i64) (.pair (.int .i64) .unit))))] : List (Bool × Sh)) d) (.bl true) (gones (cnts ([(true, (.pair (.int .i64) (.pair (.int .i64) (.pair (.int .i64) (.pair (.int .i64) (.pair (.slice (.int .i64)) .unit)))))), (false, (.int .u8)), (false, (.slice (.pair (.int .i64) (.pair (.int .i64) .unit))))] : List (Bool × Sh)))) := by
  obtain ⟨⟨w, s, b, t, cl, _⟩, u, bs, _⟩ := d
  obtain ⟨⟨h0, h1, h2, h3, ⟨h4, _⟩, _⟩, h5, ⟨h6, h7⟩, _⟩ := hd
  obtain ⟨u, rfl, hu⟩ := wf_u8 h5
  exact StockBack_tri false false ⟨w, s, b, t, cl⟩ (maxLen_le h4) u (Nat.lt_succ_of_le hu) bs (maxLen_le h6)
end Go.Proofs.YthlpfafmiakfdaaDoor.E
