/- Package stock: Spill. -/
import Derived.Test.YthlpfafmiakfdaaDoorPstkf
namespace Go.Proofs.YthlpfafmiakfdaaDoor.E
set_option linter.unusedSimpArgs false
set_option linter.unusedVariables false
open Go
set_option maxRecDepth 100000
/-- What Spill leaves of a class's blocks, and the set that it answers. -/
def spillS (s : PS) (sup : Int) : PS := ⟨delZ sup s.m s.zs, (keepL sup (s.zs.take s.m)).length, s.cl, (dlS sup ⟨0, s.es⟩ (s.zs.take s.m)).es⟩
def spillM (s : PS) (sup : Int) : Nat := (dlS sup ⟨0, s.es⟩ (s.zs.take s.m)).m
theorem spill_no (c : Cnf) (h : c.Ok) (k : Nat) (hk : k < c.cl.length) (P Q : RawP) (s : PS) (hs : s.m ≤ 1000000) (hm : (s.m : Int) ≤ 2 * c.b) : Tri En 15 [.ptr 0 0 0, .int .i64 k] (stkS c k P Q s) (.tuple [.int .i64 0, .int .u64 0, .bl false]) (stkS c k P Q s) := by
  have l1 := h.l1
  have b1 := h.b1
  have b0 := h.b0
  have h1 := slen_tri c k P Q s.zs s.m s.cl s.es l1 hk
  refine Tri.of Tryd.func15 rfl Tryd.call15 rfl ?_
  refine Goods.fin 2000 [.c (.of h1), .b true] mixed Tryd.func15 ?_
  show Yes _
  repeat' apply And.intro
  (all_goals first | rfl | assumption | trivial | omega | (simp [-List.getD_eq_getElem?_getD] <;> omega) | (simp (disch := omega) only [w64, wu64] <;> omega) | (simp (disch := omega) [-List.getD_eq_getElem?_getD, List.getD_cons_zero, List.getD_cons_succ, kCast_self, dfl_pair, dfl_int, w64, wu64] <;> omega) | (rw [Bool.eq_iff_iff]; simp (disch := omega) [-List.getD_eq_getElem?_getD, List.getD_cons_zero, List.getD_cons_succ, kCast_self, dfl_pair, dfl_int, w64, wu64] <;> omega) | (simp_all [-List.getD_eq_getElem?_getD] <;> omega))
noncomputable abbrev gSp (c : Cnf) (k : Nat) (P Q : RawP) (s : PS) (sup : Int) : Frm := ⟨En, 15, Tryd.f15.ntmps, stkS c k P Q s, .tuple [.int .i64 sup, .int .u64 (spillM s sup), .bl true], stkS c k P Q (spillS s sup)⟩
abbrev spO (c : Cnf) (k : Nat) (P Q : RawP) (s : PS) (x : Int) (ct : Nat × CMap) : List AObj := [stkC 1 c, clsO c, .mix k P (.slice 4 0 s.m), .mix k Q (.map 5), .tab true BlkK s.zs, .map BlkK .unit s.cl s.es, .cells [.ptr 0 0 0], .cells [.int .i64 k], .cells [.int .i64 x], .cells [.int .u64 0], .map cK cK ct.1 ct.2]
abbrev spT : Tm := [(2, .ptr 6 0 0), (3, .ptr 7 0 0), (4, .ptr 8 0 0), (5, .ptr 9 0 0), (7, .map 10), (42, .ptr 11 0 0)]
theorem least_ex {p : Nat → Prop} : ∀ n, p n → ∃ x, p x ∧ ∀ j, j < x → ¬ p j := by
  intro n
  induction n using Nat.strongRecOn with
  | ind n ih =>
    intro hn
    by_cases h : ∃ j, j < n ∧ p j
    · obtain ⟨j, hj, hp⟩ := h; exact ih j hj hp
    · exact ⟨n, hn, fun j hj hp => h ⟨j, hj, hp⟩⟩
/-- All entries have been seen. -/
theorem spill_end (c : Cnf) (h : c.Ok) (k : Nat) (hk : k < c.cl.length) (P Q : RawP) (s : PS) (sup : Int) (hz : s.m ≤ s.zs.length) (hs : s.m ≤ 1000000) (hb : isBest (s.zs.take s.m) sup) (ct : Nat × CMap) (hct : CntOk (s.zs.take s.m) ct) (seen : List Nat) (hall : ∀ e ∈ ct.2, e.2.2 ∈ seen) :
    Goods (gSp c k P Q s sup) ⟨.none, lp Tryd.f15 1, spT, hp (spO c k P Q s sup ct ++ [.iter 10 ct.1 seen])⟩ := by
  have l1 := h.l1
  obtain ⟨x, hx, h1, h2⟩ : ∃ x, x < s.m ∧ (bAt s.zs x).1 = sup ∧ ∀ j, j < x → (bAt s.zs j).1 ≠ sup := by
    have hex : ∃ x, x < s.m ∧ (bAt s.zs x).1 = sup := by
      obtain ⟨b, hb1, hb2⟩ := numB_pos.1 hb.some
      obtain ⟨j, hj⟩ := List.getElem?_of_mem hb1
      have hlt := (List.getElem?_eq_some_iff.1 hj).1
      simp at hlt
      rw [List.getElem?_take_of_lt (by omega)] at hj
      refine ⟨j, by omega, ?_⟩
      simp only [bAt, List.getD_eq_getElem?_getD, hj]
      exact hb2
    obtain ⟨x0, hx0⟩ := hex
    obtain ⟨x, hx, hmin⟩ := least_ex (p := fun x => x < s.m ∧ (bAt s.zs x).1 = sup) x0 hx0
    exact ⟨x, hx.1, hx.2, fun j hj he => hmin j hj ⟨by omega, he⟩⟩
  have h3 := delf_tri c l1 k hk P Q sup ⟨0, s.es⟩ s.m s.cl s.zs x (by show 0 < 18446744073709551616; omega) hz hs hx h1 h2
  have e1 : ∀ e ∈ ct.2, e.2.2 < ct.1 := hct.born.2
  refine Goods.fin 2000 [.s 43 none false true, .k 83 (.of h3)] mixed Tryd.func15 ?_
  show Yes _
  repeat' apply And.intro
  (all_goals first | rfl | assumption | trivial | omega | (simp [-List.getD_eq_getElem?_getD] <;> omega) | (simp (disch := omega) only [w64, wu64] <;> omega) | (simp (disch := omega) [-List.getD_eq_getElem?_getD, List.getD_cons_zero, List.getD_cons_succ, kCast_self, dfl_pair, dfl_int, w64, wu64] <;> omega) | (rw [Bool.eq_iff_iff]; simp (disch := omega) [-List.getD_eq_getElem?_getD, List.getD_cons_zero, List.getD_cons_succ, kCast_self, dfl_pair, dfl_int, w64, wu64] <;> omega) | (simp_all [-List.getD_eq_getElem?_getD] <;> omega))
/-- One entry. -/
theorem spill_step (c : Cnf) (h : c.Ok) (k : Nat) (P Q : RawP) (s : PS) (sup : Int) (ct : Nat × CMap) (l : List Blk) (hct : CntOk l ct) (x : Int) (seen : List Nat) (e : CEnt) (he : e ∈ ct.2)
    (ih : Goods (gSp c k P Q s sup) ⟨.none, lp Tryd.f15 1, spT, hp (spO c k P Q s (if x < 0 ∨ (cget x ct.2).getD 0 < e.2.1 ∨ (e.2.1 = (cget x ct.2).getD 0 ∧ e.1 < x) then e.1 else x) ct ++ [.iter 10 ct.1 (seen ++ [e.2.2])])⟩) :
    Goods (gSp c k P Q s sup) ⟨.none, rg Tryd.f15 12, spT, hp (spO c k P Q s x ct ++ [.iter 10 ct.1 (seen ++ [e.2.2])])⟩ := by
  obtain ⟨k1, v1⟩ := keyB_of (kk := cK) (vk := cK) hct.born.1 he
  obtain ⟨y, n, b⟩ := e
  simp only at k1 v1 ih
  have hlast := lastB_snoc seen b
  have hex : ∃ e ∈ ct.2, e.2.2 = lastB (seen ++ [b]) := ⟨(y, n, b), he, by rw [hlast]⟩
  rw [← hlast] at k1 v1
  have hne : seen ++ [b] ≠ [] := by simp
  obtain ⟨cl, ces⟩ := ct
  simp only at *
  generalize hw : seen ++ [b] = w at *
  have hcx : mget (kk := cK) (vk := cK) x ces = cget x ces := rfl
  obtain ⟨cx, hcx2⟩ : ∃ cx, (cget x ces).getD 0 = cx := ⟨_, rfl⟩
  rw [hcx2] at ih
  by_cases a1 : x < 0
  · rw [if_pos (.inl a1)] at ih
    refine Goods.to 2000 [.s 49 (some true) true true, .l, .stop] mixed (ih) (by kernel_rfl) ?_
    show Yes _
    repeat' apply And.intro
    (all_goals first | rfl | assumption | trivial | omega | (simp [-List.getD_eq_getElem?_getD, k1, v1] <;> omega) | (simp (disch := omega) only [w64, wu64] <;> omega) | (simp (disch := omega) [-List.getD_eq_getElem?_getD, List.getD_cons_zero, List.getD_cons_succ, kCast_self, dfl_pair, dfl_int, w64, wu64, k1, v1] <;> omega) | (rw [Bool.eq_iff_iff]; simp (disch := omega) [-List.getD_eq_getElem?_getD, List.getD_cons_zero, List.getD_cons_succ, kCast_self, dfl_pair, dfl_int, w64, wu64, k1, v1] <;> omega) | (simp_all [-List.getD_eq_getElem?_getD] <;> omega))
  · by_cases a2 : cx < n
    · rw [if_pos (.inr (.inl a2))] at ih
      have g0 : decide ((n : Int) > cx) = true := decide_eq_true a2
      refine Goods.to 2000 [.s 49 (some false) true true, .s 55 (some true) true true, .l, .stop] mixed (ih) (by kernel_rfl) ?_
      show Yes _
      repeat' apply And.intro
      (all_goals first | rfl | assumption | trivial | omega | (simp [-List.getD_eq_getElem?_getD, k1, v1, hcx, hcx2] <;> omega) | (simp (disch := omega) only [w64, wu64] <;> omega) | (simp (disch := omega) [-List.getD_eq_getElem?_getD, List.getD_cons_zero, List.getD_cons_succ, kCast_self, dfl_pair, dfl_int, w64, wu64, k1, v1, hcx, hcx2] <;> omega) | (rw [Bool.eq_iff_iff]; simp (disch := omega) [-List.getD_eq_getElem?_getD, List.getD_cons_zero, List.getD_cons_succ, kCast_self, dfl_pair, dfl_int, w64, wu64, k1, v1, hcx, hcx2] <;> omega) | (simp_all [-List.getD_eq_getElem?_getD] <;> omega))
    · by_cases a3 : n = cx
      · by_cases a4 : y < x
        · rw [if_pos (.inr (.inr ⟨a3, a4⟩))] at ih
          refine Goods.to 2000 [.s 49 (some false) true true, .s 55 (some false) true true, .s 62 (some true) true true, .s 66 (some true) true true, .l, .stop] mixed (ih) (by kernel_rfl) ?_
          show Yes _
          repeat' apply And.intro
          (all_goals first | rfl | assumption | trivial | omega | (simp [-List.getD_eq_getElem?_getD, k1, v1, hcx, hcx2] <;> omega) | (simp (disch := omega) only [w64, wu64] <;> omega) | (simp (disch := omega) [-List.getD_eq_getElem?_getD, List.getD_cons_zero, List.getD_cons_succ, kCast_self, dfl_pair, dfl_int, w64, wu64, k1, v1, hcx, hcx2] <;> omega) | (rw [Bool.eq_iff_iff]; simp (disch := omega) [-List.getD_eq_getElem?_getD, List.getD_cons_zero, List.getD_cons_succ, kCast_self, dfl_pair, dfl_int, w64, wu64, k1, v1, hcx, hcx2] <;> omega) | (simp_all [-List.getD_eq_getElem?_getD] <;> omega))
        · rw [if_neg (by omega)] at ih
          refine Goods.to 2000 [.s 49 (some false) true true, .s 55 (some false) true true, .s 62 (some true) true true, .s 66 (some false) true true, .l, .stop] mixed (ih) (by kernel_rfl) ?_
          show Yes _
          repeat' apply And.intro
          (all_goals first | rfl | assumption | trivial | omega | (simp [-List.getD_eq_getElem?_getD, k1, v1, hcx, hcx2] <;> omega) | (simp (disch := omega) only [w64, wu64] <;> omega) | (simp (disch := omega) [-List.getD_eq_getElem?_getD, List.getD_cons_zero, List.getD_cons_succ, kCast_self, dfl_pair, dfl_int, w64, wu64, k1, v1, hcx, hcx2] <;> omega) | (rw [Bool.eq_iff_iff]; simp (disch := omega) [-List.getD_eq_getElem?_getD, List.getD_cons_zero, List.getD_cons_succ, kCast_self, dfl_pair, dfl_int, w64, wu64, k1, v1, hcx, hcx2] <;> omega) | (simp_all [-List.getD_eq_getElem?_getD] <;> omega))
      · rw [if_neg (by omega)] at ih
        refine Goods.to 2000 [.s 49 (some false) true true, .s 55 (some false) true true, .s 62 (some false) true true, .l, .stop] mixed (ih) (by kernel_rfl) ?_
        show Yes _
        repeat' apply And.intro
        (all_goals first | rfl | assumption | trivial | omega | (simp [-List.getD_eq_getElem?_getD, k1, v1, hcx, hcx2] <;> omega) | (simp (disch := omega) only [w64, wu64] <;> omega) | (simp (disch := omega) [-List.getD_eq_getElem?_getD, List.getD_cons_zero, List.getD_cons_succ, kCast_self, dfl_pair, dfl_int, w64, wu64, k1, v1, hcx, hcx2] <;> omega) | (rw [Bool.eq_iff_iff]; simp (disch := omega) [-List.getD_eq_getElem?_getD, List.getD_cons_zero, List.getD_cons_succ, kCast_self, dfl_pair, dfl_int, w64, wu64, k1, v1, hcx, hcx2] <;> omega) | (simp_all [-List.getD_eq_getElem?_getD] <;> omega))
theorem spill_2 (c : Cnf) (h : c.Ok) (k : Nat) (hk : k < c.cl.length) (P Q : RawP) (s : PS) (sup : Int) (hz : s.m ≤ s.zs.length) (hs : s.m ≤ 1000000) (hb : isBest (s.zs.take s.m) sup) (ct : Nat × CMap) (hct : CntOk (s.zs.take s.m) ct) (h0 : ∀ e ∈ ct.2, 0 ≤ e.1) (hne : s.zs.take s.m ≠ []) : ∀ (j : Nat) (seen : List Nat) (x : Int),
    (ct.2.filter fun f => decide (f.2.2 ∉ seen)).length ≤ j → bestSeen ct.2 seen x → Goods (gSp c k P Q s sup) ⟨.none, lp Tryd.f15 1, spT, hp (spO c k P Q s x ct ++ [.iter 10 ct.1 seen])⟩ := by
  intro j
  induction j with
  | zero =>
    intro seen x hj hx
    have hall : ∀ e ∈ ct.2, e.2.2 ∈ seen := by
      intro e he
      apply Classical.byContradiction; intro hn
      have : e ∈ ct.2.filter fun f => decide (f.2.2 ∉ seen) := List.mem_filter.2 ⟨he, by simpa using hn⟩
      rw [List.eq_nil_of_length_eq_zero (Nat.le_zero.1 hj)] at this
      cases this
    have hx' := best_of_all hct hne hall hx
    obtain rfl := hx'.uniq hb
    exact spill_end c h k hk P Q s x hz hs hb ct hct seen hall
  | succ j ihj =>
    intro seen x hj hx
    by_cases hall : ∀ e ∈ ct.2, e.2.2 ∈ seen
    · have hx' := best_of_all hct hne hall hx
      obtain rfl := hx'.uniq hb
      exact spill_end c h k hk P Q s x hz hs hb ct hct seen hall
    · have hex : ∃ e ∈ ct.2, e.2.2 ∉ seen := by
        apply Classical.byContradiction; intro hn
        exact hall fun e he => Classical.byContradiction fun h1 => hn ⟨e, he, h1⟩
      have e1 : ∀ e ∈ ct.2, e.2.2 < ct.1 := hct.born.2
      have ih : Goods (gSp c k P Q s sup) ⟨.none, rg Tryd.f15 12, spT, hp (spO c k P Q s x ct ++ .iterX 10 ct.1 seen (ct.2.map (·.2.2)) :: [])⟩ := by
        refine Goods.pick fun b hb1 hb2 => ?_
        obtain ⟨e, he, rfl⟩ := List.mem_map.1 hb1
        refine spill_step c h k P Q s sup ct _ hct x seen e he ?_
        refine ihj _ _ ?_ (bestSeen_step hct.born.1 hct.keys h0 hx he hb2)
        have := left_less (kk := cK) (vk := cK) he hb2
        exact Nat.le_of_lt_succ (Nat.lt_of_lt_of_le this hj)
      refine Goods.to 2000 [.s 43 none true true, .upto 12] mixed (ih) (by kernel_rfl) ?_
      show Yes _
      repeat' apply And.intro
      (all_goals first | rfl | assumption | trivial | omega | (simp [-List.getD_eq_getElem?_getD] <;> omega) | (simp (disch := omega) only [w64, wu64] <;> omega) | (simp (disch := omega) [-List.getD_eq_getElem?_getD, List.getD_cons_zero, List.getD_cons_succ, kCast_self, dfl_pair, dfl_int, w64, wu64] <;> omega) | (rw [Bool.eq_iff_iff]; simp (disch := omega) [-List.getD_eq_getElem?_getD, List.getD_cons_zero, List.getD_cons_succ, kCast_self, dfl_pair, dfl_int, w64, wu64] <;> omega) | (simp_all [-List.getD_eq_getElem?_getD] <;> omega))
theorem spill_1 (c : Cnf) (h : c.Ok) (k : Nat) (hk : k < c.cl.length) (P Q : RawP) (s : PS) (sup : Int) (hz : s.m ≤ s.zs.length) (hs : s.m ≤ 1000000) (hb : isBest (s.zs.take s.m) sup) (h0 : ∀ b ∈ s.zs.take s.m, 0 ≤ b.1) (hm : 0 < s.m) : ∀ (j i : Nat), i + j = s.m →
    Goods (gSp c k P Q s sup) ⟨.none, lp Tryd.f15 0, [(2, .ptr 6 0 0), (3, .ptr 7 0 0), (4, .ptr 8 0 0), (5, .ptr 9 0 0), (7, .map 10), (29, .slice 4 0 s.m), (30, .int .i64 s.m), (31, .int .i64 i)], hp (spO c k P Q s 0 (cntM (s.zs.take i)))⟩
  | 0, i, hi => by
    obtain rfl : i = s.m := by omega
    have hct := cnt_ok (s.zs.take s.m)
    have hpos : ∀ e ∈ (cntM (s.zs.take s.m)).2, (0 : Int) ≤ e.1 := by
      intro e he
      have h1 := cget_mem hct.keys e he
      rw [hct.get] at h1
      split at h1
      · rename_i h2
        obtain ⟨b, hb1, hb2⟩ := numB_pos.1 h2
        rw [← hb2]; exact h0 b hb1
      · cases h1
    have hne : s.zs.take s.m ≠ [] := fun he => by
      have := congrArg List.length he
      simp at this
      rcases this with h1 | h1
      · omega
      · rw [h1] at hz; simp at hz; omega
    have ih := spill_2 c h k hk P Q s sup hz hs hb _ hct hpos hne _ [] (-1) (Nat.le_refl _) (bestSeen_nil _)
    generalize cntM (s.zs.take s.m) = ct at *
    refine Goods.to 2000 [.b false, .l, .stop] mixed (ih) (by kernel_rfl) ?_
    show Yes _
    repeat' apply And.intro
    (all_goals first | rfl | assumption | trivial | omega | (simp [-List.getD_eq_getElem?_getD] <;> omega) | (simp (disch := omega) only [w64, wu64] <;> omega) | (simp (disch := omega) [-List.getD_eq_getElem?_getD, List.getD_cons_zero, List.getD_cons_succ, kCast_self, dfl_pair, dfl_int, w64, wu64] <;> omega) | (rw [Bool.eq_iff_iff]; simp (disch := omega) [-List.getD_eq_getElem?_getD, List.getD_cons_zero, List.getD_cons_succ, kCast_self, dfl_pair, dfl_int, w64, wu64] <;> omega) | (simp_all [-List.getD_eq_getElem?_getD] <;> omega))
  | j + 1, i, hi => by
    have hsn := takeB_snoc (l := s.zs) (k := i) (by omega)
    have ih := spill_1 c h k hk P Q s sup hz hs hb h0 hm j (i + 1) (by omega)
    rw [hsn, cntM_snoc] at ih
    have hg := (cnt_ok (s.zs.take i)).get (bAt s.zs i).1
    have hle := numB_le (s.zs.take i) (bAt s.zs i).1
    have hlt : (s.zs.take i).length ≤ i := by simp; omega
    have hval : ∃ v : Nat, v ≤ i ∧ (cget (bAt s.zs i).1 (cntM (s.zs.take i)).2).getD 0 = (v : Int) := by
      rw [hg]
      split
      · exact ⟨_, by omega, rfl⟩
      · exact ⟨0, by omega, rfl⟩
    unfold cntS at ih
    generalize cntM (s.zs.take i) = ct at *
    obtain ⟨v, hv1, hv2⟩ := hval
    rw [hv2] at ih
    unfold cget at hv2
    generalize hbb : bAt s.zs i = b at *
    refine Goods.to 2000 [.b true, .l, .stop] mixed (ih) (by kernel_rfl) ?_
    show Yes _
    repeat' apply And.intro
    (all_goals first | rfl | assumption | trivial | omega | (simp [-List.getD_eq_getElem?_getD, hv2, hbb] <;> omega) | (simp (disch := omega) only [w64, wu64] <;> omega) | (simp (disch := omega) [-List.getD_eq_getElem?_getD, List.getD_cons_zero, List.getD_cons_succ, kCast_self, dfl_pair, dfl_int, w64, wu64, hv2, hbb] <;> omega) | (rw [Bool.eq_iff_iff]; simp (disch := omega) [-List.getD_eq_getElem?_getD, List.getD_cons_zero, List.getD_cons_succ, kCast_self, dfl_pair, dfl_int, w64, wu64, hv2, hbb] <;> omega) | (simp_all [-List.getD_eq_getElem?_getD] <;> omega))
theorem spill_yes (c : Cnf) (h : c.Ok) (k : Nat) (hk : k < c.cl.length) (P Q : RawP) (s : PS) (sup : Int) (hz : s.m ≤ s.zs.length) (hs : s.m ≤ 1000000) (hm : 2 * c.b < (s.m : Int)) (hb : isBest (s.zs.take s.m) sup) (h0 : ∀ b ∈ s.zs.take s.m, 0 ≤ b.1) : Tri En 15 [.ptr 0 0 0, .int .i64 k] (stkS c k P Q s) (.tuple [.int .i64 sup, .int .u64 (spillM s sup), .bl true]) (stkS c k P Q (spillS s sup)) := by
  have l1 := h.l1
  have b1 := h.b1
  have b0 := h.b0
  have h1 := slen_tri c k P Q s.zs s.m s.cl s.es l1 hk
  have ih := spill_1 c h k hk P Q s sup hz hs hb h0 (by omega) s.m 0 (by omega)
  rw [List.take_zero] at ih
  refine Tri.of Tryd.func15 rfl Tryd.call15 rfl ?_
  refine Goods.to 2000 [.c (.of h1), .b false, .l, .stop] mixed (ih) (by kernel_rfl) ?_
  show Yes _
  repeat' apply And.intro
  (all_goals first | rfl | assumption | trivial | omega | (simp [-List.getD_eq_getElem?_getD] <;> omega) | (simp (disch := omega) only [w64, wu64] <;> omega) | (simp (disch := omega) [-List.getD_eq_getElem?_getD, List.getD_cons_zero, List.getD_cons_succ, kCast_self, dfl_pair, dfl_int, w64, wu64] <;> omega) | (rw [Bool.eq_iff_iff]; simp (disch := omega) [-List.getD_eq_getElem?_getD, List.getD_cons_zero, List.getD_cons_succ, kCast_self, dfl_pair, dfl_int, w64, wu64] <;> omega) | (simp_all [-List.getD_eq_getElem?_getD] <;> omega))
end Go.Proofs.YthlpfafmiakfdaaDoor.E
