/- Package stock: all classes at once. -/
import Derived.Test.YthlpfafmiakfdaaDoorPstkg
import Derived.Test.YthlpfafmiakfdaaDoorEs
namespace Go.Proofs.YthlpfafmiakfdaaDoor.E
set_option linter.unusedSimpArgs false
set_option linter.unusedVariables false
open Go
set_option maxRecDepth 100000
def pileX (s : PS) : AObj × AV := (.tab true BlkK s.zs, .slice 0 0 s.m)
def mapX (s : PS) : AObj × AV := (.map BlkK .unit s.cl s.es, .map 0)
abbrev eqP (us ws : List Value) : RawP := fun a b => a = us ∧ b = ws
abbrev Four := (List Value × List Value) × List Value × List Value
/-- A stock, all classes. -/
abbrev stkB (c : Cnf) (pl : List PS) : List AObj := [stkC 1 c, clsO c, .link 4, .link 5, .big (FQ (pl.map pileX)), .big (FQ (pl.map mapX))]
abbrev stkB0 (c : Cnf) (pl : List PS) : List AObj := [stkC 1 c, clsO c, .link 10, .link 11, .gone, .gone, .gone, .gone, .gone, .gone, .big (FQ (pl.map pileX)), .big (FQ (pl.map mapX))]
abbrev stkB1 (c : Cnf) (pl : List PS) : List AObj := [stkC 1 c, clsO c, .link 11, .link 12, .gone, .gone, .gone, .gone, .gone, .gone, .gone, .big (FQ (pl.map pileX)), .big (FQ (pl.map mapX))]
/-- .. one of them looked at. -/
abbrev stkP (c : Cnf) (k : Nat) (pl : List PS) (x : Four) (s : PS) : List AObj := [stkC 1 c, clsO c, .mix k (eqP x.1.1 x.1.2) (.slice 6 0 s.m), .mix k (eqP x.2.1 x.2.2) (.map 8), .gone, .gone, .tab true BlkK s.zs, .big (RQ k x.1.1 x.1.2 (pl.map pileX)), .map BlkK .unit s.cl s.es, .big (RQ k x.2.1 x.2.2 (pl.map mapX))]
abbrev stkP1 (c : Cnf) (k : Nat) (pl : List PS) (x : Four) (s : PS) : List AObj := [stkC 1 c, clsO c, .mix k (eqP x.1.1 x.1.2) (.slice 10 0 s.m), .mix k (eqP x.2.1 x.2.2) (.map 8), .gone, .gone, .gone, .big (RQ k x.1.1 x.1.2 (pl.map pileX)), .map BlkK .unit s.cl s.es, .big (RQ k x.2.1 x.2.2 (pl.map mapX)), .tab true BlkK s.zs]
theorem stk_open {c : Cnf} {pl : List PS} {k : Nat} {s : PS} (hk : pl[k]? = some s) : ∀ B ρ w, RelH B ρ (hp (stkB c pl)) w → ∃ (x : Four) (ρ2 : Rho), RelH B ρ2 (hp (stkP c k pl x s)) w ∧ (∀ q l, ρ q = some l → ρ2 q = some l) ∧ ∀ b, Blks ρ2 (hp (stkP c k pl x s)) b → Blks ρ (hp (stkB c pl)) b := by
  intro B ρ w h
  have e1 : (pl.map pileX)[k]? = some (.tab true BlkK s.zs, .slice 0 0 s.m) := by rw [List.getElem?_map, hk]; rfl
  have e2 : (pl.map mapX)[k]? = some (.map BlkK .unit s.cl s.es, .map 0) := by rw [List.getElem?_map, hk]; rfl
  obtain ⟨us, ws, ρ1, _, r1, m1, b1⟩ := h.openF (i := 2) (j := 4) rfl rfl e1
  obtain ⟨us', ws', ρ2, _, r2, m2, b2⟩ := r1.openF (i := 3) (j := 5) rfl rfl e2
  obtain ⟨r3, b3⟩ := hp_eq (os := stkP c k pl ((us, ws), us', ws') s) rfl (fun i hi => match i, hi with
    | 0, _ => rfl | 1, _ => rfl | 2, _ => rfl | 3, _ => rfl | 4, _ => rfl | 5, _ => rfl | 6, _ => rfl | 7, _ => rfl | 8, _ => rfl | 9, _ => rfl | n + 10, h => absurd h (by simp)) r2
  exact ⟨((us, ws), us', ws'), ρ2, r3, fun q l hq => m2 q l (m1 q l hq), fun b hb => b1 b (b2 b (b3 b hb))⟩
theorem stk_close0 {c : Cnf} {pl : List PS} {k : Nat} (hk : k < pl.length) (s : PS) : ∀ (x : Four) B ρ w, RelH B ρ (hp (stkP c k pl x s)) w → ∃ ρ', RelH B ρ' (hp (stkB0 c (pl.set k s))) w ∧ (∀ q l, ρ q = some l → ρ' q = some l) ∧ ∀ b, Blks ρ' (hp (stkB0 c (pl.set k s))) b → Blks ρ (hp (stkP c k pl x s)) b := by
  intro x B ρ w h
  obtain ⟨ρ1, r1, m1, b1⟩ := h.closeF (i := 2) (j := 6) (r := 7) (k := k) (o := .tab true BlkK s.zs) (av := .slice 0 0 s.m) rfl rfl rfl (by simpa using hk) rfl (by simp) fun l u hl hd => den_slice0 hl hd
  obtain ⟨ρ2, r2, m2, b2⟩ := r1.closeF (i := 3) (j := 8) (r := 9) (k := k) (o := .map BlkK .unit s.cl s.es) (av := .map 0) rfl rfl rfl (by simpa using hk) rfl (by intro hh; cases hh) fun l u hl hd => den_map0 hl hd
  obtain ⟨r3, b3⟩ := hp_eq (os := stkB0 c (pl.set k s)) rfl (fun i hi => match i, hi with
    | 0, _ => rfl | 1, _ => rfl | 2, _ => rfl | 3, _ => rfl | 4, _ => rfl | 5, _ => rfl | 6, _ => rfl | 7, _ => rfl | 8, _ => rfl | 9, _ => rfl | 10, _ => by show _ = AObj.big (FQ ((pl.set k s).map pileX)); rw [List.map_set]; rfl | 11, _ => by show _ = AObj.big (FQ ((pl.set k s).map mapX)); rw [List.map_set]; rfl | n + 12, h => absurd h (by simp)) r2
  exact ⟨ρ2, r3, fun q l hq => m2 q l (m1 q l hq), fun b hb => b1 b (b2 b (b3 b hb))⟩
theorem stk_close1 {c : Cnf} {pl : List PS} {k : Nat} (hk : k < pl.length) (s : PS) : ∀ (x : Four) B ρ w, RelH B ρ (hp (stkP1 c k pl x s)) w → ∃ ρ', RelH B ρ' (hp (stkB1 c (pl.set k s))) w ∧ (∀ q l, ρ q = some l → ρ' q = some l) ∧ ∀ b, Blks ρ' (hp (stkB1 c (pl.set k s))) b → Blks ρ (hp (stkP1 c k pl x s)) b := by
  intro x B ρ w h
  obtain ⟨ρ1, r1, m1, b1⟩ := h.closeF (i := 2) (j := 10) (r := 7) (k := k) (o := .tab true BlkK s.zs) (av := .slice 0 0 s.m) rfl rfl rfl (by simpa using hk) rfl (by simp) fun l u hl hd => den_slice0 hl hd
  obtain ⟨ρ2, r2, m2, b2⟩ := r1.closeF (i := 3) (j := 8) (r := 9) (k := k) (o := .map BlkK .unit s.cl s.es) (av := .map 0) rfl rfl rfl (by simpa using hk) rfl (by intro hh; cases hh) fun l u hl hd => den_map0 hl hd
  obtain ⟨r3, b3⟩ := hp_eq (os := stkB1 c (pl.set k s)) rfl (fun i hi => match i, hi with
    | 0, _ => rfl | 1, _ => rfl | 2, _ => rfl | 3, _ => rfl | 4, _ => rfl | 5, _ => rfl | 6, _ => rfl | 7, _ => rfl | 8, _ => rfl | 9, _ => rfl | 10, _ => rfl | 11, _ => by show _ = AObj.big (FQ ((pl.set k s).map pileX)); rw [List.map_set]; rfl | 12, _ => by show _ = AObj.big (FQ ((pl.set k s).map mapX)); rw [List.map_set]; rfl | n + 13, h => absurd h (by simp)) r2
  exact ⟨ρ2, r3, fun q l hq => m2 q l (m1 q l hq), fun b hb => b1 b (b2 b (b3 b hb))⟩
theorem push_B (c : Cnf) (h : c.Ok) (pl : List PS) (hpl : pl.length = c.cl.length) (k : Nat) (s : PS) (hs : pl[k]? = some s) (b : Blk) (hz : s.m ≤ s.zs.length) (hm : s.m ≤ 1000000) : Tri En 14 [.ptr 0 0 0, .int .i64 k, blkA b] (stkB c pl) (.bl (pushOk c k s b)) (stkB1 c (pl.set k (pushS c k s b))) := by
  have hk : k < pl.length := (List.getElem?_eq_some_iff.1 hs).1
  have T := fun x : Four => push_tri c h k (eqP x.1.1 x.1.2) (eqP x.2.1 x.2.2) s b (by omega) hz hm
  refine Tri.ghost (os2 := fun x : Four => stkP c k pl x s) (os2' := fun x : Four => stkP1 c k pl x (pushS c k s b)) (v2 := fun _ => .bl (pushOk c k s b)) (T (([], []), [], [])).enters (stk_open hs) (fun _ => by simp) (fun x => ?_) (fun x B ρ w hH => ?_)
  · generalize pushS c k s b = s2 at *
    generalize pushOk c k s b = ok at *
    refine (T x).frameE ?_
    repeat' apply And.intro
    (all_goals first | rfl | assumption | trivial | omega | (simp [-List.getD_eq_getElem?_getD] <;> omega) | (simp (disch := omega) only [w64, wu64] <;> omega) | (simp (disch := omega) [-List.getD_eq_getElem?_getD, List.getD_cons_zero, List.getD_cons_succ, kCast_self, dfl_pair, dfl_int, w64, wu64] <;> omega) | (rw [Bool.eq_iff_iff]; simp (disch := omega) [-List.getD_eq_getElem?_getD, List.getD_cons_zero, List.getD_cons_succ, kCast_self, dfl_pair, dfl_int, w64, wu64] <;> omega) | (simp_all [-List.getD_eq_getElem?_getD] <;> omega))
  · obtain ⟨ρ', r1, r2, r3⟩ := stk_close1 hk (pushS c k s b) x B ρ w hH
    exact ⟨ρ', r1, r2, r3, fun u hu => hu⟩
theorem len_B (c : Cnf) (h : c.Ok) (pl : List PS) (hpl : pl.length = c.cl.length) (k : Nat) (s : PS) (hs : pl[k]? = some s)  : Tri En 19 [.ptr 0 0 0, .int .i64 k] (stkB c pl) (.int .i64 s.m) (stkB0 c (pl.set k (s))) := by
  have hk : k < pl.length := (List.getElem?_eq_some_iff.1 hs).1
  have l1 := h.l1
  have T := fun x : Four => slen_tri c k (eqP x.1.1 x.1.2) (eqP x.2.1 x.2.2) s.zs s.m s.cl s.es l1 (by omega)
  refine Tri.ghost (os2 := fun x : Four => stkP c k pl x s) (os2' := fun x : Four => stkP c k pl x (s)) (v2 := fun _ => .int .i64 s.m) (T (([], []), [], [])).enters (stk_open hs) (fun _ => by simp) (fun x => ?_) (fun x B ρ w hH => ?_)
  · refine (T x).frameE ?_
    repeat' apply And.intro
    (all_goals first | rfl | assumption | trivial | omega | (simp [-List.getD_eq_getElem?_getD] <;> omega) | (simp (disch := omega) only [w64, wu64] <;> omega) | (simp (disch := omega) [-List.getD_eq_getElem?_getD, List.getD_cons_zero, List.getD_cons_succ, kCast_self, dfl_pair, dfl_int, w64, wu64] <;> omega) | (rw [Bool.eq_iff_iff]; simp (disch := omega) [-List.getD_eq_getElem?_getD, List.getD_cons_zero, List.getD_cons_succ, kCast_self, dfl_pair, dfl_int, w64, wu64] <;> omega) | (simp_all [-List.getD_eq_getElem?_getD] <;> omega))
  · obtain ⟨ρ', r1, r2, r3⟩ := stk_close0 hk (s) x B ρ w hH
    exact ⟨ρ', r1, r2, r3, fun u hu => hu⟩
/-- What is left behind a pop. -/
def popS (s : PS) : PS := ⟨s.zs, s.m - 1, s.cl, mdel (kk := BlkK) (bAt s.zs (s.m - 1) : Blk) s.es⟩
theorem pop0_tri (c : Cnf) (k : Nat) (P Q : RawP) (s : PS) (hc : c.cl.length ≤ 16) (hk : k < c.cl.length) (hm : s.m = 0) : Tri En 18 [.ptr 0 0 0, .int .i64 k] (stkS c k P Q s) (.tuple [blkA (0, 0), .bl false]) (stkS c k P Q s) := by
  obtain ⟨zs, m, cl, es⟩ := s
  simp only at hm
  subst hm
  exact pop_none c k P Q zs cl es hc hk
theorem pop1_tri (c : Cnf) (k : Nat) (P Q : RawP) (s : PS) (hc : c.cl.length ≤ 16) (hk : k < c.cl.length) (hm : 0 < s.m) (hz : s.m ≤ s.zs.length) (hm2 : s.m ≤ 1000000) : Tri En 18 [.ptr 0 0 0, .int .i64 k] (stkS c k P Q s) (.tuple [blkA (bAt s.zs (s.m - 1)), .bl true]) (stkS c k P Q (popS s)) := by
  obtain ⟨zs, m, cl, es⟩ := s
  obtain ⟨q, rfl⟩ : ∃ q, m = q + 1 := ⟨m - 1, by simp only at hm; omega⟩
  simp only at hz hm2
  exact pop_some c k P Q zs q cl es _ hc hk (by omega) (by omega) rfl
theorem pop_B0 (c : Cnf) (h : c.Ok) (pl : List PS) (hpl : pl.length = c.cl.length) (k : Nat) (s : PS) (hs : pl[k]? = some s) (hm : s.m = 0) : Tri En 18 [.ptr 0 0 0, .int .i64 k] (stkB c pl) (.tuple [blkA (0, 0), .bl false]) (stkB0 c (pl.set k (s))) := by
  have hk : k < pl.length := (List.getElem?_eq_some_iff.1 hs).1
  have l1 := h.l1
  have T := fun x : Four => pop0_tri c k (eqP x.1.1 x.1.2) (eqP x.2.1 x.2.2) s l1 (by omega) hm
  refine Tri.ghost (os2 := fun x : Four => stkP c k pl x s) (os2' := fun x : Four => stkP c k pl x (s)) (v2 := fun _ => .tuple [blkA (0, 0), .bl false]) (T (([], []), [], [])).enters (stk_open hs) (fun _ => by simp) (fun x => ?_) (fun x B ρ w hH => ?_)
  · refine (T x).frameE ?_
    repeat' apply And.intro
    (all_goals first | rfl | assumption | trivial | omega | (simp [-List.getD_eq_getElem?_getD] <;> omega) | (simp (disch := omega) only [w64, wu64] <;> omega) | (simp (disch := omega) [-List.getD_eq_getElem?_getD, List.getD_cons_zero, List.getD_cons_succ, kCast_self, dfl_pair, dfl_int, w64, wu64] <;> omega) | (rw [Bool.eq_iff_iff]; simp (disch := omega) [-List.getD_eq_getElem?_getD, List.getD_cons_zero, List.getD_cons_succ, kCast_self, dfl_pair, dfl_int, w64, wu64] <;> omega) | (simp_all [-List.getD_eq_getElem?_getD] <;> omega))
  · obtain ⟨ρ', r1, r2, r3⟩ := stk_close0 hk (s) x B ρ w hH
    exact ⟨ρ', r1, r2, r3, fun u hu => hu⟩
theorem pop_B1 (c : Cnf) (h : c.Ok) (pl : List PS) (hpl : pl.length = c.cl.length) (k : Nat) (s : PS) (hs : pl[k]? = some s) (hm : 0 < s.m) (hz : s.m ≤ s.zs.length) (hm2 : s.m ≤ 1000000) : Tri En 18 [.ptr 0 0 0, .int .i64 k] (stkB c pl) (.tuple [blkA (bAt s.zs (s.m - 1)), .bl true]) (stkB0 c (pl.set k (popS s))) := by
  have hk : k < pl.length := (List.getElem?_eq_some_iff.1 hs).1
  have l1 := h.l1
  have T := fun x : Four => pop1_tri c k (eqP x.1.1 x.1.2) (eqP x.2.1 x.2.2) s l1 (by omega) hm hz hm2
  refine Tri.ghost (os2 := fun x : Four => stkP c k pl x s) (os2' := fun x : Four => stkP c k pl x (popS s)) (v2 := fun _ => .tuple [blkA (bAt s.zs (s.m - 1)), .bl true]) (T (([], []), [], [])).enters (stk_open hs) (fun _ => by simp) (fun x => ?_) (fun x B ρ w hH => ?_)
  · generalize popS s = s2 at *
    generalize bAt s.zs (s.m - 1) = b at *
    refine (T x).frameE ?_
    repeat' apply And.intro
    (all_goals first | rfl | assumption | trivial | omega | (simp [-List.getD_eq_getElem?_getD] <;> omega) | (simp (disch := omega) only [w64, wu64] <;> omega) | (simp (disch := omega) [-List.getD_eq_getElem?_getD, List.getD_cons_zero, List.getD_cons_succ, kCast_self, dfl_pair, dfl_int, w64, wu64] <;> omega) | (rw [Bool.eq_iff_iff]; simp (disch := omega) [-List.getD_eq_getElem?_getD, List.getD_cons_zero, List.getD_cons_succ, kCast_self, dfl_pair, dfl_int, w64, wu64] <;> omega) | (simp_all [-List.getD_eq_getElem?_getD] <;> omega))
  · obtain ⟨ρ', r1, r2, r3⟩ := stk_close0 hk (popS s) x B ρ w hH
    exact ⟨ρ', r1, r2, r3, fun u hu => hu⟩
theorem fill_B (c : Cnf) (h : c.Ok) (pl : List PS) (hpl : pl.length = c.cl.length) (k : Nat) (s : PS) (hs : pl[k]? = some s) (super : Int) (m : Nat) (hz : s.m ≤ s.zs.length) (hm2 : s.m ≤ 900000) (hm : m < 18446744073709551616) : Tri En 20 [.ptr 0 0 0, .int .i64 k, .int .i64 super, .int .u64 m] (stkB c pl) (.tuple []) (stkB1 c (pl.set k (fillS c k s super (intsL (bitsL m))))) := by
  have hk : k < pl.length := (List.getElem?_eq_some_iff.1 hs).1
  have l1 := h.l1
  have T := fun x : Four => fill_tri c h k (eqP x.1.1 x.1.2) (eqP x.2.1 x.2.2) s super m (by omega) hz hm2 hm
  refine Tri.ghost (os2 := fun x : Four => stkP c k pl x s) (os2' := fun x : Four => stkP1 c k pl x (fillS c k s super (intsL (bitsL m)))) (v2 := fun _ => .tuple []) (T (([], []), [], [])).enters (stk_open hs) (fun _ => by simp) (fun x => ?_) (fun x B ρ w hH => ?_)
  · generalize fillS c k s super (intsL (bitsL m)) = s2 at *
    refine (T x).frameE ?_
    repeat' apply And.intro
    (all_goals first | rfl | assumption | trivial | omega | (simp [-List.getD_eq_getElem?_getD] <;> omega) | (simp (disch := omega) only [w64, wu64] <;> omega) | (simp (disch := omega) [-List.getD_eq_getElem?_getD, List.getD_cons_zero, List.getD_cons_succ, kCast_self, dfl_pair, dfl_int, w64, wu64] <;> omega) | (rw [Bool.eq_iff_iff]; simp (disch := omega) [-List.getD_eq_getElem?_getD, List.getD_cons_zero, List.getD_cons_succ, kCast_self, dfl_pair, dfl_int, w64, wu64] <;> omega) | (simp_all [-List.getD_eq_getElem?_getD] <;> omega))
  · obtain ⟨ρ', r1, r2, r3⟩ := stk_close1 hk (fillS c k s super (intsL (bitsL m))) x B ρ w hH
    exact ⟨ρ', r1, r2, r3, fun u hu => hu⟩
theorem spill_B0 (c : Cnf) (h : c.Ok) (pl : List PS) (hpl : pl.length = c.cl.length) (k : Nat) (s : PS) (hs : pl[k]? = some s) (hm2 : s.m ≤ 1000000) (hm : (s.m : Int) ≤ 2 * c.b) : Tri En 15 [.ptr 0 0 0, .int .i64 k] (stkB c pl) (.tuple [.int .i64 0, .int .u64 0, .bl false]) (stkB0 c (pl.set k (s))) := by
  have hk : k < pl.length := (List.getElem?_eq_some_iff.1 hs).1
  have l1 := h.l1
  have T := fun x : Four => spill_no c h k (by omega) (eqP x.1.1 x.1.2) (eqP x.2.1 x.2.2) s hm2 hm
  refine Tri.ghost (os2 := fun x : Four => stkP c k pl x s) (os2' := fun x : Four => stkP c k pl x (s)) (v2 := fun _ => .tuple [.int .i64 0, .int .u64 0, .bl false]) (T (([], []), [], [])).enters (stk_open hs) (fun _ => by simp) (fun x => ?_) (fun x B ρ w hH => ?_)
  · refine (T x).frameE ?_
    repeat' apply And.intro
    (all_goals first | rfl | assumption | trivial | omega | (simp [-List.getD_eq_getElem?_getD] <;> omega) | (simp (disch := omega) only [w64, wu64] <;> omega) | (simp (disch := omega) [-List.getD_eq_getElem?_getD, List.getD_cons_zero, List.getD_cons_succ, kCast_self, dfl_pair, dfl_int, w64, wu64] <;> omega) | (rw [Bool.eq_iff_iff]; simp (disch := omega) [-List.getD_eq_getElem?_getD, List.getD_cons_zero, List.getD_cons_succ, kCast_self, dfl_pair, dfl_int, w64, wu64] <;> omega) | (simp_all [-List.getD_eq_getElem?_getD] <;> omega))
  · obtain ⟨ρ', r1, r2, r3⟩ := stk_close0 hk (s) x B ρ w hH
    exact ⟨ρ', r1, r2, r3, fun u hu => hu⟩
theorem spill_B1 (c : Cnf) (h : c.Ok) (pl : List PS) (hpl : pl.length = c.cl.length) (k : Nat) (s : PS) (hs : pl[k]? = some s) (sup : Int) (hz : s.m ≤ s.zs.length) (hm2 : s.m ≤ 1000000) (hm : 2 * c.b < (s.m : Int)) (hb : isBest (s.zs.take s.m) sup) (h0 : ∀ b ∈ s.zs.take s.m, 0 ≤ b.1) : Tri En 15 [.ptr 0 0 0, .int .i64 k] (stkB c pl) (.tuple [.int .i64 sup, .int .u64 (spillM s sup), .bl true]) (stkB0 c (pl.set k (spillS s sup))) := by
  have hk : k < pl.length := (List.getElem?_eq_some_iff.1 hs).1
  have l1 := h.l1
  have T := fun x : Four => spill_yes c h k (by omega) (eqP x.1.1 x.1.2) (eqP x.2.1 x.2.2) s sup hz hm2 hm hb h0
  refine Tri.ghost (os2 := fun x : Four => stkP c k pl x s) (os2' := fun x : Four => stkP c k pl x (spillS s sup)) (v2 := fun _ => .tuple [.int .i64 sup, .int .u64 (spillM s sup), .bl true]) (T (([], []), [], [])).enters (stk_open hs) (fun _ => by simp) (fun x => ?_) (fun x B ρ w hH => ?_)
  · generalize spillS s sup = s2 at *
    generalize spillM s sup = M at *
    refine (T x).frameE ?_
    repeat' apply And.intro
    (all_goals first | rfl | assumption | trivial | omega | (simp [-List.getD_eq_getElem?_getD] <;> omega) | (simp (disch := omega) only [w64, wu64] <;> omega) | (simp (disch := omega) [-List.getD_eq_getElem?_getD, List.getD_cons_zero, List.getD_cons_succ, kCast_self, dfl_pair, dfl_int, w64, wu64] <;> omega) | (rw [Bool.eq_iff_iff]; simp (disch := omega) [-List.getD_eq_getElem?_getD, List.getD_cons_zero, List.getD_cons_succ, kCast_self, dfl_pair, dfl_int, w64, wu64] <;> omega) | (simp_all [-List.getD_eq_getElem?_getD] <;> omega))
  · obtain ⟨ρ', r1, r2, r3⟩ := stk_close0 hk (spillS s sup) x B ρ w hH
    exact ⟨ρ', r1, r2, r3, fun u hu => hu⟩
/-- .. with a copy of the class's blocks beside it. -/
abbrev stkB2 (c : Cnf) (pl : List PS) (l : List Blk) : List AObj := [stkC 1 c, clsO c, .link 11, .link 12, .gone, .gone, .gone, .gone, .gone, .gone, .tab true BlkK l, .big (FQ (pl.map pileX)), .big (FQ (pl.map mapX))]
theorem stk_close2 {c : Cnf} {pl : List PS} {k : Nat} {s : PS} (hs : pl[k]? = some s) (l : List Blk) : ∀ (x : Four) B ρ w, RelH B ρ (hp (stkP c k pl x s ++ [.tab true BlkK l])) w → ∃ ρ', RelH B ρ' (hp (stkB2 c pl l)) w ∧ (∀ q l, ρ q = some l → ρ' q = some l) ∧ ∀ b, Blks ρ' (hp (stkB2 c pl l)) b → Blks ρ (hp (stkP c k pl x s ++ [.tab true BlkK l])) b := by
  intro x B ρ w h
  have hk : k < pl.length := (List.getElem?_eq_some_iff.1 hs).1
  have hset : pl.set k s = pl := by
    refine List.ext_getElem? fun i => ?_
    by_cases hi : i = k
    · subst hi; rw [List.getElem?_set_self hk, hs]
    · rw [List.getElem?_set_ne (Ne.symm hi)]
  obtain ⟨ρ1, r1, m1, b1⟩ := h.closeF (i := 2) (j := 6) (r := 7) (k := k) (o := .tab true BlkK s.zs) (av := .slice 0 0 s.m) rfl rfl rfl (by simpa using hk) rfl (by simp) fun l u hl hd => den_slice0 hl hd
  obtain ⟨ρ2, r2, m2, b2⟩ := r1.closeF (i := 3) (j := 8) (r := 9) (k := k) (o := .map BlkK .unit s.cl s.es) (av := .map 0) rfl rfl rfl (by simpa using hk) rfl (by intro hh; cases hh) fun l u hl hd => den_map0 hl hd
  obtain ⟨r3, b3⟩ := hp_eq (os := stkB2 c (pl.set k s) l) rfl (fun i hi => match i, hi with
    | 0, _ => rfl | 1, _ => rfl | 2, _ => rfl | 3, _ => rfl | 4, _ => rfl | 5, _ => rfl | 6, _ => rfl | 7, _ => rfl | 8, _ => rfl | 9, _ => rfl | 10, _ => rfl | 11, _ => by show _ = AObj.big (FQ ((pl.set k s).map pileX)); rw [List.map_set]; rfl | 12, _ => by show _ = AObj.big (FQ ((pl.set k s).map mapX)); rw [List.map_set]; rfl | n + 13, h => absurd h (by simp)) r2
  rw [hset] at r3 b3
  exact ⟨ρ2, r3, fun q l hq => m2 q l (m1 q l hq), fun b hb => b1 b (b2 b (b3 b hb))⟩
theorem blocks_B (c : Cnf) (h : c.Ok) (pl : List PS) (hpl : pl.length = c.cl.length) (k : Nat) (s : PS) (hs : pl[k]? = some s) (hz : s.m ≤ s.zs.length) (hm2 : s.m ≤ 1000000) : Tri En 13 [.ptr 0 0 0, .int .i64 k] (stkB c pl) (.slice 10 0 s.m) (stkB2 c pl (s.zs.take s.m)) := by
  have hk : k < pl.length := (List.getElem?_eq_some_iff.1 hs).1
  have l1 := h.l1
  have T := fun x : Four => blocks_tri c l1 k (eqP x.1.1 x.1.2) (eqP x.2.1 x.2.2) s (by omega) hz hm2
  refine Tri.ghost (os2 := fun x : Four => stkP c k pl x s) (os2' := fun x : Four => stkP c k pl x s ++ [.tab true BlkK (s.zs.take s.m)]) (v2 := fun _ => .slice 10 0 s.m) (T (([], []), [], [])).enters (stk_open hs) (fun _ => by simp) (fun x => ?_) (fun x B ρ w hH => ?_)
  · generalize s.zs.take s.m = l at *
    refine (T x).frameE ?_
    repeat' apply And.intro
    (all_goals first | rfl | assumption | trivial | omega | (simp [-List.getD_eq_getElem?_getD] <;> omega) | (simp (disch := omega) only [w64, wu64] <;> omega) | (simp (disch := omega) [-List.getD_eq_getElem?_getD, List.getD_cons_zero, List.getD_cons_succ, kCast_self, dfl_pair, dfl_int, w64, wu64] <;> omega) | (rw [Bool.eq_iff_iff]; simp (disch := omega) [-List.getD_eq_getElem?_getD, List.getD_cons_zero, List.getD_cons_succ, kCast_self, dfl_pair, dfl_int, w64, wu64] <;> omega) | (simp_all [-List.getD_eq_getElem?_getD] <;> omega))
  · obtain ⟨ρ', r1, r2, r3⟩ := stk_close2 hs _ x B ρ w hH
    exact ⟨ρ', r1, r2, r3, fun u hu => Den.mono r2 hu⟩
end Go.Proofs.YthlpfafmiakfdaaDoor.E
