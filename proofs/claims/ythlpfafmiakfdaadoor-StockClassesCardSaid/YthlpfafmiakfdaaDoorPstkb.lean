/- Package stock: a push as a function; filling; a copy of a class's blocks. -/
import Derived.Test.YthlpfafmiakfdaaDoorPstk
namespace Go.Proofs.YthlpfafmiakfdaaDoor.E
set_option linter.unusedSimpArgs false
set_option linter.unusedVariables false
open Go
set_option maxRecDepth 100000
/-- A class's blocks, as they lie: a row, so many of it, the map's clock, the map. -/
structure PS where
  zs : List Blk
  m : Nat
  cl : Nat
  es : TMap
abbrev stkS (c : Cnf) (k : Nat) (P Q : RawP) (s : PS) : List AObj := stk c k P Q s.zs s.m s.cl s.es
abbrev stkSG (c : Cnf) (k : Nat) (P Q : RawP) (s : PS) : List AObj := stkG c k P Q s.zs s.m s.cl s.es
def pushOk (c : Cnf) (k : Nat) (s : PS) (b : Blk) : Bool := decide (inB c k b) && !mhas (kk := BlkK) b s.es
def pushS (c : Cnf) (k : Nat) (s : PS) (b : Blk) : PS := if pushOk c k s b then ⟨s.zs.take s.m ++ [b], s.m + 1, mclock (kk := BlkK) b s.cl s.es, mput (kk := BlkK) (vk := .unit) b () s.cl s.es⟩ else s
theorem pushS_m {c : Cnf} {k : Nat} {s : PS} {b : Blk} : (pushS c k s b).m ≤ s.m + 1 := by unfold pushS; split <;> simp
theorem pushS_z {c : Cnf} {k : Nat} {s : PS} {b : Blk} (h : s.m ≤ s.zs.length) : (pushS c k s b).m ≤ (pushS c k s b).zs.length := by
  unfold pushS; split
  · simp; omega
  · exact h
theorem push_tri (c : Cnf) (h : c.Ok) (k : Nat) (P Q : RawP) (s : PS) (b : Blk) (hk : k < c.cl.length) (hz : s.m ≤ s.zs.length) (hs : s.m ≤ 1000000) : Tri En 14 [.ptr 0 0 0, .int .i64 k, blkA b] (stkS c k P Q s) (.bl (pushOk c k s b)) (stkSG c k P Q (pushS c k s b)) := by
  by_cases hb : inB c k b
  · cases hm : mhas (kk := BlkK) b s.es with
    | true =>
      have e : pushOk c k s b = false := by simp [pushOk, hm]
      have e2 : pushS c k s b = s := by simp [pushS, e]
      rw [e, e2]
      exact push_there c h k P Q _ _ _ _ b hk hb hm
    | false =>
      have e : pushOk c k s b = true := by simp [pushOk, hm, hb]
      have e2 : pushS c k s b = ⟨s.zs.take s.m ++ [b], s.m + 1, mclock (kk := BlkK) b s.cl s.es, mput (kk := BlkK) (vk := .unit) b () s.cl s.es⟩ := by simp [pushS, e]
      rw [e, e2]
      exact push_yes c h k P Q _ _ _ _ b hk hb hm hz hs
  · have e : pushOk c k s b = false := by simp [pushOk, hb]
    have e2 : pushS c k s b = s := by simp [pushS, e]
    rw [e, e2]
    exact push_out c h k P Q _ _ _ _ b hk hb
/-- Blocks of a superblock, the least one last. -/
def fillL (super : Int) (l : List Int) : List Blk := l.reverse.map fun x => (super, x)
def fillS (c : Cnf) (k : Nat) (s : PS) (super : Int) (l : List Int) : PS := (fillL super l).foldl (pushS c k) s
noncomputable abbrev gFill (c : Cnf) (k : Nat) (P Q : RawP) (s s' : PS) : Frm := ⟨En, 20, Tryd.f20.ntmps, stkS c k P Q s, .tuple [], stkSG c k P Q s'⟩
theorem fill_0 (c : Cnf) (h : c.Ok) (k : Nat) (P Q : RawP) (s0 s' : PS) (super : Int) (l : List Int) (hk : k < c.cl.length) (hl : l.length ≤ 64) : ∀ (j i : Nat) (s : PS), i + j = l.length → s.m ≤ s.zs.length → s.m + j ≤ 1000000 → s' = fillS c k s super (l.take j) →
    Goods (gFill c k P Q s0 s') ⟨.none, lp Tryd.f20 0, [(0, .ptr 0 0 0), (1, .int .i64 k), (2, .int .i64 super), (8, .slice 6 0 l.length), (13, .int .i64 l.length), (14, .int .i64 i)], hp [stkC 1 c, clsO c, .mix k P (.slice 7 0 s.m), .mix k Q (.map 5), .gone, .map BlkK .unit s.cl s.es, .tab true (.int .i64) l, .tab true BlkK s.zs]⟩
  | 0, i, s, hi, hz, hm, hs => by
    have e : fillS c k s super (l.take 0) = s := rfl
    rw [e] at hs
    subst hs
    refine Goods.fin 2000 [.b false] mixed Tryd.func20 ?_
    show Yes _
    repeat' apply And.intro
    (all_goals first | rfl | assumption | trivial | omega | (simp [-List.getD_eq_getElem?_getD] <;> omega) | (simp (disch := omega) only [w64, wu64] <;> omega) | (simp (disch := omega) [-List.getD_eq_getElem?_getD, List.getD_cons_zero, List.getD_cons_succ, kCast_self, dfl_pair, dfl_int, w64, wu64] <;> omega) | (rw [Bool.eq_iff_iff]; simp (disch := omega) [-List.getD_eq_getElem?_getD, List.getD_cons_zero, List.getD_cons_succ, kCast_self, dfl_pair, dfl_int, w64, wu64] <;> omega) | (simp_all [-List.getD_eq_getElem?_getD] <;> omega))
  | j + 1, i, s, hi, hz, hm, hs => by
    have hb : l.take (j + 1) = l.take j ++ [l.getD j 0] := take_snoc (by omega)
    have e : fillS c k s super (l.take (j + 1)) = fillS c k (pushS c k s (super, l.getD j 0)) super (l.take j) := by
      unfold fillS fillL
      rw [hb]
      simp
    rw [e] at hs
    have h1 := push_tri c h k P Q s (super, l.getD j 0) hk hz (by omega)
    have hmm := pushS_m (c := c) (k := k) (s := s) (b := (super, l.getD j 0))
    have ih := fill_0 c h k P Q s0 s' super l hk hl j (i + 1) (pushS c k s (super, l.getD j 0)) (by omega) (pushS_z hz) (by omega) hs
    have g0 : IntKind.i64.wrap (IntKind.i64.wrap ((l.length : Int) - 1) - (i : Int)) = (j : Int) := by
      rw [w64 (x := (l.length : Int) - 1) (by omega) (by omega), w64 (by omega) (by omega)]; omega
    have g1 : l.getD (IntKind.i64.wrap (IntKind.i64.wrap ((l.length : Int) - 1) - (i : Int))).toNat 0 = l.getD j 0 := by rw [g0, Int.toNat_natCast]
    generalize pushS c k s (super, l.getD j 0) = s2 at *
    refine Goods.to 2000 [.b true, .c (.of h1), .l, .stop] mixed (ih) (by kernel_rfl) ?_
    show Yes _
    repeat' apply And.intro
    all_goals try exact g1
    (all_goals first | rfl | assumption | trivial | omega | (simp [-List.getD_eq_getElem?_getD, g0] <;> omega) | (simp (disch := omega) only [w64, wu64] <;> omega) | (simp (disch := omega) [-List.getD_eq_getElem?_getD, List.getD_cons_zero, List.getD_cons_succ, kCast_self, dfl_pair, dfl_int, w64, wu64, g0] <;> omega) | (rw [Bool.eq_iff_iff]; simp (disch := omega) [-List.getD_eq_getElem?_getD, List.getD_cons_zero, List.getD_cons_succ, kCast_self, dfl_pair, dfl_int, w64, wu64, g0] <;> omega) | (simp_all [-List.getD_eq_getElem?_getD] <;> omega))
theorem fill_tri (c : Cnf) (h : c.Ok) (k : Nat) (P Q : RawP) (s : PS) (super : Int) (m : Nat) (hk : k < c.cl.length) (hz : s.m ≤ s.zs.length) (hs : s.m ≤ 900000) (hm : m < 18446744073709551616) : Tri En 20 [.ptr 0 0 0, .int .i64 k, .int .i64 super, .int .u64 m] (stkS c k P Q s) (.tuple []) (stkSG c k P Q (fillS c k s super (intsL (bitsL m)))) := by
  have h1 := list_tri m hm
  have hl : (intsL (bitsL m)).length ≤ 64 := by rw [intsL_len]; exact L_le m
  generalize intsL (bitsL m) = l at *
  have ih := fill_0 c h k P Q s (fillS c k s super l) super l hk hl l.length 0 s (by omega) hz (by omega) (by rw [List.take_length])
  refine Tri.of Tryd.func20 rfl Tryd.call20 rfl ?_
  refine Goods.to 2000 [.c (.of h1), .l, .stop] mixed (ih) (by kernel_rfl) ?_
  show Yes _
  repeat' apply And.intro
  (all_goals first | rfl | assumption | trivial | omega | (simp [-List.getD_eq_getElem?_getD] <;> omega) | (simp (disch := omega) only [w64, wu64] <;> omega) | (simp (disch := omega) [-List.getD_eq_getElem?_getD, List.getD_cons_zero, List.getD_cons_succ, kCast_self, dfl_pair, dfl_int, w64, wu64] <;> omega) | (rw [Bool.eq_iff_iff]; simp (disch := omega) [-List.getD_eq_getElem?_getD, List.getD_cons_zero, List.getD_cons_succ, kCast_self, dfl_pair, dfl_int, w64, wu64] <;> omega) | (simp_all [-List.getD_eq_getElem?_getD] <;> omega))
theorem clone_blk (own : Bool) (xs : List Blk) (off n : Nat) (h : off + n ≤ xs.length) (hn : n ≤ 17179869184) : Tri En 29 [.slice 0 off n] [.tab own BlkK xs] (.slice 1 0 n) [.tab own BlkK xs, .tab true BlkK ((xs.drop off).take n)] := by
  rcases Nat.eq_zero_or_pos n with h0 | h0
  · subst h0
    refine Tri.slice0 (pre := []) (post := []) ?_ ?_
    · refine Tri.of Tryd.func29 rfl Tryd.call29 rfl ?_
      refine Goods.fin 2000 [] mixed Tryd.func29 ?_
      show Yes _
      repeat' apply And.intro
      (all_goals first | rfl | assumption | trivial | omega | (simp [-List.getD_eq_getElem?_getD] <;> omega) | (simp (disch := omega) only [w64, wu64] <;> omega) | (simp (disch := omega) [-List.getD_eq_getElem?_getD, List.getD_cons_zero, List.getD_cons_succ, kCast_self, dfl_pair, dfl_int, w64, wu64] <;> omega) | (rw [Bool.eq_iff_iff]; simp (disch := omega) [-List.getD_eq_getElem?_getD, List.getD_cons_zero, List.getD_cons_succ, kCast_self, dfl_pair, dfl_int, w64, wu64] <;> omega) | (simp_all [-List.getD_eq_getElem?_getD] <;> omega))
    · refine Tri.of Tryd.func29 rfl Tryd.call29 rfl ?_
      refine Goods.fin 2000 [] mixed Tryd.func29 ?_
      show Yes _
      repeat' apply And.intro
      (all_goals first | rfl | assumption | trivial | omega | (simp [-List.getD_eq_getElem?_getD] <;> omega) | (simp (disch := omega) only [w64, wu64] <;> omega) | (simp (disch := omega) [-List.getD_eq_getElem?_getD, List.getD_cons_zero, List.getD_cons_succ, kCast_self, dfl_pair, dfl_int, w64, wu64] <;> omega) | (rw [Bool.eq_iff_iff]; simp (disch := omega) [-List.getD_eq_getElem?_getD, List.getD_cons_zero, List.getD_cons_succ, kCast_self, dfl_pair, dfl_int, w64, wu64] <;> omega) | (simp_all [-List.getD_eq_getElem?_getD] <;> omega))
  · refine Tri.of Tryd.func29 rfl Tryd.call29 rfl ?_
    refine Goods.fin 2000 [.s 7 none true false] mixed Tryd.func29 ?_
    show Yes _
    repeat' apply And.intro
    (all_goals first | rfl | assumption | trivial | omega | (simp [-List.getD_eq_getElem?_getD] <;> omega) | (simp (disch := omega) only [w64, wu64] <;> omega) | (simp (disch := omega) [-List.getD_eq_getElem?_getD, List.getD_cons_zero, List.getD_cons_succ, kCast_self, dfl_pair, dfl_int, w64, wu64] <;> omega) | (rw [Bool.eq_iff_iff]; simp (disch := omega) [-List.getD_eq_getElem?_getD, List.getD_cons_zero, List.getD_cons_succ, kCast_self, dfl_pair, dfl_int, w64, wu64] <;> omega) | (simp_all [-List.getD_eq_getElem?_getD] <;> omega))
theorem blocks_tri (c : Cnf) (hc : c.cl.length ≤ 16) (k : Nat) (P Q : RawP) (s : PS) (hk : k < c.cl.length) (hz : s.m ≤ s.zs.length) (hs : s.m ≤ 1000000) : Tri En 13 [.ptr 0 0 0, .int .i64 k] (stkS c k P Q s) (.slice 6 0 s.m) (stkS c k P Q s ++ [.tab true BlkK (s.zs.take s.m)]) := by
  have h1 := sis_tri c k P Q s.zs s.m s.cl s.es hc hk
  have h2 := clone_blk true s.zs 0 s.m (by omega) (by omega)
  refine Tri.of Tryd.func13 rfl Tryd.call13 rfl ?_
  refine Goods.fin 2000 [.c (.of h1), .c (.of h2)] mixed Tryd.func13 ?_
  show Yes _
  repeat' apply And.intro
  (all_goals first | rfl | assumption | trivial | omega | (simp [-List.getD_eq_getElem?_getD] <;> omega) | (simp (disch := omega) only [w64, wu64] <;> omega) | (simp (disch := omega) [-List.getD_eq_getElem?_getD, List.getD_cons_zero, List.getD_cons_succ, kCast_self, dfl_pair, dfl_int, w64, wu64] <;> omega) | (rw [Bool.eq_iff_iff]; simp (disch := omega) [-List.getD_eq_getElem?_getD, List.getD_cons_zero, List.getD_cons_succ, kCast_self, dfl_pair, dfl_int, w64, wu64] <;> omega) | (simp_all [-List.getD_eq_getElem?_getD] <;> omega))
end Go.Proofs.YthlpfafmiakfdaaDoor.E
