/- HeartKeeps: what is out, and what is free. -/
import Derived.Test.YtdnhnglhdabkgaaDoorL11e
namespace Go.Proofs.YtdnhnglhdabkgaaDoor.E
set_option linter.unusedSimpArgs false
set_option linter.unusedVariables false
open Go
set_option maxRecDepth 100000

def uW (n : Nat) (g : Nat → Nat) : List Int := tabW n fun i => (g i : Int)
@[simp] theorem uW_len (n : Nat) (g : Nat → Nat) : (uW n g).length = n := tabW_len ..
theorem uW_get {n : Nat} {g : Nat → Nat} {i : Nat} (h : i < n) : (uW n g).getD i 0 = (g i : Int) := tabW_get h
def updN (g : Nat → Nat) (i x : Nat) : Nat → Nat := fun j => if j = i then x else g j
theorem uW_set (n : Nat) (g : Nat → Nat) (i x : Nat) : (uW n g).set i (x : Int) = uW n (updN g i x) := by
  refine tabW_set' fun j _ => ?_
  unfold updN
  split <;> rfl
/-- Of one superblock: what is out, and of which run it is the first. -/
inductive KOk (c : Cnf) (s : SupT) (o r : Nat) : Prop
  | free (h : s = (0, 0, 0)) (ho : o = 0) (hr : r = 0)
  | blk (a m : Nat) (h : s = (1, a, m)) (ha : a < c.cl.length) (h1 : m &&& o = 0) (h2 : m ||| o = allN c a) (h3 : o ≠ 0) (h4 : o < 18446744073709551616) (h5 : m < 18446744073709551616) (hr : r = 0)
  | run (a : Nat) (h : s = (2, a, 0)) (ho : o = 0) (hr : r = a) (h1 : 1 ≤ a) (h2 : a ≤ 64)
  | other (h : s = (3, 0, 0)) (ho : o = 0) (hr : r = 0)
def KInv (c : Cnf) (n : Nat) (f : SupF) (o r : Nat → Nat) : Prop := ∀ i, i < n → KOk c (f i) (o i) (r i)
noncomputable abbrev gWh (own : Bool) (c : Cnf) (n : Nat) (f : SupF) (o r : Nat → Nat) : Frm := ⟨En, 22, Tryd.f22.ntmps, [.tab own (.int .i64) c.cl, .tab true (.int .u64) (hW n f), .tab true (.int .u64) (uW n o), .tab true (.int .i64) (uW n r)], .bl true, [.tab own (.int .i64) c.cl, .tab true (.int .u64) (hW n f), .tab true (.int .u64) (uW n o), .tab true (.int .i64) (uW n r)]⟩
noncomputable abbrev whSt (own : Bool) (c : Cnf) (n : Nat) (f : SupF) (o r : Nat → Nat) (i : Nat) : Cfg := ⟨.none, lp Tryd.f22 0, [(1, .slice 1 0 (2 * n)), (2, .slice 2 0 n), (3, .slice 3 0 n), (4, .ptr 4 0 0), (14, .int .i64 n), (15, .int .i64 i)], hp [.tab own (.int .i64) c.cl, .tab true (.int .u64) (hW n f), .tab true (.int .u64) (uW n o), .tab true (.int .i64) (uW n r), boxC c]⟩
theorem wh_end (own : Bool) (c : Cnf) (n : Nat) (f : SupF) (o r : Nat → Nat) : Goods (gWh own c n f o r) (whSt own c n f o r n) := by
  refine Goods.fin 2000 [.b false] mixed Tryd.func22 ?_
  show Yes _
  repeat' apply And.intro
  (all_goals first | rfl | assumption | trivial | omega | (simp [-List.getD_eq_getElem?_getD] <;> omega) | (simp (disch := omega) only [w64, wu64] <;> omega) | (simp (disch := omega) [-List.getD_eq_getElem?_getD, List.getD_cons_zero, List.getD_cons_succ, kCast_self, dfl_pair, dfl_int, w64, wu64] <;> omega) | (rw [Bool.eq_iff_iff]; simp (disch := omega) [-List.getD_eq_getElem?_getD, List.getD_cons_zero, List.getD_cons_succ, kCast_self, dfl_pair, dfl_int, w64, wu64] <;> omega) | (simp_all [-List.getD_eq_getElem?_getD] <;> omega))
theorem wh_0 (own : Bool) (c : Cnf) (n : Nat) (hn : n ≤ 64) (f : SupF) (o r : Nat → Nat) (i a : Nat) (hi : i < n) (hat : TAt true n f i supA0 true) (ho : (uW n o).getD i (dfl (.int .u64)) = ((0 : Nat) : Int)) (hr : (uW n r).getD i (dfl (.int .i64)) = ((0 : Nat) : Int)) (ih : Goods (gWh own c n f o r) (whSt own c n f o r (i + 1))) : Goods (gWh own c n f o r) (whSt own c n f o r i) := by
  have l1 := uW_len n o
  have l2 := uW_len n r
  refine Goods.to 2000 [.b true, .c (.of hat), .s 33 (some false) true true, .s 48 (some false) true true, .s 54 (some false) true true, .b true, .b false, .l, .stop] mixed (ih) (by kernel_rfl) ?_
  show Yes _
  repeat' apply And.intro
  (all_goals first | rfl | assumption | trivial | omega | (simp [-List.getD_eq_getElem?_getD, ho, hr] <;> omega) | (simp (disch := omega) only [w64, wu64] <;> omega) | (simp (disch := omega) [-List.getD_eq_getElem?_getD, List.getD_cons_zero, List.getD_cons_succ, kCast_self, dfl_pair, dfl_int, w64, wu64, ho, hr] <;> omega) | (rw [Bool.eq_iff_iff]; simp (disch := omega) [-List.getD_eq_getElem?_getD, List.getD_cons_zero, List.getD_cons_succ, kCast_self, dfl_pair, dfl_int, w64, wu64, ho, hr] <;> omega) | (simp_all [-List.getD_eq_getElem?_getD] <;> omega))
theorem wh_2 (own : Bool) (c : Cnf) (n : Nat) (hn : n ≤ 64) (f : SupF) (o r : Nat → Nat) (i a : Nat) (hi : i < n) (hat : TAt true n f i (supA2 a) true) (ho : (uW n o).getD i (dfl (.int .u64)) = ((0 : Nat) : Int)) (hr : (uW n r).getD i (dfl (.int .i64)) = ((a : Nat) : Int)) (ih : Goods (gWh own c n f o r) (whSt own c n f o r (i + 1))) : Goods (gWh own c n f o r) (whSt own c n f o r i) := by
  have l1 := uW_len n o
  have l2 := uW_len n r
  refine Goods.to 2000 [.b true, .c (.of hat), .s 33 (some false) true true, .b true, .b false, .l, .stop] mixed (ih) (by kernel_rfl) ?_
  show Yes _
  repeat' apply And.intro
  (all_goals first | rfl | assumption | trivial | omega | (simp [-List.getD_eq_getElem?_getD, ho, hr] <;> omega) | (simp (disch := omega) only [w64, wu64] <;> omega) | (simp (disch := omega) [-List.getD_eq_getElem?_getD, List.getD_cons_zero, List.getD_cons_succ, kCast_self, dfl_pair, dfl_int, w64, wu64, ho, hr] <;> omega) | (rw [Bool.eq_iff_iff]; simp (disch := omega) [-List.getD_eq_getElem?_getD, List.getD_cons_zero, List.getD_cons_succ, kCast_self, dfl_pair, dfl_int, w64, wu64, ho, hr] <;> omega) | (simp_all [-List.getD_eq_getElem?_getD] <;> omega))
theorem wh_3 (own : Bool) (c : Cnf) (n : Nat) (hn : n ≤ 64) (f : SupF) (o r : Nat → Nat) (i a : Nat) (hi : i < n) (hat : TAt true n f i supA3 true) (ho : (uW n o).getD i (dfl (.int .u64)) = ((0 : Nat) : Int)) (hr : (uW n r).getD i (dfl (.int .i64)) = ((0 : Nat) : Int)) (ih : Goods (gWh own c n f o r) (whSt own c n f o r (i + 1))) : Goods (gWh own c n f o r) (whSt own c n f o r i) := by
  have l1 := uW_len n o
  have l2 := uW_len n r
  refine Goods.to 2000 [.b true, .c (.of hat), .s 33 (some true) true true, .s 37 (some false) true true, .b true, .b false, .l, .stop] mixed (ih) (by kernel_rfl) ?_
  show Yes _
  repeat' apply And.intro
  (all_goals first | rfl | assumption | trivial | omega | (simp [-List.getD_eq_getElem?_getD, ho, hr] <;> omega) | (simp (disch := omega) only [w64, wu64] <;> omega) | (simp (disch := omega) [-List.getD_eq_getElem?_getD, List.getD_cons_zero, List.getD_cons_succ, kCast_self, dfl_pair, dfl_int, w64, wu64, ho, hr] <;> omega) | (rw [Bool.eq_iff_iff]; simp (disch := omega) [-List.getD_eq_getElem?_getD, List.getD_cons_zero, List.getD_cons_succ, kCast_self, dfl_pair, dfl_int, w64, wu64, ho, hr] <;> omega) | (simp_all [-List.getD_eq_getElem?_getD] <;> omega))
theorem wh_1 (own : Bool) (c : Cnf) (hc : c.Ok) (n : Nat) (hn : n ≤ 64) (f : SupF) (o r : Nat → Nat) (i a m q : Nat) (hi : i < n) (hat : TAt true n f i (supA1 a m) true) (ho : (uW n o).getD i (dfl (.int .u64)) = (q : Int)) (hr : (uW n r).getD i (dfl (.int .i64)) = ((0 : Nat) : Int)) (h1 : m &&& q = 0) (h2 : m ||| q = allN c a) (h3 : q ≠ 0) (h4 : q < 18446744073709551616) (h5 : m < 18446744073709551616) (ih : Goods (gWh own c n f o r) (whSt own c n f o r (i + 1))) : Goods (gWh own c n f o r) (whSt own c n f o r i) := by
  have l1 := uW_len n o
  have l2 := uW_len n r
  have c1 := rcap_tri own c hc a
  have c2 : Tri En 38 [.int .i64 (capN c a)] [] (.int .u64 (allN c a)) [] := rlow_tri (capN c a)
  have e1 := and_eq m q h5 h4
  have e2 := or_eq m q h5 h4
  rw [h1] at e1
  rw [h2] at e2
  have e0 : (uW n o).getD i 0 = (q : Int) := ho
  have g1 : (IntKind.u64.wrap (BitVec.ofInt IntKind.u64.bits (m : Int) &&& BitVec.ofInt IntKind.u64.bits ((uW n o).getD i 0)).toNat != 0) = false := by rw [e0, e1]; rfl
  have g2 : (IntKind.u64.wrap (BitVec.ofInt IntKind.u64.bits (m : Int) ||| BitVec.ofInt IntKind.u64.bits ((uW n o).getD i 0)).toNat != ((allN c a : Nat) : Int)) = false := by rw [e0, e2]; simp
  clear e1 e2 h2
  generalize allN c a = z at *
  generalize capN c a = y at *
  refine Goods.to 2000 [.b true, .c (.of hat), .s 33 (some false) true true, .b false, .k 69 (.of c1), .k 70 (.of c2), .s 78 (some false) true true, .s 88 (some false) true true, .s 95 (some false) true true, .l, .stop] mixed (ih) (by kernel_rfl) ?_
  show Yes _
  repeat' apply And.intro
  all_goals try first | exact g1 | exact g2
  (all_goals first | rfl | assumption | trivial | omega | (simp [-List.getD_eq_getElem?_getD, ho, hr] <;> omega) | (simp (disch := omega) only [w64, wu64] <;> omega) | (simp (disch := omega) [-List.getD_eq_getElem?_getD, List.getD_cons_zero, List.getD_cons_succ, kCast_self, dfl_pair, dfl_int, w64, wu64, ho, hr] <;> omega) | (rw [Bool.eq_iff_iff]; simp (disch := omega) [-List.getD_eq_getElem?_getD, List.getD_cons_zero, List.getD_cons_succ, kCast_self, dfl_pair, dfl_int, w64, wu64, ho, hr] <;> omega) | (simp_all [-List.getD_eq_getElem?_getD] <;> omega))
theorem wh_0s (own : Bool) (c : Cnf) (hc : c.Ok) (n : Nat) (hn : n ≤ 64) (f : SupF) (o r : Nat → Nat) (hK : KInv c n f o r) : ∀ (j i : Nat), i + j = n → Goods (gWh own c n f o r) (whSt own c n f o r i)
  | 0, i, hi => by
    obtain rfl : i = n := by omega
    exact wh_end own c i f o r
  | j + 1, i, hi => by
    have l1 := hc.l1
    have ih := wh_0s own c hc n hn f o r hK j (i + 1) (by omega)
    have hin : i < n := by omega
    have go := uW_get (g := o) hin
    have gr := uW_get (g := r) hin
    rcases hK i hin with ⟨e, e1, e2⟩ | ⟨a, m, e, ha, h1, h2, h3, h4, h5, e2⟩ | ⟨a, e, e1, e2, h1, h2⟩ | ⟨e, e1, e2⟩
    · rw [e1] at go; rw [e2] at gr
      exact wh_0 own c n hn f o r i 0 hin (at_0 true n hn f i hin 0 (by omega) e) go gr ih
    · rw [e2] at gr
      exact wh_1 own c hc n hn f o r i a m _ hin (at_1 true n hn f i hin a m (by omega) e) go gr h1 h2 h3 h4 h5 ih
    · rw [e1] at go; rw [e2] at gr
      exact wh_2 own c n hn f o r i a hin (at_2 true n hn f i hin a (by omega) e) go gr ih
    · rw [e1] at go; rw [e2] at gr
      exact wh_3 own c n hn f o r i 0 hin (at_3 true n hn f i hin 0 (by omega) e) go gr ih
theorem whole_tri (own : Bool) (c : Cnf) (hc : c.Ok) (n : Nat) (hn : (n : Int) = c.s) (f : SupF) (o r : Nat → Nat) (hK : KInv c n f o r) : Tri En 22 [cnfA 0 c, .slice 1 0 (2 * n), .slice 2 0 n, .slice 3 0 n] [.tab own (.int .i64) c.cl, .tab true (.int .u64) (hW n f), .tab true (.int .u64) (uW n o), .tab true (.int .i64) (uW n r)] (.bl true) [.tab own (.int .i64) c.cl, .tab true (.int .u64) (hW n f), .tab true (.int .u64) (uW n o), .tab true (.int .i64) (uW n r)] := by
  have s1 := hc.s1
  have ih := wh_0s own c hc n (by omega) f o r hK n 0 (by omega)
  refine Tri.of Tryd.func22 rfl Tryd.call22 rfl ?_
  refine Goods.to 2000 [.l, .stop] mixed (ih) (by kernel_rfl) ?_
  show Yes _
  repeat' apply And.intro
  (all_goals first | rfl | assumption | trivial | omega | (simp [-List.getD_eq_getElem?_getD] <;> omega) | (simp (disch := omega) only [w64, wu64] <;> omega) | (simp (disch := omega) [-List.getD_eq_getElem?_getD, List.getD_cons_zero, List.getD_cons_succ, kCast_self, dfl_pair, dfl_int, w64, wu64] <;> omega) | (rw [Bool.eq_iff_iff]; simp (disch := omega) [-List.getD_eq_getElem?_getD, List.getD_cons_zero, List.getD_cons_succ, kCast_self, dfl_pair, dfl_int, w64, wu64] <;> omega) | (simp_all [-List.getD_eq_getElem?_getD] <;> omega))
end Go.Proofs.YtdnhnglhdabkgaaDoor.E
