/- Several texts in one. -/
import Derived.Test.YtnheodgffackoaaDoorPob
import Derived.Test.YtnheodgffackoaaDoorPslot
import Derived.Test.YtnheodgffackoaaDoorPwd
/- Package hall: how a hall and a call lie; the first moves. -/
namespace Go.Proofs.YtnheodgffackoaaDoor.E
set_option linter.unusedSimpArgs false
set_option linter.unusedVariables false
open Go Go.Proofs.YtnheodgffackoaaDoor.Y
set_option maxRecDepth 100000

/-- A hall: from which word on, how many workers, how often each tries alone, and the object. -/
structure HV where
  b : Nat
  n : Nat
  tries : Nat
  o : Ob
namespace HV
def W (V : HV) : Nat := obW V.o
def R (V : HV) : Nat := obW V.o + 3 * V.n
structure Ok (V : HV) : Prop where
  b1 : V.b ≤ 100000
  n0 : 0 < V.n
  n1 : V.n ≤ 200
  t1 : V.tries ≤ 100
theorem obW_le (o : Ob) : 1 ≤ obW o ∧ obW o ≤ 2000 := by
  cases o with
  | stack r => have := roomN_le r; exact ⟨by show 1 ≤ roomN r + 1; omega, by show roomN r + 1 ≤ 2000; omega⟩
  | counter => exact ⟨Nat.le_refl _, by show 1 ≤ 2000; omega⟩
theorem Ok.fr {V : HV} (h : V.Ok) : FrOk (V.b : Int) (obW V.o : Int) (V.n : Int) := by
  have := h.b1; have := h.n1; have := obW_le V.o
  exact ⟨by omega, by omega, by omega, by omega, by omega, by omega⟩
theorem R_eq (V : HV) : fRec (obW V.o : Int) (V.n : Int) = (V.R : Int) := by unfold fRec HV.R; omega
/-- Where a record begins. -/
def at_ (V : HV) (w s : Nat) : Nat := V.b + 1 + 4 * V.n + (2 * w + s) * V.R
theorem at_eq (V : HV) (w s : Nat) : (V.b : Int) + 1 + 4 * (V.n : Int) + (2 * (w : Int) + (s : Int)) * fRec (obW V.o : Int) (V.n : Int) = (V.at_ w s : Int) := by
  rw [V.R_eq]; unfold at_
  simp [Int.natCast_add, Int.natCast_mul]
theorem Ok.at_le {V : HV} (h : V.Ok) {w s : Nat} (hw : w ≤ 300) (hs : s ≤ 10) : V.at_ w s ≤ 10000000 := by
  have := h.b1; have := h.n1; have := obW_le V.o
  unfold at_
  have h1 : (2 * w + s) * V.R ≤ 610 * 2600 := Nat.mul_le_mul (by omega) (by unfold HV.R; omega)
  omega
end HV
abbrev EntK : K := .pair (.int .i64) (.pair OpK (.pair OpK (.int .i64)))
abbrev EntT : Type := Int × O2 × O2 × Int
def dnE (d : Dn) : EntT := ((d.1 : Int), d.2.1, d.2.2, 0)
/-- A reference's word; nought, where there is none. -/
def wRf (r : Rf) : Nat := refN r.1 r.2.1 r.2.2
def wRef : Option Rf → Nat
  | some r => wRf r
  | none => 0
/-- The hall: its memory in object m, the object's own in q, what was asked in a, the calls in c, the entries, k of them, in e. -/
def hlC (m q a c e : Nat) (V : HV) (k : Nat) : AObj := .cells [.ptr m 0 0, .int .i64 V.b, .int .i64 (obW V.o : Nat), .int .i64 V.n, obA q V.o, .int .i64 V.tries, .slice a 0 V.n, .slice c 0 V.n, .slice e 0 k]
/-- What a hall has beside its calls. -/
structure HH where
  m : MemS
  ask : List Int
  us : List Value
  es : List EntT
/-- .. its objects, from number 1 on: itself, the memory, its words, what was asked, the calls, the entries, the object's own. -/
def hlO (V : HV) (h : HH) : List AObj := [hlC 2 7 4 5 6 V h.es.length, memC 3 h.m, memT h.m, .tab true (.int .u64) h.ask, .tab true .raw h.us, .tab true EntK h.es, obO V.o]
/-- A call: what it is at lies in f. -/
def clC (w st : Nat) (c : Cl) (f : List AV) : AObj := .cells ([.ptr 1 0 0, .int .i64 w, .int .u64 c.op.1, .int .u64 c.op.2, .any, .int .i64 st, .int .i64 c.left, .bool c.helped] ++ f ++ [.int .u64 c.ans.1, .int .u64 c.ans.2])
def rfV (r : Rf) : List AV := [.int .i64 r.1, .int .i64 r.2.1, .int .i64 r.2.2]
def fBase : List AV := [.any, .any, .any, .any, .any, .any, .any, .any, .any, .any, .any, .any, .any, .any, .any, .any]
def fHold (c : Cl) : List AV := [.int .u64 (wRf c.href : Nat), .any, .any, .any, .any, .any, .any, .any, .any, .any, .any, .any, .any, .any, .any, .any]
def fCopy (i : Nat) (c : Cl) : List AV := .int .u64 (wRf c.href : Nat) :: (rfV c.href ++ [.ptr i 0 0, .any, .any, .any, .any, .any, .any, .any, .any, .any, .any, .any])
def fAsk (i j : Nat) (ph wa : AV) (c : Cl) : List AV := .int .u64 (wRf c.href : Nat) :: (rfV c.href ++ [.any, .slice i 0 c.cp.length, .int .i64 c.who, ph, wa, .any, .any, .any, .any, .any, .any, .slice j 0 c.done.length])
def fScan (i j k : Nat) (c : Cl) : List AV := .int .u64 (wRf c.href : Nat) :: (rfV c.href ++ [.any, .slice i 0 c.cp.length, .any, .any, .any, .any, .ptr k 0 0, .any, .any, .any, .any, .slice j 0 c.done.length])
def fLay (i j : Nat) (ly : AV) (w : Nat) (c : Cl) : List AV := .int .u64 (wRf c.href : Nat) :: (rfV c.href ++ [.any, .slice i 0 c.cp.length, .any, .any, .any, .any, .any, ly, .int .i64 w, .int .i64 (sideC w c.href : Nat), .int .i64 c.tag, .slice j 0 c.done.length])
def fLast (c : Cl) : List AV := .any :: (rfV c.href ++ [.any, .any, .any, .any, .any, .any, .any, .any, .any, .any, .any, .any])
def recT (c : Cl) : AObj := .tab true (.int .u64) c.cp
def doneT (c : Cl) : AObj := .tab true EntK (c.done.map dnE)
def fnA (f : FuncId) : AV := .func (.func f) [] []
def HH.mem (h : HH) (m : MemS) : HH := { h with m := m }
/-- What comes behind an attempt that failed. -/
def failF (c : Cl) : FuncId := if 1 < c.left then 33 else if c.helped = true then 59 else 34
theorem call_fail (V : HV) (h : HH) (w st : Nat) (c : Cl) (hl : 1 ≤ c.left) (hl2 : c.left ≤ 1000) : Tri En 56 [.ptr 0 0 0] (clC w st c fBase :: hlO V h) (fnA (failF c)) (clC w st (failC c) fBase :: hlO V h) := by
  obtain ⟨b, n, t, o⟩ := V
  by_cases h1 : 1 < c.left
  · have e : failC c = { c with left := c.left - 1, pc := .load } := by unfold failC; rw [if_pos h1]
    have e2 : failF c = 33 := if_pos h1
    rw [e, e2]
    have e3 : ((c.left - 1 : Nat) : Int) = c.left - 1 := by omega
    refine Tri.of Tryd.func56 rfl Tryd.call56 rfl ?_
    cases o
    all_goals
      refine Goods.fin 2000 [.b true] mixed Tryd.func56 ?_
      show Yes _
      repeat' apply And.intro
      (all_goals first | rfl | assumption | trivial | omega | (simp [-List.getD_eq_getElem?_getD, e3] <;> omega) | (simp (disch := omega) only [w64, wu64] <;> omega) | (simp (disch := omega) [-List.getD_eq_getElem?_getD, List.getD_cons_zero, List.getD_cons_succ, kCast_self, dfl_pair, dfl_int, w64, wu64, e3] <;> omega) | (rw [Bool.eq_iff_iff]; simp (disch := omega) [-List.getD_eq_getElem?_getD, List.getD_cons_zero, List.getD_cons_succ, kCast_self, dfl_pair, dfl_int, w64, wu64, e3] <;> omega) | (simp_all [-List.getD_eq_getElem?_getD] <;> omega))
  · by_cases h2 : c.helped = true
    · have e : failC c = { c with left := c.left - 1, pc := .last } := by unfold failC; rw [if_neg h1, if_pos h2]
      have e2 : failF c = 59 := by unfold failF; rw [if_neg h1, if_pos h2]
      rw [e, e2]
      have e3 : ((c.left - 1 : Nat) : Int) = c.left - 1 := by omega
      refine Tri.of Tryd.func56 rfl Tryd.call56 rfl ?_
      cases o
      all_goals
        refine Goods.fin 2000 [.b false, .b false] mixed Tryd.func56 ?_
        show Yes _
        repeat' apply And.intro
        (all_goals first | rfl | assumption | trivial | omega | (simp [-List.getD_eq_getElem?_getD, e3] <;> omega) | (simp (disch := omega) only [w64, wu64] <;> omega) | (simp (disch := omega) [-List.getD_eq_getElem?_getD, List.getD_cons_zero, List.getD_cons_succ, kCast_self, dfl_pair, dfl_int, w64, wu64, e3] <;> omega) | (rw [Bool.eq_iff_iff]; simp (disch := omega) [-List.getD_eq_getElem?_getD, List.getD_cons_zero, List.getD_cons_succ, kCast_self, dfl_pair, dfl_int, w64, wu64, e3] <;> omega) | (simp_all [-List.getD_eq_getElem?_getD] <;> omega))
    · have e : failC c = { c with left := c.left - 1, pc := .tellA } := by unfold failC; rw [if_neg h1, if_neg h2]
      have e2 : failF c = 34 := by unfold failF; rw [if_neg h1, if_neg h2]
      rw [e, e2]
      have e3 : ((c.left - 1 : Nat) : Int) = c.left - 1 := by omega
      have h3 : c.helped = false := by simpa using h2
      refine Tri.of Tryd.func56 rfl Tryd.call56 rfl ?_
      cases o
      all_goals
        refine Goods.fin 2000 [.b false, .b true] mixed Tryd.func56 ?_
        show Yes _
        repeat' apply And.intro
        (all_goals first | rfl | assumption | trivial | omega | (simp [-List.getD_eq_getElem?_getD, e3] <;> omega) | (simp (disch := omega) only [w64, wu64] <;> omega) | (simp (disch := omega) [-List.getD_eq_getElem?_getD, List.getD_cons_zero, List.getD_cons_succ, kCast_self, dfl_pair, dfl_int, w64, wu64, e3] <;> omega) | (rw [Bool.eq_iff_iff]; simp (disch := omega) [-List.getD_eq_getElem?_getD, List.getD_cons_zero, List.getD_cons_succ, kCast_self, dfl_pair, dfl_int, w64, wu64, e3] <;> omega) | (simp_all [-List.getD_eq_getElem?_getD] <;> omega))
end Go.Proofs.YtnheodgffackoaaDoor.E

/- Package hall: the moves up to the whole record. -/
namespace Go.Proofs.YtnheodgffackoaaDoor.E
set_option linter.unusedSimpArgs false
set_option linter.unusedVariables false
open Go Go.Proofs.YtnheodgffackoaaDoor.Y
set_option maxRecDepth 100000
set_option maxHeartbeats 4000000
theorem wRf_lt (r : Rf) : wRf r < 18446744073709551616 := refN_lt _ _ _
theorem failF_cases (c : Cl) : failF c = 33 ∨ failF c = 59 ∨ failF c = 34 := by
  unfold failF
  split
  · exact .inl rfl
  · split
    · exact .inr (.inl rfl)
    · exact .inr (.inr rfl)
theorem mv_load (V : HV) (hV : V.Ok) (h : HH) (w st : Nat) (c : Cl) (r : Rf) (hr : h.m.get V.b = (wRf r : Nat)) : Tri En 33 [.ptr 0 0 0] (clC w st c fBase :: hlO V h) (fnA 45) (clC w st { c with pc := .hold, href := r } (fHold { c with href := r }) :: hlO V (h.mem (h.m.acc 1 V.b))) := by
  have f := hV.fr
  have f1 := fr_head f
  have l1 := mem_load h.m V.b
  rw [hr] at l1
  obtain ⟨b, n, t, o⟩ := V
  cases o
  all_goals
    refine Tri.of Tryd.func33 rfl Tryd.call33 rfl ?_
    refine Goods.fin 2000 [.c (.of f1), .c (.of l1)] mixed Tryd.func33 ?_
    show Yes _
    repeat' apply And.intro
    (all_goals first | rfl | assumption | trivial | omega | (simp [-List.getD_eq_getElem?_getD] <;> omega) | (simp (disch := omega) only [w64, wu64] <;> omega) | (simp (disch := omega) [-List.getD_eq_getElem?_getD, List.getD_cons_zero, List.getD_cons_succ, kCast_self, dfl_pair, dfl_int, w64, wu64] <;> omega) | (rw [Bool.eq_iff_iff]; simp (disch := omega) [-List.getD_eq_getElem?_getD, List.getD_cons_zero, List.getD_cons_succ, kCast_self, dfl_pair, dfl_int, w64, wu64] <;> omega) | (simp_all [-List.getD_eq_getElem?_getD] <;> omega))
theorem mv_hold (V : HV) (hV : V.Ok) (h : HH) (w st : Nat) (hw : w < V.n) (c : Cl) : Tri En 45 [.ptr 0 0 0] (clC w st c (fHold c) :: hlO V h) (fnA 52) (clC w st { c with pc := .check } (fHold c) :: hlO V (h.mem ((h.m.acc 2 (V.b + 1 + w)).put (V.b + 1 + w) (wRf c.href : Nat)))) := by
  have f := hV.fr
  have n1 := hV.n1
  have f1 := fr_held f (i := w) (by omega) (by omega)
  have l1 := mem_store h.m (V.b + 1 + w) (wRf c.href : Nat)
  obtain ⟨b, n, t, o⟩ := V
  cases o
  all_goals
    refine Tri.of Tryd.func45 rfl Tryd.call45 rfl ?_
    refine Goods.fin 2000 [.c (.of f1), .c (.of l1)] mixed Tryd.func45 ?_
    show Yes _
    repeat' apply And.intro
    (all_goals first | rfl | assumption | trivial | omega | (simp [-List.getD_eq_getElem?_getD] <;> omega) | (simp (disch := omega) only [w64, wu64] <;> omega) | (simp (disch := omega) [-List.getD_eq_getElem?_getD, List.getD_cons_zero, List.getD_cons_succ, kCast_self, dfl_pair, dfl_int, w64, wu64] <;> omega) | (rw [Bool.eq_iff_iff]; simp (disch := omega) [-List.getD_eq_getElem?_getD, List.getD_cons_zero, List.getD_cons_succ, kCast_self, dfl_pair, dfl_int, w64, wu64] <;> omega) | (simp_all [-List.getD_eq_getElem?_getD] <;> omega))
theorem mv_check (V : HV) (hV : V.Ok) (h : HH) (w st : Nat) (c : Cl) (hc : c.href.1 < V.n ∧ c.href.2.1 < 2 ∧ c.href.2.2 ≤ V.n) (hr : h.m.get V.b = (wRf c.href : Nat)) :
    Tri En 52 [.ptr 0 0 0] (clC w st c (fHold c) :: hlO V h) (fnA 58) ((clC w st { c with pc := .copying, cp := [] } (fCopy 8 c) :: hlO V (h.mem (h.m.acc 1 V.b))) ++ [cpC 2 9 (V.at_ c.href.1 c.href.2.1) V.R 0, .tab true (.int .u64) []]) := by
  have f := hV.fr
  have n1 := hV.n1
  have f1 := fr_head f
  have l1 := mem_load h.m V.b
  rw [hr] at l1
  have t1 : Tri En 35 [.int .u64 (wRf c.href : Nat)] [] (.tuple [refI c.href.1 c.href.2.1 c.href.2.2, .bl true]) [] := to_of c.href.1 c.href.2.1 c.href.2.2 (by omega) (by omega) (by omega)
  have a1 := fr_at f (i := c.href.1) (s := c.href.2.1) (by omega) (by omega) (by omega) (by omega)
  rw [V.at_eq] at a1
  have r1 := fr_record f
  rw [V.R_eq] at r1
  have c1 := slot_copy (h.m.acc 1 V.b) (V.at_ c.href.1 c.href.2.1) V.R
  rw [show max (V.R : Int) 0 = V.R by omega] at c1
  generalize V.at_ c.href.1 c.href.2.1 = A at *
  generalize V.R = R at *
  unfold fHold fCopy
  generalize wRf c.href = z at *
  obtain ⟨b, n, t, o⟩ := V
  cases o
  all_goals
    refine Tri.of Tryd.func52 rfl Tryd.call52 rfl ?_
    refine Goods.fin 2000 [.k 17 (.of f1), .k 18 (.of l1), .s 23 (some false) true true, .k 32 (.of t1), .k 62 (.of a1), .k 70 (.of r1), .k 71 (.of c1)] mixed Tryd.func52 ?_
    show Yes _
    repeat' apply And.intro
    (all_goals first | rfl | assumption | trivial | omega | (simp [-List.getD_eq_getElem?_getD] <;> omega) | (simp (disch := omega) only [w64, wu64] <;> omega) | (simp (disch := omega) [-List.getD_eq_getElem?_getD, List.getD_cons_zero, List.getD_cons_succ, kCast_self, dfl_pair, dfl_int, w64, wu64] <;> omega) | (rw [Bool.eq_iff_iff]; simp (disch := omega) [-List.getD_eq_getElem?_getD, List.getD_cons_zero, List.getD_cons_succ, kCast_self, dfl_pair, dfl_int, w64, wu64] <;> omega) | (simp_all [-List.getD_eq_getElem?_getD] <;> omega))
theorem mv_check_no (V : HV) (hV : V.Ok) (h : HH) (w st : Nat) (c : Cl) (hl : 1 ≤ c.left) (hl2 : c.left ≤ 1000) (x : Nat) (hr : h.m.get V.b = x) (hx : x ≠ wRf c.href) :
    Tri En 52 [.ptr 0 0 0] (clC w st c (fHold c) :: hlO V h) (fnA (failF c)) (clC w st (failC c) fBase :: hlO V (h.mem (h.m.acc 1 V.b))) := by
  have f := hV.fr
  have f1 := fr_head f
  have l1 := mem_load h.m V.b
  rw [hr] at l1
  have c1 := call_fail V (h.mem (h.m.acc 1 V.b)) w st c hl hl2
  generalize failC c = c' at *
  obtain ⟨b, n, t, o⟩ := V
  rcases failF_cases c with e | e | e <;> rw [e] at c1 ⊢ <;> cases o
  all_goals
    refine Tri.of Tryd.func52 rfl Tryd.call52 rfl ?_
    refine Goods.fin 2000 [.k 17 (.of f1), .k 18 (.of l1), .s 23 (some true) true true, .c (.of c1)] mixed Tryd.func52 ?_
    show Yes _
    repeat' apply And.intro
    (all_goals first | rfl | assumption | trivial | omega | (simp [-List.getD_eq_getElem?_getD] <;> omega) | (simp (disch := omega) only [w64, wu64] <;> omega) | (simp (disch := omega) [-List.getD_eq_getElem?_getD, List.getD_cons_zero, List.getD_cons_succ, kCast_self, dfl_pair, dfl_int, w64, wu64] <;> omega) | (rw [Bool.eq_iff_iff]; simp (disch := omega) [-List.getD_eq_getElem?_getD, List.getD_cons_zero, List.getD_cons_succ, kCast_self, dfl_pair, dfl_int, w64, wu64] <;> omega) | (simp_all [-List.getD_eq_getElem?_getD] <;> omega))
theorem mv_copying (V : HV) (hV : V.Ok) (h : HH) (w st : Nat) (c : Cl) (hc : c.href.1 < V.n ∧ c.href.2.1 < 2) (hl : c.cp.length < V.R) (x : Int) (hx : h.m.get (V.at_ c.href.1 c.href.2.1 + c.cp.length) = x) :
    Tri En 58 [.ptr 0 0 0] ((clC w st c (fCopy 8 c) :: hlO V h) ++ [cpC 2 9 (V.at_ c.href.1 c.href.2.1) V.R c.cp.length, .tab true (.int .u64) c.cp]) (fnA (if c.cp.length + 1 = V.R then 61 else 58))
      ((clC w st { c with cp := c.cp ++ [x], pc := if c.cp.length + 1 = V.R then .recheck else .copying } (fCopy 8 c) :: hlO V (h.mem (h.m.acc 1 (V.at_ c.href.1 c.href.2.1 + c.cp.length)))) ++ [cpC 2 10 (V.at_ c.href.1 c.href.2.1) V.R (c.cp.length + 1), .gone, .tab true (.int .u64) (c.cp ++ [x])]) := by
  have n1 := hV.n1
  have w1 := HV.obW_le V.o
  have hA := hV.at_le (w := c.href.1) (s := c.href.2.1) (by omega) (by omega)
  have hR : V.R ≤ 2600 := by unfold HV.R; omega
  have s1 := cp_step h.m (V.at_ c.href.1 c.href.2.1) V.R c.cp (by omega) (by omega) (by omega) (by omega)
  rw [hx] at s1
  generalize V.at_ c.href.1 c.href.2.1 = A at *
  by_cases e : c.cp.length + 1 = V.R
  · rw [if_pos e, if_pos e]
    have e2 : decide ((c.cp.length : Int) + 1 = V.R) = true := dec_t (by omega)
    rw [e2] at s1
    generalize V.R = R at *
    obtain ⟨b, n, t, o⟩ := V
    cases o
    all_goals
      refine Tri.of Tryd.func58 rfl Tryd.call58 rfl ?_
      refine Goods.fin 2000 [.c (.of s1), .b false] mixed Tryd.func58 ?_
      show Yes _
      repeat' apply And.intro
      (all_goals first | rfl | assumption | trivial | omega | (simp [-List.getD_eq_getElem?_getD] <;> omega) | (simp (disch := omega) only [w64, wu64] <;> omega) | (simp (disch := omega) [-List.getD_eq_getElem?_getD, List.getD_cons_zero, List.getD_cons_succ, kCast_self, dfl_pair, dfl_int, w64, wu64] <;> omega) | (rw [Bool.eq_iff_iff]; simp (disch := omega) [-List.getD_eq_getElem?_getD, List.getD_cons_zero, List.getD_cons_succ, kCast_self, dfl_pair, dfl_int, w64, wu64] <;> omega) | (simp_all [-List.getD_eq_getElem?_getD] <;> omega))
  · rw [if_neg e, if_neg e]
    have e2 : decide ((c.cp.length : Int) + 1 = V.R) = false := dec_f (by omega)
    rw [e2] at s1
    generalize V.R = R at *
    obtain ⟨b, n, t, o⟩ := V
    cases o
    all_goals
      refine Tri.of Tryd.func58 rfl Tryd.call58 rfl ?_
      refine Goods.fin 2000 [.c (.of s1), .b true] mixed Tryd.func58 ?_
      show Yes _
      repeat' apply And.intro
      (all_goals first | rfl | assumption | trivial | omega | (simp [-List.getD_eq_getElem?_getD] <;> omega) | (simp (disch := omega) only [w64, wu64] <;> omega) | (simp (disch := omega) [-List.getD_eq_getElem?_getD, List.getD_cons_zero, List.getD_cons_succ, kCast_self, dfl_pair, dfl_int, w64, wu64] <;> omega) | (rw [Bool.eq_iff_iff]; simp (disch := omega) [-List.getD_eq_getElem?_getD, List.getD_cons_zero, List.getD_cons_succ, kCast_self, dfl_pair, dfl_int, w64, wu64] <;> omega) | (simp_all [-List.getD_eq_getElem?_getD] <;> omega))
end Go.Proofs.YtnheodgffackoaaDoor.E

/- Package hall: the moves: is the record whole; what it answers. -/
namespace Go.Proofs.YtnheodgffackoaaDoor.E
set_option linter.unusedSimpArgs false
set_option linter.unusedVariables false
open Go Go.Proofs.YtnheodgffackoaaDoor.Y
set_option maxRecDepth 100000
set_option maxHeartbeats 4000000
def HV.dn (V : HV) (q : Nat) : Nat := obW V.o + 3 * q
theorem HV.dn_le {V : HV} (h : V.Ok) {q : Nat} (hq : q < V.n) : V.dn q + 2 < V.R := by unfold HV.dn HV.R; omega
theorem HV.R_le {V : HV} (h : V.Ok) : V.R ≤ 2600 := by have := HV.obW_le V.o; have := h.n1; unfold HV.R; omega
theorem fr_done' {V : HV} (hV : V.Ok) {q : Nat} (hq : q < V.n) : Tri En 64 [frA V.b (obW V.o : Nat) V.n, .int .i64 q] [] (.int .i64 (V.dn q : Nat)) [] := by
  have n1 := hV.n1
  have := fr_done hV.fr (i := q) (by omega) (by omega)
  rw [show ((obW V.o : Nat) : Int) + 3 * (q : Int) = ((V.dn q : Nat) : Int) by unfold HV.dn; omega] at this
  exact this
theorem fr_answer' {V : HV} (hV : V.Ok) {q : Nat} (hq : q < V.n) : Tri En 67 [frA V.b (obW V.o : Nat) V.n, .int .i64 q] [] (.int .i64 (V.dn q + 1 : Nat)) [] := by
  have n1 := hV.n1
  have := fr_answer hV.fr (i := q) (by omega) (by omega)
  rw [show ((obW V.o : Nat) : Int) + 3 * (q : Int) + 1 = ((V.dn q + 1 : Nat) : Int) by unfold HV.dn; omega] at this
  exact this
def fRc (i : Nat) (c : Cl) : List AV := [.any, .any, .any, .any, .any, .slice i 0 c.cp.length, .any, .any, .any, .any, .any, .any, .any, .any, .any, .any]
theorem done_nil {f : FuncId} {args : List AV} {os post : List AObj} {v : AV} {w st : Nat} {c : Cl} {f0 : List AV} (h : Tri En f args os v (clC w st c (f0 ++ [.nilslice]) :: post)) (hlen : os.length ≤ post.length + 1) :
    Tri En f args os v ((clC w st c (f0 ++ [.slice (post.length + 1) 0 0]) :: post) ++ [.tab true EntK []]) := by
  have e : ∀ x : AV, clC w st c (f0 ++ [x]) = .cells (([.ptr 1 0 0, .int .i64 w, .int .u64 c.op.1, .int .u64 c.op.2, .any, .int .i64 st, .int .i64 c.left, .bool c.helped] ++ f0) ++ x :: [.int .u64 c.ans.1, .int .u64 c.ans.2]) := fun x => by unfold clC; simp
  rw [e] at h ⊢
  have := Tri.nilCell (pre := []) EntK h hlen
  simpa using this
theorem call_told (V : HV) (hV : V.Ok) (h : HH) (w st : Nat) (hw : w < V.n) (c : Cl) (hc : c.cp.length = V.R) : Tri En 65 [.ptr 0 0 0] ((clC w st c (fRc 8 c) :: hlO V h) ++ [recT c]) .nilfunc ((clC w st { c with ans := (slot3 c.cp (V.dn w)).2 } fBase :: hlO V h) ++ [recT c]) := by
  have a1 := fr_answer' hV hw
  have d1 := HV.dn_le hV hw
  have r1 := HV.R_le hV
  unfold slot3
  generalize V.dn w = d at *
  generalize V.R = R at *
  have g2 : c.cp.getD ((IntKind.i64.wrap (((d + 1 : Nat) : Int) + 1)).toNat + 0) 0 = c.cp.getD (d + 2) 0 := by
    rw [w64 (by omega) (by omega), Nat.add_zero, show (((d + 1 : Nat) : Int) + 1).toNat = d + 2 by omega]
  obtain ⟨b, n, t, o⟩ := V
  cases o
  all_goals
    refine Tri.of Tryd.func65 rfl Tryd.call65 rfl ?_
    refine Goods.fin 2000 [.k 15 (.of a1)] mixed Tryd.func65 ?_
    show Yes _
    repeat' apply And.intro
    all_goals try exact g2
    (all_goals first | rfl | assumption | trivial | omega | (simp [-List.getD_eq_getElem?_getD, hc] <;> omega) | (simp (disch := omega) only [w64, wu64] <;> omega) | (simp (disch := omega) [-List.getD_eq_getElem?_getD, List.getD_cons_zero, List.getD_cons_succ, kCast_self, dfl_pair, dfl_int, w64, wu64, hc] <;> omega) | (rw [Bool.eq_iff_iff]; simp (disch := omega) [-List.getD_eq_getElem?_getD, List.getD_cons_zero, List.getD_cons_succ, kCast_self, dfl_pair, dfl_int, w64, wu64, hc] <;> omega) | (simp_all [-List.getD_eq_getElem?_getD] <;> omega))
theorem mv_recheck_no (V : HV) (hV : V.Ok) (h : HH) (w st : Nat) (c : Cl) (hl : 1 ≤ c.left) (hl2 : c.left ≤ 1000) (a : Int) (x : Nat) (hr : h.m.get V.b = x) (hx : x ≠ wRf c.href) :
    Tri En 61 [.ptr 0 0 0] ((clC w st c (fCopy 8 c) :: hlO V h) ++ [cpC 2 9 a V.R c.cp.length, .tab true (.int .u64) c.cp]) (fnA (failF c)) ((clC w st (failC c) fBase :: hlO V (h.mem (h.m.acc 1 V.b))) ++ [.gone, .gone]) := by
  have f := hV.fr
  have f1 := fr_head f
  have l1 := mem_load h.m V.b
  rw [hr] at l1
  have c1 := call_fail V (h.mem (h.m.acc 1 V.b)) w st c hl hl2
  generalize failC c = c' at *
  generalize V.R = R at *
  obtain ⟨b, n, t, o⟩ := V
  rcases failF_cases c with e | e | e <;> rw [e] at c1 ⊢ <;> cases o
  all_goals
    refine Tri.of Tryd.func61 rfl Tryd.call61 rfl ?_
    refine Goods.fin 2000 [.k 17 (.of f1), .k 18 (.of l1), .s 23 (some true) true true, .c (.of c1)] mixed Tryd.func61 ?_
    show Yes _
    repeat' apply And.intro
    (all_goals first | rfl | assumption | trivial | omega | (simp [-List.getD_eq_getElem?_getD] <;> omega) | (simp (disch := omega) only [w64, wu64] <;> omega) | (simp (disch := omega) [-List.getD_eq_getElem?_getD, List.getD_cons_zero, List.getD_cons_succ, kCast_self, dfl_pair, dfl_int, w64, wu64] <;> omega) | (rw [Bool.eq_iff_iff]; simp (disch := omega) [-List.getD_eq_getElem?_getD, List.getD_cons_zero, List.getD_cons_succ, kCast_self, dfl_pair, dfl_int, w64, wu64] <;> omega) | (simp_all [-List.getD_eq_getElem?_getD] <;> omega))
theorem mv_recheck_told (V : HV) (hV : V.Ok) (h : HH) (w st : Nat) (hw : w < V.n) (hk : h.ask.length = V.n) (c : Cl) (hc : c.cp.length = V.R) (a : Int) (hr : h.m.get V.b = (wRf c.href : Nat)) (hh : c.helped = true) (he : c.cp.getD (V.dn w) 0 = h.ask.getD w 0) :
    Tri En 61 [.ptr 0 0 0] ((clC w st c (fCopy 8 c) :: hlO V h) ++ [cpC 2 9 a V.R c.cp.length, .tab true (.int .u64) c.cp]) .nilfunc ((clC w st { c with pc := .over, ans := (slot3 c.cp (V.dn w)).2, done := [], who := 0 } fBase :: hlO V (h.mem (h.m.acc 1 V.b))) ++ [.gone, .gone]) := by
  have f := hV.fr
  have f1 := fr_head f
  have l1 := mem_load h.m V.b
  rw [hr] at l1
  have a1 := fr_done' hV hw
  have d1 := HV.dn_le hV hw
  have r1 := HV.R_le hV
  have w1 := cp_words (h.m.acc 1 V.b) a V.R c.cp (by omega)
  have t1 := call_told V hV (h.mem (h.m.acc 1 V.b)) w st hw c hc
  have g1 : c.cp.getD ((V.dn w : Nat) : Int).toNat 0 = h.ask.getD w 0 := he
  generalize (slot3 c.cp (V.dn w)).2 = A at *
  generalize V.dn w = d at *
  generalize V.R = R at *
  unfold fCopy
  generalize wRf c.href = z at *
  obtain ⟨b, n, t, o⟩ := V
  cases o
  all_goals
    refine Tri.of Tryd.func61 rfl Tryd.call61 rfl ?_
    refine Goods.fin 2000 [.k 17 (.of f1), .k 18 (.of l1), .s 23 (some false) true true, .k 33 (.of w1), .s 43 (some true) true true, .k 60 (.of a1), .s 76 (some true) true true, .c (.of t1)] mixed Tryd.func61 ?_
    show Yes _
    repeat' apply And.intro
    (all_goals first | rfl | assumption | trivial | omega | (simp [-List.getD_eq_getElem?_getD, hc] <;> omega) | (simp (disch := omega) only [w64, wu64] <;> omega) | (simp (disch := omega) [-List.getD_eq_getElem?_getD, List.getD_cons_zero, List.getD_cons_succ, kCast_self, dfl_pair, dfl_int, w64, wu64, hc] <;> omega) | (rw [Bool.eq_iff_iff]; simp (disch := omega) [-List.getD_eq_getElem?_getD, List.getD_cons_zero, List.getD_cons_succ, kCast_self, dfl_pair, dfl_int, w64, wu64, hc] <;> omega) | (simp_all [-List.getD_eq_getElem?_getD] <;> omega))
theorem mv_recheck (V : HV) (hV : V.Ok) (h : HH) (w st : Nat) (hw : w < V.n) (hk : h.ask.length = V.n) (c : Cl) (hc : c.cp.length = V.R) (a : Int) (hr : h.m.get V.b = (wRf c.href : Nat)) (he : ¬ (c.helped = true ∧ c.cp.getD (V.dn w) 0 = h.ask.getD w 0)) :
    Tri En 61 [.ptr 0 0 0] ((clC w st c (fCopy 8 c) :: hlO V h) ++ [cpC 2 9 a V.R c.cp.length, .tab true (.int .u64) c.cp]) (fnA 66) ((clC w st { c with pc := .ask, done := [], who := 0 } (fAsk 10 11 .any .any { c with pc := .ask, done := [], who := 0 }) :: hlO V (h.mem (h.m.acc 1 V.b))) ++ [.gone, .gone, recT c, doneT { c with done := [] }]) := by
  have f := hV.fr
  have f1 := fr_head f
  have l1 := mem_load h.m V.b
  rw [hr] at l1
  have a1 := fr_done' hV hw
  have d1 := HV.dn_le hV hw
  have r1 := HV.R_le hV
  have w1 := cp_words (h.m.acc 1 V.b) a V.R c.cp (by omega)
  refine done_nil (post := hlO V (h.mem (h.m.acc 1 V.b)) ++ [.gone, .gone, recT c]) (f0 := [.int .u64 (wRf c.href : Nat), .int .i64 c.href.1, .int .i64 c.href.2.1, .int .i64 c.href.2.2, .any, .slice 10 0 c.cp.length, .int .i64 ((0 : Nat) : Int), .any, .any, .any, .any, .any, .any, .any, .any]) ?_ (by simp [hlO])
  have he' := he
  generalize V.dn w = d at *
  generalize V.R = R at *
  unfold fCopy
  generalize wRf c.href = z at *
  obtain ⟨b, n, t, o⟩ := V
  by_cases hh : c.helped = true
  · have g1 : (c.cp.getD d 0 == h.ask.getD w 0) = false := by
      have : c.cp.getD d 0 ≠ h.ask.getD w 0 := fun e => he ⟨hh, e⟩
      simpa using this
    cases o
    all_goals
      refine Tri.of Tryd.func61 rfl Tryd.call61 rfl ?_
      refine Goods.fin 2000 [.k 17 (.of f1), .k 18 (.of l1), .s 23 (some false) true true, .k 33 (.of w1), .s 43 (some true) true true, .k 60 (.of a1), .s 76 (some false) true true] mixed Tryd.func61 ?_
      show Yes _
      repeat' apply And.intro
      all_goals try exact g1
      (all_goals first | rfl | assumption | trivial | omega | (simp [-List.getD_eq_getElem?_getD, hc] <;> omega) | (simp (disch := omega) only [w64, wu64] <;> omega) | (simp (disch := omega) [-List.getD_eq_getElem?_getD, List.getD_cons_zero, List.getD_cons_succ, kCast_self, dfl_pair, dfl_int, w64, wu64, hc] <;> omega) | (rw [Bool.eq_iff_iff]; simp (disch := omega) [-List.getD_eq_getElem?_getD, List.getD_cons_zero, List.getD_cons_succ, kCast_self, dfl_pair, dfl_int, w64, wu64, hc] <;> omega) | (simp_all [-List.getD_eq_getElem?_getD] <;> omega))
  · have hh' : c.helped = false := by simpa using hh
    cases o
    all_goals
      refine Tri.of Tryd.func61 rfl Tryd.call61 rfl ?_
      refine Goods.fin 2000 [.k 17 (.of f1), .k 18 (.of l1), .s 23 (some false) true true, .k 33 (.of w1), .s 43 (some false) true true] mixed Tryd.func61 ?_
      show Yes _
      repeat' apply And.intro
      (all_goals first | rfl | assumption | trivial | omega | (simp [-List.getD_eq_getElem?_getD, hc] <;> omega) | (simp (disch := omega) only [w64, wu64] <;> omega) | (simp (disch := omega) [-List.getD_eq_getElem?_getD, List.getD_cons_zero, List.getD_cons_succ, kCast_self, dfl_pair, dfl_int, w64, wu64, hc] <;> omega) | (rw [Bool.eq_iff_iff]; simp (disch := omega) [-List.getD_eq_getElem?_getD, List.getD_cons_zero, List.getD_cons_succ, kCast_self, dfl_pair, dfl_int, w64, wu64, hc] <;> omega) | (simp_all [-List.getD_eq_getElem?_getD] <;> omega))
end Go.Proofs.YtnheodgffackoaaDoor.E

/- Package hall: something is done to a copy; the next worker. -/
namespace Go.Proofs.YtnheodgffackoaaDoor.E
set_option linter.unusedSimpArgs false
set_option linter.unusedVariables false
open Go Go.Proofs.YtnheodgffackoaaDoor.Y
set_option maxRecDepth 100000
set_option maxHeartbeats 4000000
def apV (o : Ob) (l : List Int) (q : O2) : List Int × O2 := ((obAp o (l.take (obW o)) q).1 ++ l.drop (obW o), (obAp o (l.take (obW o)) q).2)
def phA (c : Cl) : AV := .int .u64 c.phase
def doneC (c : Cl) (q : Nat) (op : O2) (o : Ob) : Cl := { c with cp := (apV o c.cp op).1, done := c.done ++ [(q, op, (apV o c.cp op).2)] }
theorem call_apply (V : HV) (hV : V.Ok) (h : HH) (w st : Nat) (c : Cl) (hc : c.cp.length = V.R) (hok : obOk V.o (c.cp.take (obW V.o))) (hd : c.done.length ≤ 1000) (q : Nat) (op : O2) :
    Tri En 72 [.ptr 0 0 0, .int .i64 q, opA op] ((clC w st c (fAsk 8 9 (phA c) .any c) :: hlO V h) ++ [recT c, doneT c]) (opA (apV V.o c.cp op).2)
      ((clC w st c (fAsk 8 10 (phA c) .any (doneC c q op V.o)) :: hlO V h) ++ [recT (doneC c q op V.o), .gone, doneT (doneC c q op V.o)]) := by
  have hR := HV.R_le hV
  have hWR : obW V.o ≤ c.cp.length := by rw [hc]; unfold HV.R; omega
  obtain ⟨pc, op0, left, helped, href, cp, who, phase, wA, done, used, pos, tag, laid, ans⟩ := c
  simp only at hc hok hd hWR
  have hsplit : cp = cp.take (obW V.o) ++ cp.drop (obW V.o) := (List.take_append_drop ..).symm
  unfold doneC apV
  have hdl : (done ++ [(q, op, (obAp V.o (cp.take (obW V.o)) op).2)]).map dnE = done.map dnE ++ [dnE (q, op, (obAp V.o (cp.take (obW V.o)) op).2)] := by rw [List.map_append]; rfl
  unfold doneT recT fAsk
  simp only [hdl]
  have hll : ((obAp V.o (cp.take (obW V.o)) op).1 ++ cp.drop (obW V.o)).length = cp.length := by rw [List.length_append, obOk_len _ _ (obOk_ap _ _ op hok), List.length_drop]; omega
  simp only [hll]
  have hml : (done.map dnE).length = done.length := List.length_map _
  have hll2 : (done ++ [(q, op, (obAp V.o (cp.take (obW V.o)) op).2)]).length = done.length + 1 := by simp
  simp only [hll2]
  generalize done.map dnE = D at *
  generalize done.length = k at *
  clear hdl hll2
  generalize wRf href = z at *
  obtain ⟨b, n, t, o⟩ := V
  cases o with
  | stack r =>
    obtain ⟨p, hp, he⟩ := hok
    simp only at he
    simp only [he] at hsplit hll ⊢
    rw [obAp_st hp] at hll ⊢
    have e0 : obW (Ob.stack r) = roomN r + 1 := rfl
    have hln : (cp.drop (obW (.stack r))).length + (roomN r + 1) = cp.length := by rw [List.length_drop]; have : obW (Ob.stack r) ≤ cp.length := hWR; omega
    simp only at hsplit hll hln ⊢
    generalize cp.drop (obW (.stack r)) = rest at *
    have ha := st_applyX r p hp rest op
    rw [← hsplit] at ha
    have hro := roomN_le r
    clear he hsplit
    generalize stW (roomN r) (stF (roomN r) p op).1 ++ rest = X at *
    generalize hA : (stF (roomN r) p op).2 = A at *
    unfold opA at *
    refine Tri.of Tryd.func72 rfl Tryd.call72 rfl ?_
    refine Goods.fin 2000 [.k 39 (.ofM _ _ meth_st_apply ha)] mixed Tryd.func72 ?_
    show Yes _
    repeat' apply And.intro
    (all_goals first | rfl | assumption | trivial | omega | (simp [-List.getD_eq_getElem?_getD, e0] <;> omega) | (simp (disch := omega) only [w64, wu64] <;> omega) | (simp (disch := omega) [-List.getD_eq_getElem?_getD, List.getD_cons_zero, List.getD_cons_succ, kCast_self, dfl_pair, dfl_int, w64, wu64, e0] <;> omega) | (rw [Bool.eq_iff_iff]; simp (disch := omega) [-List.getD_eq_getElem?_getD, List.getD_cons_zero, List.getD_cons_succ, kCast_self, dfl_pair, dfl_int, w64, wu64, e0] <;> omega) | (simp_all [-List.getD_eq_getElem?_getD] <;> omega))
  | counter =>
    simp only at hWR hsplit hll ⊢
    have h1 : (cp.take (obW .counter)).length = 1 := hok
    obtain ⟨y, hy⟩ : ∃ y, cp.take (obW .counter) = [y] := by
      match h : cp.take (obW .counter), h1 with
      | [y], _ => exact ⟨y, rfl⟩
    rw [hy] at hsplit hll ⊢
    have hln : (cp.drop (obW .counter)).length + 1 = cp.length := by rw [List.length_drop]; have : obW Ob.counter = 1 := rfl; omega
    generalize cp.drop (obW .counter) = rest at *
    have ha := cnt_applyX y rest op
    rw [show y :: rest = cp from hsplit.symm] at ha
    have e1 : obAp .counter [y] op = ([(cntF y op).1], (cntF y op).2) := rfl
    rw [e1] at hll ⊢
    simp only [List.cons_append, List.nil_append] at hll ⊢
    clear e1 hy hsplit h1
    generalize (cntF y op).1 :: rest = X at *
    generalize hA : (cntF y op).2 = A at *
    unfold opA at *
    refine Tri.of Tryd.func72 rfl Tryd.call72 rfl ?_
    refine Goods.fin 2000 [.k 39 (.ofM _ _ meth_cnt_apply ha)] mixed Tryd.func72 ?_
    show Yes _
    repeat' apply And.intro
    (all_goals first | rfl | assumption | trivial | omega | (simp [-List.getD_eq_getElem?_getD] <;> omega) | (simp (disch := omega) only [w64, wu64] <;> omega) | (simp (disch := omega) [-List.getD_eq_getElem?_getD, List.getD_cons_zero, List.getD_cons_succ, kCast_self, dfl_pair, dfl_int, w64, wu64] <;> omega) | (rw [Bool.eq_iff_iff]; simp (disch := omega) [-List.getD_eq_getElem?_getD, List.getD_cons_zero, List.getD_cons_succ, kCast_self, dfl_pair, dfl_int, w64, wu64] <;> omega) | (simp_all [-List.getD_eq_getElem?_getD] <;> omega))
end Go.Proofs.YtnheodgffackoaaDoor.E

/- Package hall: the next worker; behind all, its own; then a tag is looked for. -/
namespace Go.Proofs.YtnheodgffackoaaDoor.E
set_option linter.unusedSimpArgs false
set_option linter.unusedVariables false
open Go Go.Proofs.YtnheodgffackoaaDoor.Y
set_option maxRecDepth 100000
set_option maxHeartbeats 4000000
/-- A look for tags: over the memory i, its tags in object j. -/
def scC (i j : Nat) (V : HV) (w : Nat) (c : Cl) : AObj := scanC i j ((V.b + 1 + c.pos : Nat) : Int) ((V.n - c.pos : Nat) : Int) w (sideC w c.href : Nat) c.used
theorem call_turn_next (V : HV) (hV : V.Ok) (h : HH) (w st : Nat) (c : Cl) (hw : c.who + 1 < V.n) :
    Tri En 70 [.ptr 0 0 0] ((clC w st c (fAsk 8 9 (phA c) .any c) :: hlO V h) ++ [recT c, doneT c]) (fnA 66)
      ((clC w st { c with who := c.who + 1, pc := .ask } (fAsk 8 9 .any .any { c with who := c.who + 1 }) :: hlO V h) ++ [recT c, doneT c]) := by
  have n1 := hV.n1
  unfold fAsk phA recT doneT
  have hml : (c.done.map dnE).length = c.done.length := List.length_map _
  generalize c.done.map dnE = D at *
  generalize wRf c.href = z at *
  obtain ⟨b, n, t, o⟩ := V
  simp only at hw n1
  cases o
  all_goals
    refine Tri.of Tryd.func70 rfl Tryd.call70 rfl ?_
    refine Goods.fin 2000 [.b true] mixed Tryd.func70 ?_
    show Yes _
    repeat' apply And.intro
    (all_goals first | rfl | assumption | trivial | omega | (simp [-List.getD_eq_getElem?_getD] <;> omega) | (simp (disch := omega) only [w64, wu64] <;> omega) | (simp (disch := omega) [-List.getD_eq_getElem?_getD, List.getD_cons_zero, List.getD_cons_succ, kCast_self, dfl_pair, dfl_int, w64, wu64] <;> omega) | (rw [Bool.eq_iff_iff]; simp (disch := omega) [-List.getD_eq_getElem?_getD, List.getD_cons_zero, List.getD_cons_succ, kCast_self, dfl_pair, dfl_int, w64, wu64] <;> omega) | (simp_all [-List.getD_eq_getElem?_getD] <;> omega))
theorem sideC_cases (w : Nat) (r : Rf) : (r.1 = w ∧ r.2.1 = 0 ∧ sideC w r = 1) ∨ (r.1 = w ∧ r.2.1 ≠ 0 ∧ sideC w r = 0) ∨ (r.1 ≠ w ∧ sideC w r = 0) := by
  unfold sideC
  by_cases h1 : r.1 = w
  · by_cases h2 : r.2.1 = 0
    · exact .inl ⟨h1, h2, if_pos ⟨h1, h2⟩⟩
    · exact .inr (.inl ⟨h1, h2, if_neg fun h => h2 h.2⟩)
  · exact .inr (.inr ⟨h1, if_neg fun h => h1 h.1⟩)
theorem fr_held' {V : HV} (hV : V.Ok) : Tri En 51 [frA V.b (obW V.o : Nat) V.n, .int .i64 0] [] (.int .i64 ((V.b + 1 + 0 : Nat) : Int)) [] := by
  have := fr_held hV.fr (i := 0) (by omega) (by omega)
  rw [show (V.b : Int) + 1 + 0 = ((V.b + 1 + 0 : Nat) : Int) by omega] at this
  exact this
theorem call_turn_helped (V : HV) (hV : V.Ok) (h : HH) (w st : Nat) (c : Cl) (hw : ¬ c.who + 1 < V.n) (hw2 : c.who < V.n) (hh : c.helped = true) :
    Tri En 70 [.ptr 0 0 0] ((clC w st c (fAsk 8 9 (phA c) .any c) :: hlO V h) ++ [recT c, doneT c]) (fnA 74)
      ((clC w st { c with who := c.who + 1, pc := .scanning, used := [], pos := 0 } (fScan 8 9 10 c) :: hlO V h) ++ [recT c, doneT c, scC 2 11 V w { c with used := [], pos := 0 }, tagsT []]) := by
  have n1 := hV.n1
  have f1 := fr_held' hV
  unfold fAsk fScan phA recT doneT scC
  have hml : (c.done.map dnE).length = c.done.length := List.length_map _
  generalize c.done.map dnE = D at *
  generalize wRf c.href = z at *
  have s1 := scan_new h.m ((V.b + 1 + 0 : Nat) : Int) V.n w (sideC w c.href : Nat)
  rw [show max (V.n : Int) 0 = ((V.n - 0 : Nat) : Int) by omega] at s1
  have sc := sideC_cases w c.href
  generalize sideC w c.href = q at *
  obtain ⟨b, n, t, o⟩ := V
  simp only at hw n1 f1 s1 hw2 ⊢
  rcases sc with ⟨h1, h2, rfl⟩ | ⟨h1, h2, rfl⟩ | ⟨h1, rfl⟩
  · cases o
    all_goals
      refine Tri.of Tryd.func70 rfl Tryd.call70 rfl ?_
      refine Goods.fin 2000 [.b false, .b false, .s 51 (some true) true true, .s 58 (some true) true true, .k 75 (.of f1), .k 89 (.of s1)] mixed Tryd.func70 ?_
      show Yes _
      repeat' apply And.intro
      (all_goals first | rfl | assumption | trivial | omega | (simp [-List.getD_eq_getElem?_getD] <;> omega) | (simp (disch := omega) only [w64, wu64] <;> omega) | (simp (disch := omega) [-List.getD_eq_getElem?_getD, List.getD_cons_zero, List.getD_cons_succ, kCast_self, dfl_pair, dfl_int, w64, wu64] <;> omega) | (rw [Bool.eq_iff_iff]; simp (disch := omega) [-List.getD_eq_getElem?_getD, List.getD_cons_zero, List.getD_cons_succ, kCast_self, dfl_pair, dfl_int, w64, wu64] <;> omega) | (simp_all [-List.getD_eq_getElem?_getD] <;> omega))
  · cases o
    all_goals
      refine Tri.of Tryd.func70 rfl Tryd.call70 rfl ?_
      refine Goods.fin 2000 [.b false, .b false, .s 51 (some true) true true, .s 58 (some false) true true, .k 75 (.of f1), .k 89 (.of s1)] mixed Tryd.func70 ?_
      show Yes _
      repeat' apply And.intro
      (all_goals first | rfl | assumption | trivial | omega | (simp [-List.getD_eq_getElem?_getD] <;> omega) | (simp (disch := omega) only [w64, wu64] <;> omega) | (simp (disch := omega) [-List.getD_eq_getElem?_getD, List.getD_cons_zero, List.getD_cons_succ, kCast_self, dfl_pair, dfl_int, w64, wu64] <;> omega) | (rw [Bool.eq_iff_iff]; simp (disch := omega) [-List.getD_eq_getElem?_getD, List.getD_cons_zero, List.getD_cons_succ, kCast_self, dfl_pair, dfl_int, w64, wu64] <;> omega) | (simp_all [-List.getD_eq_getElem?_getD] <;> omega))
  · cases o
    all_goals
      refine Tri.of Tryd.func70 rfl Tryd.call70 rfl ?_
      refine Goods.fin 2000 [.b false, .b false, .s 51 (some false) true true, .k 75 (.of f1), .k 89 (.of s1)] mixed Tryd.func70 ?_
      show Yes _
      repeat' apply And.intro
      (all_goals first | rfl | assumption | trivial | omega | (simp [-List.getD_eq_getElem?_getD] <;> omega) | (simp (disch := omega) only [w64, wu64] <;> omega) | (simp (disch := omega) [-List.getD_eq_getElem?_getD, List.getD_cons_zero, List.getD_cons_succ, kCast_self, dfl_pair, dfl_int, w64, wu64] <;> omega) | (rw [Bool.eq_iff_iff]; simp (disch := omega) [-List.getD_eq_getElem?_getD, List.getD_cons_zero, List.getD_cons_succ, kCast_self, dfl_pair, dfl_int, w64, wu64] <;> omega) | (simp_all [-List.getD_eq_getElem?_getD] <;> omega))
end Go.Proofs.YtnheodgffackoaaDoor.E
