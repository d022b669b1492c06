/- Several texts in one. -/
import Derived.Test.YtnheodgffackoaaDoorEz
import Derived.Test.YtnheodgffackoaaDoorPmis
/- Package hall: a hall, and a call, that are new. -/
namespace Go.Proofs.YtnheodgffackoaaDoor.E
set_option linter.unusedSimpArgs false
set_option linter.unusedVariables false
open Go Go.Proofs.YtnheodgffackoaaDoor.Y
set_option maxRecDepth 100000
set_option maxHeartbeats 4000000
theorem hall_size' (o : Ob) (n : Nat) (hn : n ≤ 200) : Tri En 11 [obA 0 o, .int .i64 n] [] (.int .i64 ((HV.size ⟨0, n, 0, o⟩ : Nat) : Int)) [] := by
  have hw := HV.obW_le o
  have fs := fr_size (b := 0) (w := obW o) (n := n) ⟨by omega, by omega, by omega, by omega, by omega, by omega⟩
  rw [show (1 : Int) + 4 * n + 2 * n * fRec (obW o : Int) (n : Int) = ((HV.size ⟨0, n, 0, o⟩ : Nat) : Int) by
    rw [show fRec (obW o : Int) (n : Int) = ((obW o + 3 * n : Nat) : Int) by unfold fRec; omega]
    unfold HV.size HV.R
    simp [Int.natCast_add, Int.natCast_mul]] at fs
  generalize HV.size ⟨0, n, 0, o⟩ = z at *
  cases o with
  | stack r =>
    have w1 := ob_words 0 _ r rfl
    refine Tri.of Tryd.func11 rfl Tryd.call11 rfl ?_
    refine Goods.fin 2000 [.c (.ofM _ _ meth_st_words w1), .c (.of fs)] mixed Tryd.func11 ?_
    show Yes _
    repeat' apply And.intro
    (all_goals first | rfl | assumption | trivial | omega | (simp [-List.getD_eq_getElem?_getD] <;> omega) | (simp (disch := omega) only [w64, wu64] <;> omega) | (simp (disch := omega) [-List.getD_eq_getElem?_getD, List.getD_cons_zero, List.getD_cons_succ, kCast_self, dfl_pair, dfl_int, w64, wu64] <;> omega) | (rw [Bool.eq_iff_iff]; simp (disch := omega) [-List.getD_eq_getElem?_getD, List.getD_cons_zero, List.getD_cons_succ, kCast_self, dfl_pair, dfl_int, w64, wu64] <;> omega) | (simp_all [-List.getD_eq_getElem?_getD] <;> omega))
  | counter =>
    refine Tri.of Tryd.func11 rfl Tryd.call11 rfl ?_
    refine Goods.fin 2000 [.c (.ofM _ _ meth_cnt_words cnt_words), .c (.of fs)] mixed Tryd.func11 ?_
    show Yes _
    repeat' apply And.intro
    (all_goals first | rfl | assumption | trivial | omega | (simp [-List.getD_eq_getElem?_getD] <;> omega) | (simp (disch := omega) only [w64, wu64] <;> omega) | (simp (disch := omega) [-List.getD_eq_getElem?_getD, List.getD_cons_zero, List.getD_cons_succ, kCast_self, dfl_pair, dfl_int, w64, wu64] <;> omega) | (rw [Bool.eq_iff_iff]; simp (disch := omega) [-List.getD_eq_getElem?_getD, List.getD_cons_zero, List.getD_cons_succ, kCast_self, dfl_pair, dfl_int, w64, wu64] <;> omega) | (simp_all [-List.getD_eq_getElem?_getD] <;> omega))
/-- A hall, at first: behind its memory. -/
def newOs (V : HV) (m : MemS) : List AObj := [memC 1 m, memT m, obO V.o, hlC 0 2 4 5 6 V 0, .tab true (.int .u64) (List.replicate V.n 0), .tab true .raw (List.replicate V.n (.pointer none)), .tab true EntK []]
theorem hall_new' (V : HV) (hV : V.Ok) (m : MemS) : Tri En 12 [.ptr 0 0 0, .int .i64 V.b, .int .i64 V.n, .int .i64 V.tries, obA 2 V.o] [memC 1 m, memT m, obO V.o] (.ptr 3 0 0) (newOs V ((m.acc 2 V.b).put V.b (wRf (0, 0, 0) : Nat))) := by
  have n1 := hV.n1
  have f1 := fr_head hV.fr
  have o1 : Tri En 32 [refI 0 0 0] [] (.int .u64 (wRf (0, 0, 0) : Nat)) [] := of_yes 0 0 0 (by omega) (by omega) (by omega)
  have st := mem_store m V.b (wRf (0, 0, 0) : Nat)
  refine Tri.nilCell (pre := [memC 1 ((m.acc 2 V.b).put V.b (wRf (0, 0, 0) : Nat)), memT ((m.acc 2 V.b).put V.b (wRf (0, 0, 0) : Nat)), obO V.o]) (post := [.tab true (.int .u64) (List.replicate V.n 0), .tab true .raw (List.replicate V.n (.pointer none))]) (cp := [.ptr 0 0 0, .int .i64 V.b, .int .i64 (obW V.o : Nat), .int .i64 V.n, obA 2 V.o, .int .i64 V.tries, .slice 4 0 V.n, .slice 5 0 V.n]) (cq := []) EntK ?_ (by simp)
  generalize wRf (0, 0, 0) = z at *
  obtain ⟨b, n, t, o⟩ := V
  cases o with
  | stack r =>
    have w1 := ob_words 0 _ r rfl
    refine Tri.of Tryd.func12 rfl Tryd.call12 rfl ?_
    refine Goods.fin 2000 [.c (.ofM _ _ meth_st_words w1), .k 19 (.of f1), .k 21 (.of o1), .k 22 (.of st)] mixed Tryd.func12 ?_
    show Yes _
    repeat' apply And.intro
    (all_goals first | rfl | assumption | trivial | omega | (simp [-List.getD_eq_getElem?_getD] <;> omega) | (simp (disch := omega) only [w64, wu64] <;> omega) | (simp (disch := omega) [-List.getD_eq_getElem?_getD, List.getD_cons_zero, List.getD_cons_succ, kCast_self, dfl_pair, dfl_int, w64, wu64] <;> omega) | (rw [Bool.eq_iff_iff]; simp (disch := omega) [-List.getD_eq_getElem?_getD, List.getD_cons_zero, List.getD_cons_succ, kCast_self, dfl_pair, dfl_int, w64, wu64] <;> omega) | (simp_all [-List.getD_eq_getElem?_getD] <;> omega))
  | counter =>
    refine Tri.of Tryd.func12 rfl Tryd.call12 rfl ?_
    refine Goods.fin 2000 [.c (.ofM _ _ meth_cnt_words cnt_words), .k 19 (.of f1), .k 21 (.of o1), .k 22 (.of st)] mixed Tryd.func12 ?_
    show Yes _
    repeat' apply And.intro
    (all_goals first | rfl | assumption | trivial | omega | (simp [-List.getD_eq_getElem?_getD] <;> omega) | (simp (disch := omega) only [w64, wu64] <;> omega) | (simp (disch := omega) [-List.getD_eq_getElem?_getD, List.getD_cons_zero, List.getD_cons_succ, kCast_self, dfl_pair, dfl_int, w64, wu64] <;> omega) | (rw [Bool.eq_iff_iff]; simp (disch := omega) [-List.getD_eq_getElem?_getD, List.getD_cons_zero, List.getD_cons_succ, kCast_self, dfl_pair, dfl_int, w64, wu64] <;> omega) | (simp_all [-List.getD_eq_getElem?_getD] <;> omega))
theorem hall_newB (V : HV) (hV : V.Ok) (T : Nat) (m : MemS) : Tri En 12 [.ptr 0 0 0, .int .i64 V.b, .int .i64 V.n, .int .i64 V.tries, obA 2 V.o] [memC 1 m, memT m, obO V.o] (.ptr 3 0 0) (newOs V ((m.acc 2 V.b).put V.b (wRf (0, 0, 0) : Nat)) ++ [.box T [3, 0] (BoxP [])]) := by
  have t := hall_new' V hV m
  refine Tri.ghost (α := Unit) (os2 := fun _ => [memC 1 m, memT m, obO V.o]) (os2' := fun _ => newOs V ((m.acc 2 V.b).put V.b (wRf (0, 0, 0) : Nat))) (v2 := fun _ => .ptr 3 0 0) t.enters (fun B ρ w h => ⟨(), ρ, h, fun _ _ h => h, fun _ h => h⟩) (fun _ => by simp) (fun _ => t) fun _ B ρ w h => ?_
  obtain ⟨ρ', h1, h2, h3⟩ := h.emptyB (T := T) (a := 3) (b := 0) (by rw [hp_get]; simp [newOs, hlC]) (by rw [hp_get]; simp [newOs, memC])
  exact ⟨ρ', h1, h2, h3, fun u hu => Den.mono h2 hu⟩
/-- The words at first. -/
def M0 (V : HV) : M3 := ⟨(0, 0, 0), fun _ => none, fun _ => 0, fun _ => 0, fun _ => 0, fun _ _ => List.replicate V.R 0⟩
theorem mem0 {V : HV} (hV : V.Ok) {m : MemS} (hl : V.b + V.size ≤ m.words.length) (hz : ∀ a : Nat, V.b ≤ a → a < V.b + V.size → m.get (a : Int) = 0) : MemIs V ((m.acc 2 V.b).put V.b (wRf (0, 0, 0) : Nat)) (M0 V) := by
  have hs := size_ge V
  have n0 := hV.n0
  have hl2 : V.b < m.words.length := by omega
  refine ⟨by rw [MemS.put_len]; exact hl, by rw [get_put hl2]; exact if_pos rfl, fun i hi => ?_, fun i hi => ?_, fun i hi => ?_, fun i hi => ?_, fun i s k hi hs' hk => ?_⟩
  · rw [get_put hl2, if_neg (by omega)]; exact hz _ (by omega) (by omega)
  · rw [get_put hl2, if_neg (by omega)]; exact hz _ (by omega) (by omega)
  · rw [get_put hl2, if_neg (by omega)]; exact hz _ (by omega) (by omega)
  · rw [get_put hl2, if_neg (by omega)]; exact hz _ (by omega) (by omega)
  · have := at_lt (V := V) hi hs' hk
    rw [get_put hl2, if_neg (by omega), hz _ (by omega) (by omega)]
    simp [M0, List.getD, hk]
end Go.Proofs.YtnheodgffackoaaDoor.E

/- Package hall: a call that is new. -/
namespace Go.Proofs.YtnheodgffackoaaDoor.E
set_option linter.unusedSimpArgs false
set_option linter.unusedVariables false
open Go Go.Proofs.YtnheodgffackoaaDoor.Y
set_option maxRecDepth 100000
set_option maxHeartbeats 4000000
/-- A call at first. -/
def newC (tries : Nat) (op : O2) : Cl := ⟨if 0 < tries then .load else .tellA, op, tries, false, (0, 0, 0), [], 0, 0, 0, [], [], 0, 0, 0, (0, 0)⟩
/-- A hall with a call that came just now: it lies in object 8. -/
def hlNewA (V : HV) (h : HH) (w : Nat) : List AObj := [.gone, hlC 2 7 4 5 6 V h.es.length, memC 3 h.m, memT h.m, .tab true (.int .u64) h.ask, .mix w (fun a b => a = h.us.take w ∧ b = h.us.drop (w + 1)) (.ptr 8 0 0), .tab true EntK h.es, obO V.o, .gone]
def hlNew (V : HV) (T : Nat) (ms : List BMem) (h : HH) (w : Nat) (subs : List AObj) : List AObj := hlNewA V h w ++ [.box T [1, 2, 8] (BoxN ms subs)]
theorem hp_head {B : Nat} {ρ : Rho} {w : World} {o o' : AObj} {os : List AObj} (h : RelH B ρ ((hp (o :: os)).set 0 o') w) : RelH B ρ (hp (o' :: os)) w ∧ ∀ b, Blks ρ (hp (o' :: os)) b → Blks ρ ((hp (o :: os)).set 0 o') b := by
  have hg : ∀ i, (hp (o' :: os)).get i = ((hp (o :: os)).set 0 o').get i := fun i => by
    rw [get_set, hp_get, hp_get]
    cases i with
    | zero => rfl
    | succ i => rw [if_neg (by omega)]; rfl
  exact ⟨h.ext hg rfl, fun b hb => Blks.ext hg hb⟩
theorem hp_last {B : Nat} {ρ : Rho} {w : World} {o o' : AObj} {os : List AObj} (h : RelH B ρ ((hp (os ++ [o])).set os.length o') w) : RelH B ρ (hp (os ++ [o'])) w ∧ ∀ b, Blks ρ (hp (os ++ [o'])) b → Blks ρ ((hp (os ++ [o])).set os.length o') b := by
  have hg : ∀ i, (hp (os ++ [o'])).get i = ((hp (os ++ [o])).set os.length o').get i := fun i => by
    rw [get_set, hp_get, hp_get]
    by_cases e : i = os.length
    · rw [if_pos e, e, getD_app_ge (Nat.le_refl _)]; simp
    · rw [if_neg e]
      by_cases h2 : i < os.length
      · rw [getD_app_lt h2, getD_app_lt h2]
      · simp only [List.getD]
        rw [List.getElem?_eq_none (by simp; omega), List.getElem?_eq_none (by simp; omega)]
  exact ⟨h.ext hg (by simp [hp_n, Hp.set, hp]; rw [len_eq, len_eq]; simp), fun b hb => Blks.ext hg hb⟩
/-- One object in a row says another thing. -/
theorem us_split {us : List Value} {w : Nat} {u : Value} (h : us[w]? = some u) : us = us.take w ++ u :: us.drop (w + 1) ∧ (us.take w).length = w := by
  have hw := (List.getElem?_eq_some_iff.1 h).1
  refine ⟨?_, by simp; omega⟩
  have : us[w] = u := (List.getElem?_eq_some_iff.1 h).2
  rw [← this, List.getElem_cons_drop, List.take_append_drop]
/-- The table of calls, with one of them looked at. -/
theorem RelH.callAt {B : Nat} {ρ : Rho} {w : World} {a b : List AObj} {us : List Value} {k : Nat} {u : Value} {v : AV} (h : RelH B ρ (hp (a ++ .tab true .raw us :: b)) w) (hu : us[k]? = some u) (hv : Den ρ v u) :
    RelH B ρ (hp (a ++ .mix k (fun x y => x = us.take k ∧ y = us.drop (k + 1)) v :: b)) w ∧ ∀ q, Blks ρ (hp (a ++ .mix k (fun x y => x = us.take k ∧ y = us.drop (k + 1)) v :: b)) q → Blks ρ (hp (a ++ .tab true .raw us :: b)) q := by
  obtain ⟨e, hl⟩ := us_split hu
  have hg : (hp (a ++ .tab true .raw us :: b)).get a.length = .tab true .raw us := by rw [hp_get, getD_app_ge (Nat.le_refl _)]; simp
  obtain ⟨l, h1, h2⟩ := h.obj a.length (by rw [hg]; simp)
  rw [hg] at h2
  obtain ⟨z1, z2, z3, z4⟩ := h2
  exact h.mid (x := .mix k _ v) h1 (by simp) ⟨us.take k, u, us.drop (k + 1), hl, ⟨rfl, rfl⟩, hv, z1, e ▸ z2, e ▸ z3, z4⟩ fun hh => hh
end Go.Proofs.YtnheodgffackoaaDoor.E

/- Package hall: Call. -/
namespace Go.Proofs.YtnheodgffackoaaDoor.E
set_option linter.unusedSimpArgs false
set_option linter.unusedVariables false
open Go Go.Proofs.YtnheodgffackoaaDoor.Y
set_option maxRecDepth 100000
set_option maxHeartbeats 4000000
def newF (t : Nat) : FuncId := if 0 < t then 33 else 34
theorem newC_os (V : HV) (w : Nat) (op : O2) (t : Nat) : callOs V w 0 (newC t op) = [clN 0 (fnA (newF t)) w 0 (newC t op) fBase] := by
  unfold newC newF
  by_cases h : 0 < t
  · simp only [if_pos h]; rfl
  · simp only [if_neg h]; rfl
/-- The code, where no call of the worker's was. -/
theorem call_code0 (V : HV) (hV : V.Ok) (h : HH) (w : Nat) (hw : w < V.n) (op : O2) (T : Nat) (Q : List Loc → World → Nat → Prop) (P : List Value → List Value → Prop) :
    Tri En 13 [.ptr 1 0 0, .int .i64 w, opA op] [.box T [1, 2] Q, hlC 2 7 4 5 6 V h.es.length, memC 3 h.m, memT h.m, .tab true (.int .u64) h.ask, .mix w P .nilptr, .tab true EntK h.es, obO V.o] (.ptr 8 0 0)
      [.box T [1, 2] Q, hlC 2 7 4 5 6 V h.es.length, memC 3 h.m, memT h.m, .tab true (.int .u64) h.ask, .mix w P (.ptr 8 0 0), .tab true EntK h.es, obO V.o, clN 1 (fnA (newF V.tries)) w 0 (newC V.tries op) fBase] := by
  obtain ⟨b, n, t, o⟩ := V
  have n1 : n ≤ 200 := hV.n1
  have hw' : w < n := hw
  unfold newF newC opA
  by_cases ht : 0 < t
  · simp only [if_pos ht]
    cases o
    all_goals
      refine Tri.of Tryd.func13 rfl Tryd.call13 rfl ?_
      refine Goods.fin 2000 [.s 9 (some false) true true, .s 17 (some false) true true, .s 55 (some false) true true] mixed Tryd.func13 ?_
      show Yes _
      repeat' apply And.intro
      (all_goals first | rfl | assumption | trivial | omega | (simp [-List.getD_eq_getElem?_getD] <;> omega) | (simp (disch := omega) only [w64, wu64] <;> omega) | (simp (disch := omega) [-List.getD_eq_getElem?_getD, List.getD_cons_zero, List.getD_cons_succ, kCast_self, dfl_pair, dfl_int, w64, wu64] <;> omega) | (rw [Bool.eq_iff_iff]; simp (disch := omega) [-List.getD_eq_getElem?_getD, List.getD_cons_zero, List.getD_cons_succ, kCast_self, dfl_pair, dfl_int, w64, wu64] <;> omega) | (simp_all [-List.getD_eq_getElem?_getD] <;> omega))
  · simp only [if_neg ht]
    cases o
    all_goals
      refine Tri.of Tryd.func13 rfl Tryd.call13 rfl ?_
      refine Goods.fin 2000 [.s 9 (some false) true true, .s 17 (some false) true true, .s 55 (some true) true true] mixed Tryd.func13 ?_
      show Yes _
      repeat' apply And.intro
      (all_goals first | rfl | assumption | trivial | omega | (simp [-List.getD_eq_getElem?_getD] <;> omega) | (simp (disch := omega) only [w64, wu64] <;> omega) | (simp (disch := omega) [-List.getD_eq_getElem?_getD, List.getD_cons_zero, List.getD_cons_succ, kCast_self, dfl_pair, dfl_int, w64, wu64] <;> omega) | (rw [Bool.eq_iff_iff]; simp (disch := omega) [-List.getD_eq_getElem?_getD, List.getD_cons_zero, List.getD_cons_succ, kCast_self, dfl_pair, dfl_int, w64, wu64] <;> omega) | (simp_all [-List.getD_eq_getElem?_getD] <;> omega))
/-- .. where one was, and is over. -/
theorem call_code1 (V : HV) (hV : V.Ok) (h : HH) (w : Nat) (hw : w < V.n) (op : O2) (T : Nat) (Q : List Loc → World → Nat → Prop) (P : List Value → List Value → Prop) (wk st : Nat) (c : Cl) :
    Tri En 13 [.ptr 1 0 0, .int .i64 w, opA op] [.gone, hlC 2 7 4 5 6 V h.es.length, memC 3 h.m, memT h.m, .tab true (.int .u64) h.ask, .mix w P (.ptr 9 0 0), .tab true EntK h.es, obO V.o, .box T [1, 2] Q, clN 1 .nilfunc wk st c fBase] (.ptr 10 0 0)
      [.gone, hlC 2 7 4 5 6 V h.es.length, memC 3 h.m, memT h.m, .tab true (.int .u64) h.ask, .mix w P (.ptr 10 0 0), .tab true EntK h.es, obO V.o, .box T [1, 2] Q, clN 1 .nilfunc wk st c fBase, clN 1 (fnA (newF V.tries)) w 0 (newC V.tries op) fBase] := by
  obtain ⟨b, n, t, o⟩ := V
  have n1 : n ≤ 200 := hV.n1
  have hw' : w < n := hw
  unfold newF newC opA
  by_cases ht : 0 < t
  · simp only [if_pos ht]
    cases o
    all_goals
      refine Tri.of Tryd.func13 rfl Tryd.call13 rfl ?_
      refine Goods.fin 2000 [.s 9 (some false) true true, .s 17 (some false) true true, .s 55 (some false) true true] mixed Tryd.func13 ?_
      show Yes _
      repeat' apply And.intro
      (all_goals first | rfl | assumption | trivial | omega | (simp [-List.getD_eq_getElem?_getD] <;> omega) | (simp (disch := omega) only [w64, wu64] <;> omega) | (simp (disch := omega) [-List.getD_eq_getElem?_getD, List.getD_cons_zero, List.getD_cons_succ, kCast_self, dfl_pair, dfl_int, w64, wu64] <;> omega) | (rw [Bool.eq_iff_iff]; simp (disch := omega) [-List.getD_eq_getElem?_getD, List.getD_cons_zero, List.getD_cons_succ, kCast_self, dfl_pair, dfl_int, w64, wu64] <;> omega) | (simp_all [-List.getD_eq_getElem?_getD] <;> omega))
  · simp only [if_neg ht]
    cases o
    all_goals
      refine Tri.of Tryd.func13 rfl Tryd.call13 rfl ?_
      refine Goods.fin 2000 [.s 9 (some false) true true, .s 17 (some false) true true, .s 55 (some true) true true] mixed Tryd.func13 ?_
      show Yes _
      repeat' apply And.intro
      (all_goals first | rfl | assumption | trivial | omega | (simp [-List.getD_eq_getElem?_getD] <;> omega) | (simp (disch := omega) only [w64, wu64] <;> omega) | (simp (disch := omega) [-List.getD_eq_getElem?_getD, List.getD_cons_zero, List.getD_cons_succ, kCast_self, dfl_pair, dfl_int, w64, wu64] <;> omega) | (rw [Bool.eq_iff_iff]; simp (disch := omega) [-List.getD_eq_getElem?_getD, List.getD_cons_zero, List.getD_cons_succ, kCast_self, dfl_pair, dfl_int, w64, wu64] <;> omega) | (simp_all [-List.getD_eq_getElem?_getD] <;> omega))
/-- No such worker. -/
theorem hall_call_none (V : HV) (hV : V.Ok) (h : HH) (w : Int) (hw : w < 0 ∨ V.n ≤ w) (op : O2) : Tri En 13 [.ptr 1 0 0, .int .i64 w, opA op] (.gone :: hlO V h) .nilptr (.gone :: hlO V h) := by
  obtain ⟨b, n, t, o⟩ := V
  have n1 : n ≤ 200 := hV.n1
  by_cases h0 : w < 0
  · cases o
    all_goals
      refine Tri.of Tryd.func13 rfl Tryd.call13 rfl ?_
      refine Goods.fin 2000 [.s 9 (some true) true true] mixed Tryd.func13 ?_
      show Yes _
      repeat' apply And.intro
      (all_goals first | rfl | assumption | trivial | omega | (simp [-List.getD_eq_getElem?_getD] <;> omega) | (simp (disch := omega) only [w64, wu64] <;> omega) | (simp (disch := omega) [-List.getD_eq_getElem?_getD, List.getD_cons_zero, List.getD_cons_succ, kCast_self, dfl_pair, dfl_int, w64, wu64] <;> omega) | (rw [Bool.eq_iff_iff]; simp (disch := omega) [-List.getD_eq_getElem?_getD, List.getD_cons_zero, List.getD_cons_succ, kCast_self, dfl_pair, dfl_int, w64, wu64] <;> omega) | (simp_all [-List.getD_eq_getElem?_getD] <;> omega))
  · have hw2 : (n : Int) ≤ w := hw.resolve_left h0
    cases o
    all_goals
      refine Tri.of Tryd.func13 rfl Tryd.call13 rfl ?_
      refine Goods.fin 2000 [.s 9 (some false) true true, .s 17 (some true) true true] mixed Tryd.func13 ?_
      show Yes _
      repeat' apply And.intro
      (all_goals first | rfl | assumption | trivial | omega | (simp [-List.getD_eq_getElem?_getD] <;> omega) | (simp (disch := omega) only [w64, wu64] <;> omega) | (simp (disch := omega) [-List.getD_eq_getElem?_getD, List.getD_cons_zero, List.getD_cons_succ, kCast_self, dfl_pair, dfl_int, w64, wu64] <;> omega) | (rw [Bool.eq_iff_iff]; simp (disch := omega) [-List.getD_eq_getElem?_getD, List.getD_cons_zero, List.getD_cons_succ, kCast_self, dfl_pair, dfl_int, w64, wu64] <;> omega) | (simp_all [-List.getD_eq_getElem?_getD] <;> omega))
end Go.Proofs.YtnheodgffackoaaDoor.E

/- Package hall: Call, with the box. -/
namespace Go.Proofs.YtnheodgffackoaaDoor.E
set_option linter.unusedSimpArgs false
set_option linter.unusedVariables false
open Go Go.Proofs.YtnheodgffackoaaDoor.Y
set_option maxRecDepth 100000
set_option maxHeartbeats 4000000
def closeV (OS osA subs : List AObj) (ps vs : List AV) (q0 c k0 : Nat) : Option (List Prop) := match uni (hp OS) (idSub k0) ps vs osA with
  | none => none
  | some (SA, csA) => match uni (hp OS) [(0, .id 1), (1, .id 2)] [.ptr 2 0 0] [.ptr c 0 0] (subO subs) with
    | none => none
    | some (SS, csS) => match and (disjN (idsOf SA 0 osA) (q0 :: idsOf SS 0 (subO subs))) (disjN [q0] (idsOf SS 0 (subO subs))) with
      | true => some (app2 csA csS)
      | false => none
theorem RelH.closeW {B : Nat} {ρ : Rho} {w : World} {OS osA subs : List AObj} {ps vs : List AV} {T i q0 c k0 : Nat} {ms : List BMem} {u : Value} (h : RelH B ρ (hp OS) w) (hbox : (hp OS).get q0 = .box T [1, 2] (BoxP ms)) (hi : i < ms.length) (hn : ∀ m, ms[i]? = some m → m.2 = []) (hu : Den ρ (.ptr c 0 0) u) (hpl : plainL subs = true) (hk : 2 < k0) (hk2 : k0 ≤ osA.length)
    (hy : Yes (closeV OS osA subs ps vs q0 c k0)) (hne : subs ≠ []) :
    ∃ ρ', RelH B ρ' (hp (osA ++ [.box T [1, 2] (BoxP (ms.set i (u, subs)))])) w ∧ (∀ q l, q < k0 → ρ q = some l → ρ' q = some l) ∧ (∀ b, Blks ρ' (hp (osA ++ [.box T [1, 2] (BoxP (ms.set i (u, subs)))])) b → Blks ρ (hp OS) b) ∧ ∀ xs, DenL ρ vs xs → DenL ρ' ps xs := by
  unfold closeV at hy
  split at hy <;> try (cases hy; done)
  rename_i SA csA hA
  split at hy <;> try (cases hy; done)
  rename_i SS csS hS
  split at hy <;> try (cases hy; done)
  rename_i hd
  rw [Bool.and_eq_true] at hd
  obtain ⟨y1, y2⟩ := allP_app2 hy
  exact h.closeB hbox hi hn hu hpl hk hk2 hA y1 hS y2 hne hd.1 hd.2
theorem set_end {β : Type} (l : List β) (a b : β) : (l ++ [a]).set l.length b = l ++ [b] := by simp
theorem denL_one {ρ : Rho} {a : AV} {u : Value} (h : Den ρ a u) : DenL ρ [a] [u] := ⟨u, [], rfl, h, rfl⟩
theorem denL_one' {ρ : Rho} {a : AV} {u : Value} (h : DenL ρ [a] [u]) : Den ρ a u := by
  obtain ⟨v, vs, e, hv, _⟩ := h
  injection e with e1 _
  rw [e1]; exact hv
theorem den_ptrL {ρ : Rho} {k : Nat} {x : Value} (h : Den ρ (.ptr k 0 0) x) : ∃ l, ρ k = some l ∧ x = ptrL l := h
theorem get_end {os : List AObj} {o : AObj} : (hp (os ++ [o])).get os.length = o := by rw [hp_get, getD_app_ge (Nat.le_refl _)]; simp
/-- The new call goes into the box behind. -/
theorem RelH.fin {B : Nat} {ρ : Rho} {w : World} {osA : List AObj} {T : Nat} {ms : List BMem} {x : Value} {subs : List AObj} (h : RelH B ρ (hp (osA ++ [.box T [1, 2] (BoxP ((ms ++ [(x, [])]).set ms.length (x, subs)))])) w) (hx : Den ρ (.ptr 8 0 0) x) :
    RelH B ρ (hp (osA ++ [.box T [1, 2, 8] (BoxN ms subs)])) w ∧ ∀ b, Blks ρ (hp (osA ++ [.box T [1, 2, 8] (BoxN ms subs)])) b → Blks ρ (hp (osA ++ [.box T [1, 2] (BoxP ((ms ++ [(x, [])]).set ms.length (x, subs)))])) b := by
  rw [set_end] at h ⊢
  obtain ⟨l, h1, h2⟩ := den_ptrL hx
  obtain ⟨r1, r2⟩ := h.unname (q := osA.length) (k := 8) get_end h1 h2
  obtain ⟨r3, r4⟩ := hp_last r1
  exact ⟨r3, fun b hb => r2 b (r4 b hb)⟩
theorem hall_call0 (V : HV) (hV : V.Ok) (h : HH) (w : Nat) (hw : w < V.n) (op : O2) (T : Nat) (ms : List BMem) (hus : h.us[w]? = some (.pointer none)) :
    Tri En 13 [.ptr 1 0 0, .int .i64 w, opA op] (hlBox V T ms h) (.ptr 8 0 0) (hlNew V T ms h w (callOs V w 0 (newC V.tries op))) := by
  have t := call_code0 V hV h w hw op T (BoxP ms) (fun x y => x = h.us.take w ∧ y = h.us.drop (w + 1))
  refine Tri.ghost2 (α := Unit) (fun _ => _) (fun _ => _) (fun _ => _) (fun _ => _) (fun _ _ => True) t.enters (fun B ρ wd vs hR hd => ?_) (fun _ _ _ _ _ => trivial) (fun _ => by simp [hlBox, hlO]) (fun _ => t) (fun _ B ρ wd _ hR => ?_)
  · obtain ⟨r1, r2⟩ := RelH.callAt (a := [.box T [1, 2] (BoxP ms), hlC 2 7 4 5 6 V h.es.length, memC 3 h.m, memT h.m, .tab true (.int .u64) h.ask]) (b := [.tab true EntK h.es, obO V.o]) (v := .nilptr) hR hus rfl
    exact ⟨(), ρ, r1, hd, trivial, fun _ _ h => h, r2⟩
  · obtain ⟨l, h8, _⟩ := hR.obj 8 (by rw [hp_get]; simp [clN])
    have hx : Den ρ (.ptr 8 0 0) (ptrL l) := ⟨l, h8, rfl⟩
    obtain ⟨r1, r2⟩ := hR.moreB (q := 0) (by rw [hp_get]; rfl) (ptrL l)
    obtain ⟨r3, r4⟩ := hp_head r1
    obtain ⟨ρ', s1, s2, s3, s4⟩ := RelH.closeW (osA := hlNewA V h w) (subs := callOs V w 0 (newC V.tries op)) (ps := [.ptr 8 0 0]) (vs := [.ptr 8 0 0]) (q0 := 0) (c := 8) (k0 := 8) (i := ms.length) (u := ptrL l) r3 (by rw [hp_get]; rfl) (by simp) (fun m hm => by simp at hm; rw [← hm]) hx (callOs_plain ..) (by omega) (by simp [hlNewA]) (by
      rw [newC_os]
      clear r1 r2 r3 r4 hR hx h8 t
      obtain ⟨b, n, tt, o⟩ := V
      unfold newF
      by_cases ht : 0 < tt
      · simp only [if_pos ht]
        cases o
        all_goals
          show Yes _
          repeat' apply And.intro
          (all_goals first | rfl | assumption | trivial | omega | (simp [-List.getD_eq_getElem?_getD] <;> omega) | (simp (disch := omega) only [w64, wu64] <;> omega) | (simp (disch := omega) [-List.getD_eq_getElem?_getD, List.getD_cons_zero, List.getD_cons_succ, kCast_self, dfl_pair, dfl_int, w64, wu64] <;> omega) | (rw [Bool.eq_iff_iff]; simp (disch := omega) [-List.getD_eq_getElem?_getD, List.getD_cons_zero, List.getD_cons_succ, kCast_self, dfl_pair, dfl_int, w64, wu64] <;> omega) | (simp_all [-List.getD_eq_getElem?_getD] <;> omega))
      · simp only [if_neg ht]
        cases o
        all_goals
          show Yes _
          repeat' apply And.intro
          (all_goals first | rfl | assumption | trivial | omega | (simp [-List.getD_eq_getElem?_getD] <;> omega) | (simp (disch := omega) only [w64, wu64] <;> omega) | (simp (disch := omega) [-List.getD_eq_getElem?_getD, List.getD_cons_zero, List.getD_cons_succ, kCast_self, dfl_pair, dfl_int, w64, wu64] <;> omega) | (rw [Bool.eq_iff_iff]; simp (disch := omega) [-List.getD_eq_getElem?_getD, List.getD_cons_zero, List.getD_cons_succ, kCast_self, dfl_pair, dfl_int, w64, wu64] <;> omega) | (simp_all [-List.getD_eq_getElem?_getD] <;> omega))) (callOs_ne _ _ _ _)
    have hx2 := denL_one' (s4 _ (denL_one hx))
    obtain ⟨f1, f2⟩ := s1.fin hx2
    exact ⟨ρ', f1, fun q l hq hl => s2 q l hq hl, fun b hb => r2 b (r4 b (s3 b (f2 b hb))), fun u hu => denL_one' (s4 _ (denL_one hu))⟩
theorem hall_call1 (V : HV) (hV : V.Ok) (h : HH) (w : Nat) (hw : w < V.n) (op : O2) (T : Nat) (ms : List BMem) (u : Value) (hus : h.us[w]? = some u) (i wk st : Nat) (c : Cl) (hc : c.pc = .over) (hi : ms[i]? = some (u, callOs V wk st c)) :
    Tri En 13 [.ptr 1 0 0, .int .i64 w, opA op] (hlBox V T ms h) (.ptr 8 0 0) (hlNew V T ms h w (callOs V w 0 (newC V.tries op))) := by
  have hil := (List.getElem?_eq_some_iff.1 hi).1
  have ec : callOs V wk st c = [clN 0 .nilfunc wk st c fBase] := by unfold callOs; rw [hc]
  have t := call_code1 V hV h w hw op T (BoxP (ms.set i (u, []))) (fun x y => x = h.us.take w ∧ y = h.us.drop (w + 1)) wk st c
  refine Tri.ghost2 (α := Unit) (fun _ => _) (fun _ => _) (fun _ => _) (fun _ => _) (fun _ ρ => Den ρ (.ptr 9 0 0) u) t.enters (fun B ρ wd vs hR hd => ?_) (fun _ ρ ρ' hm hF => ?_) (fun _ => by simp [hlBox, hlO]) (fun _ => t) (fun _ B ρ wd hF hR => ?_)
  · obtain ⟨ρ2, h1, h2, h3, h4⟩ := hR.openB (by simp [hlO]) hi (callOs_ne _ _ _ _)
    rw [ec] at h1 h4
    obtain ⟨r1, r2⟩ := RelH.callAt (a := [.gone, hlC 2 7 4 5 6 V h.es.length, memC 3 h.m, memT h.m, .tab true (.int .u64) h.ask]) (b := [.tab true EntK h.es, obO V.o, .box T [1, 2] (BoxP (ms.set i (u, []))), clN 1 .nilfunc wk st c fBase]) (v := .ptr 9 0 0) h1 hus h2
    exact ⟨(), ρ2, r1, DenL.mono h3 hd, h2, h3, fun b hb => h4 b (r2 b hb)⟩
  · obtain ⟨l, h1, h2⟩ := hF
    exact ⟨l, hm 9 l (by simp) h1, h2⟩
  · obtain ⟨ρ1, a1, a2, a3, a4⟩ := RelH.closeW (osA := [.gone, hlC 2 7 4 5 6 V h.es.length, memC 3 h.m, memT h.m, .tab true (.int .u64) h.ask, .mix w (fun x y => x = h.us.take w ∧ y = h.us.drop (w + 1)) (.ptr 8 0 0), .tab true EntK h.es, obO V.o, clN 1 (fnA (newF V.tries)) w 0 (newC V.tries op) fBase]) (subs := callOs V wk st c) (ps := [.ptr 8 0 0]) (vs := [.ptr 10 0 0]) (q0 := 8) (c := 9) (k0 := 8) (i := i) (u := u) hR (by rw [hp_get]; rfl) (by rw [List.length_set]; exact hil) (fun m hm => by rw [List.getElem?_set_self hil] at hm; cases hm; rfl) hF (callOs_plain ..) (by omega) (by simp) (by
      rw [ec]
      clear hF hR t hi
      obtain ⟨b, n, tt, o⟩ := V
      unfold newF
      by_cases ht : 0 < tt
      · simp only [if_pos ht]
        cases o
        all_goals
          show Yes _
          repeat' apply And.intro
          (all_goals first | rfl | assumption | trivial | omega | (simp [-List.getD_eq_getElem?_getD] <;> omega) | (simp (disch := omega) only [w64, wu64] <;> omega) | (simp (disch := omega) [-List.getD_eq_getElem?_getD, List.getD_cons_zero, List.getD_cons_succ, kCast_self, dfl_pair, dfl_int, w64, wu64] <;> omega) | (rw [Bool.eq_iff_iff]; simp (disch := omega) [-List.getD_eq_getElem?_getD, List.getD_cons_zero, List.getD_cons_succ, kCast_self, dfl_pair, dfl_int, w64, wu64] <;> omega) | (simp_all [-List.getD_eq_getElem?_getD] <;> omega))
      · simp only [if_neg ht]
        cases o
        all_goals
          show Yes _
          repeat' apply And.intro
          (all_goals first | rfl | assumption | trivial | omega | (simp [-List.getD_eq_getElem?_getD] <;> omega) | (simp (disch := omega) only [w64, wu64] <;> omega) | (simp (disch := omega) [-List.getD_eq_getElem?_getD, List.getD_cons_zero, List.getD_cons_succ, kCast_self, dfl_pair, dfl_int, w64, wu64] <;> omega) | (rw [Bool.eq_iff_iff]; simp (disch := omega) [-List.getD_eq_getElem?_getD, List.getD_cons_zero, List.getD_cons_succ, kCast_self, dfl_pair, dfl_int, w64, wu64] <;> omega) | (simp_all [-List.getD_eq_getElem?_getD] <;> omega))) (callOs_ne _ _ _ _)
    rw [List.set_set] at a1 a3
    have em : ms.set i (u, callOs V wk st c) = ms := by
      rw [← (List.getElem?_eq_some_iff.1 hi).2]; exact List.set_getElem_self _
    rw [em] at a1 a3
    obtain ⟨l, h8, _⟩ := a1.obj 8 (by rw [hp_get]; simp [clN])
    have hx : Den ρ1 (.ptr 8 0 0) (ptrL l) := ⟨l, h8, rfl⟩
    obtain ⟨r1, r2⟩ := a1.moreB (q := 9) (by rw [hp_get]; rfl) (ptrL l)
    obtain ⟨r3, r4⟩ := hp_last (os := [.gone, hlC 2 7 4 5 6 V h.es.length, memC 3 h.m, memT h.m, .tab true (.int .u64) h.ask, .mix w (fun x y => x = h.us.take w ∧ y = h.us.drop (w + 1)) (.ptr 8 0 0), .tab true EntK h.es, obO V.o, clN 1 (fnA (newF V.tries)) w 0 (newC V.tries op) fBase]) r1
    obtain ⟨ρ', s1, s2, s3, s4⟩ := RelH.closeW (osA := hlNewA V h w) (subs := callOs V w 0 (newC V.tries op)) (ps := [.ptr 8 0 0]) (vs := [.ptr 8 0 0]) (q0 := 9) (c := 8) (k0 := 8) (i := ms.length) (u := ptrL l) r3 (by rw [hp_get]; rfl) (by simp) (fun m hm => by simp at hm; rw [← hm]) hx (callOs_plain ..) (by omega) (by simp [hlNewA]) (by
      rw [newC_os]
      clear r1 r2 r3 r4 hR hx h8 t hi a1 a2 a3 a4 em
      obtain ⟨b, n, tt, o⟩ := V
      unfold newF
      by_cases ht : 0 < tt
      · simp only [if_pos ht]
        cases o
        all_goals
          show Yes _
          repeat' apply And.intro
          (all_goals first | rfl | assumption | trivial | omega | (simp [-List.getD_eq_getElem?_getD] <;> omega) | (simp (disch := omega) only [w64, wu64] <;> omega) | (simp (disch := omega) [-List.getD_eq_getElem?_getD, List.getD_cons_zero, List.getD_cons_succ, kCast_self, dfl_pair, dfl_int, w64, wu64] <;> omega) | (rw [Bool.eq_iff_iff]; simp (disch := omega) [-List.getD_eq_getElem?_getD, List.getD_cons_zero, List.getD_cons_succ, kCast_self, dfl_pair, dfl_int, w64, wu64] <;> omega) | (simp_all [-List.getD_eq_getElem?_getD] <;> omega))
      · simp only [if_neg ht]
        cases o
        all_goals
          show Yes _
          repeat' apply And.intro
          (all_goals first | rfl | assumption | trivial | omega | (simp [-List.getD_eq_getElem?_getD] <;> omega) | (simp (disch := omega) only [w64, wu64] <;> omega) | (simp (disch := omega) [-List.getD_eq_getElem?_getD, List.getD_cons_zero, List.getD_cons_succ, kCast_self, dfl_pair, dfl_int, w64, wu64] <;> omega) | (rw [Bool.eq_iff_iff]; simp (disch := omega) [-List.getD_eq_getElem?_getD, List.getD_cons_zero, List.getD_cons_succ, kCast_self, dfl_pair, dfl_int, w64, wu64] <;> omega) | (simp_all [-List.getD_eq_getElem?_getD] <;> omega))) (callOs_ne _ _ _ _)
    have hx2 := denL_one' (s4 _ (denL_one hx))
    obtain ⟨f1, f2⟩ := s1.fin hx2
    exact ⟨ρ', f1, fun q l hq hl => s2 q l hq (a2 q l hq hl), fun b hb => a3 b (r2 b (r4 b (s3 b (f2 b hb)))), fun u hu => denL_one' (s4 _ (denL_one (denL_one' (a4 _ (denL_one hu)))))⟩
end Go.Proofs.YtnheodgffackoaaDoor.E
