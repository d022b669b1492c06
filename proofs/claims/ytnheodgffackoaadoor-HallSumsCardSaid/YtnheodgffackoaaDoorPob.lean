/- Objects that a hall may have: what each is, as a value; its words; what it does to them. -/
import Derived.Test.YtnheodgffackoaaDoorPobj
import Derived.Test.YtnheodgffackoaaDoorYall
namespace Go.Proofs.YtnheodgffackoaaDoor.E
set_option linter.unusedSimpArgs false
set_option linter.unusedVariables false
open Go Go.Proofs.YtnheodgffackoaaDoor.Y
set_option maxRecDepth 100000

inductive Ob where
  | stack (r : Int)
  | counter
def obT : Ob → TypeId
  | .stack _ => 100
  | .counter => 30
/-- It, as a value; object q is what it refers to. -/
def obA (q : Nat) : Ob → AV
  | .stack r => .iface 100 (.agg [.int .i64 r])
  | .counter => .iface 30 (.agg [])
def obV (q : Nat) : Ob → AV
  | .stack r => .agg [.int .i64 r]
  | .counter => .agg []
def obO : Ob → AObj
  | .stack _ => .gone
  | .counter => .gone
def obW : Ob → Nat
  | .stack r => roomN r + 1
  | .counter => 1
/-- What it does to its words. -/
def obAp : Ob → List Int → O2 → List Int × O2
  | .stack r, l, o => if o.1 = 1 ∧ l.getD 0 0 < roomN r then ((l.set (1 + (l.getD 0 0).toNat) o.2).set 0 (l.getD 0 0 + 1), (1, 0)) else if o.1 = 2 ∧ 0 < l.getD 0 0 then ((l.set (l.getD 0 0).toNat 0).set 0 (l.getD 0 0 - 1), (1, l.getD (l.getD 0 0).toNat 0)) else (l, (0, 0))
  | .counter, l, o => ([IntKind.u64.wrap (l.getD 0 0 + o.1)], (l.getD 0 0, IntKind.u64.wrap (l.getD 0 0 + o.1)))
def obOk : Ob → List Int → Prop
  | .stack r, l => ∃ p : List Int, p.length ≤ roomN r ∧ l = stW (roomN r) p
  | .counter, l => l.length = 1
theorem obAp_st {r : Int} {p : List Int} (h : p.length ≤ roomN r) (o : O2) : obAp (.stack r) (stW (roomN r) p) o = (stW (roomN r) (stF (roomN r) p o).1, (stF (roomN r) p o).2) := by
  simp only [obAp, stF, stW_at0]
  by_cases c1 : o.1 = 1 ∧ p.length < roomN r
  · rw [if_pos c1, if_pos ⟨c1.1, by omega⟩, ← stW_push c1.2]
    simp
  · rw [if_neg c1, if_neg (fun h => c1 ⟨h.1, by omega⟩)]
    by_cases c2 : o.1 = 2 ∧ 0 < p.length
    · rw [if_pos c2, if_pos ⟨c2.1, by omega⟩]
      rw [← stW_pop c2.2 h]
      have e1 := stW_at (R := roomN r) p (i := p.length - 1) (by omega)
      rw [show 1 + (p.length - 1) = p.length by omega] at e1
      simp only [Int.toNat_natCast, e1]
      rw [show ((p.length : Int) - 1) = ((p.length - 1 : Nat) : Int) by omega]
    · rw [if_neg c2, if_neg (fun h => c2 ⟨h.1, by omega⟩)]
theorem obOk_len : ∀ (o : Ob) (l : List Int), obOk o l → l.length = obW o
  | .stack r, l, ⟨p, _, h⟩ => by rw [h, stW, tabW_len, obW]; omega
  | .counter, l, h => h
theorem obOk_ap : ∀ (o : Ob) (l : List Int) (q : O2), obOk o l → obOk o (obAp o l q).1
  | .stack r, l, q, ⟨p, hp, h⟩ => by subst h; rw [obAp_st hp]; exact ⟨_, stF_le hp q, rfl⟩
  | .counter, l, q, h => rfl
theorem obOk_zero : ∀ (o : Ob), obOk o (List.replicate (obW o) 0)
  | .stack r => ⟨[], Nat.zero_le _, by rw [← stW_zero, obW, Nat.add_comm]⟩
  | .counter => rfl
theorem ob_words (q : Nat) (o : Ob) : ∀ r, o = .stack r → Tri En 103 [.agg [.int .i64 r]] [] (.int .i64 (obW o : Nat)) [] := by
  rintro r rfl
  have := st_words r
  rw [show 1 + roomN r = obW (.stack r) from Nat.add_comm _ _] at this
  exact this
theorem set_app {a b : List Int} {i : Nat} (h : i < a.length) (x : Int) : (a ++ b).set i x = a.set i x ++ b := List.set_append_left _ _ h
theorem getD_app {a b : List Int} {i : Nat} (h : i < a.length) : (a ++ b).getD i 0 = a.getD i 0 := by simp [List.getD, List.getElem?_append_left h]
theorem cnt_applyX (n : Int) (rest : List Int) (o : Int × Int) : Tri En 100 [.agg [], .slice 0 0 1, opA o] [.tab true (.int .u64) (n :: rest)] (opA (cntF n o).2) [.tab true (.int .u64) ((cntF n o).1 :: rest)] := by
  refine Tri.of Tryd.func100 rfl Tryd.call100 rfl ?_
  refine Goods.fin 2000 [] mixed Tryd.func100 ?_
  show Yes _
  repeat' apply And.intro
  (all_goals first | rfl | assumption | trivial | omega | (simp [-List.getD_eq_getElem?_getD] <;> omega) | (simp (disch := omega) only [w64, wu64] <;> omega) | (simp (disch := omega) [-List.getD_eq_getElem?_getD, List.getD_cons_zero, List.getD_cons_succ, kCast_self, dfl_pair, dfl_int, w64, wu64] <;> omega) | (rw [Bool.eq_iff_iff]; simp (disch := omega) [-List.getD_eq_getElem?_getD, List.getD_cons_zero, List.getD_cons_succ, kCast_self, dfl_pair, dfl_int, w64, wu64] <;> omega) | (simp_all [-List.getD_eq_getElem?_getD] <;> omega))
theorem st_applyX (r : Int) (p : List Int) (hp : p.length ≤ roomN r) (rest : List Int) (o : Int × Int) : Tri En 102 [.agg [.int .i64 r], .slice 0 0 (roomN r + 1), opA o] [.tab true (.int .u64) (stW (roomN r) p ++ rest)] (opA (stF (roomN r) p o).2) [.tab true (.int .u64) (stW (roomN r) (stF (roomN r) p o).1 ++ rest)] := by
  have hR := roomN_le r
  have hl : (stW (roomN r) p).length = 1 + roomN r := tabW_len _ _
  have hl2 : (stW (roomN r) p ++ rest).length = 1 + roomN r + rest.length := by rw [List.length_append, hl]
  have h0 : (stW (roomN r) p ++ rest).getD 0 0 = p.length := by rw [getD_app (by omega)]; exact stW_at0 (roomN r) p
  obtain ⟨a, b⟩ := o
  refine Tri.of Tryd.func102 rfl Tryd.call102 rfl ?_
  by_cases c1 : a = 1
  · by_cases c2 : p.length < roomN r
    · have e : stF (roomN r) p (a, b) = (p ++ [b], (1, 0)) := by simp [stF, c1, c2]
      have e1 : ((1 : Int) + p.length).toNat = 1 + p.length := by omega
      have e3 : stW (roomN r) (p ++ [b]) ++ rest = ((stW (roomN r) p ++ rest).set (1 + p.length) b).set 0 (p.length + 1 : Nat) := by
        rw [← stW_push c2, set_app (by omega), set_app (by simp; omega)]
      rw [e, e3]
      have h2 : ((stW (roomN r) p ++ rest).set (1 + p.length) b).getD 0 0 = p.length := by rw [getD_set_ne' (by omega)]; exact h0
      clear e e3
      generalize stW (roomN r) p ++ rest = X at *
      refine Goods.fin 2000 [.s 16 (some true) true true, .c (.of (st_room r)), .b true] mixed Tryd.func102 ?_
      show Yes _
      repeat' apply And.intro
      (all_goals first | rfl | assumption | trivial | omega | (simp [-List.getD_eq_getElem?_getD, h0, hl2, e1, h2] <;> omega) | (simp (disch := omega) only [w64, wu64] <;> omega) | (simp (disch := omega) [-List.getD_eq_getElem?_getD, List.getD_cons_zero, List.getD_cons_succ, kCast_self, dfl_pair, dfl_int, w64, wu64, h0, hl2, e1, h2] <;> omega) | (rw [Bool.eq_iff_iff]; simp (disch := omega) [-List.getD_eq_getElem?_getD, List.getD_cons_zero, List.getD_cons_succ, kCast_self, dfl_pair, dfl_int, w64, wu64, h0, hl2, e1, h2] <;> omega) | (simp_all [-List.getD_eq_getElem?_getD] <;> omega))
    · have e : stF (roomN r) p (a, b) = (p, (0, 0)) := by simp [stF, c1, c2]
      rw [e]
      clear e
      generalize stW (roomN r) p ++ rest = X at *
      refine Goods.fin 2000 [.s 16 (some true) true true, .c (.of (st_room r)), .b false, .s 38 (some false) true true] mixed Tryd.func102 ?_
      show Yes _
      repeat' apply And.intro
      (all_goals first | rfl | assumption | trivial | omega | (simp [-List.getD_eq_getElem?_getD, h0, hl2] <;> omega) | (simp (disch := omega) only [w64, wu64] <;> omega) | (simp (disch := omega) [-List.getD_eq_getElem?_getD, List.getD_cons_zero, List.getD_cons_succ, kCast_self, dfl_pair, dfl_int, w64, wu64, h0, hl2] <;> omega) | (rw [Bool.eq_iff_iff]; simp (disch := omega) [-List.getD_eq_getElem?_getD, List.getD_cons_zero, List.getD_cons_succ, kCast_self, dfl_pair, dfl_int, w64, wu64, h0, hl2] <;> omega) | (simp_all [-List.getD_eq_getElem?_getD] <;> omega))
  · by_cases c3 : a = 2
    · by_cases c2 : 0 < p.length
      · have e : stF (roomN r) p (a, b) = (p.take (p.length - 1), (1, p.getD (p.length - 1) 0)) := by simp [stF, c3, c2]
        have h1 := stW_at (R := roomN r) p (i := p.length - 1) (by omega)
        rw [show 1 + (p.length - 1) = p.length by omega] at h1
        have h1' : (stW (roomN r) p ++ rest).getD p.length 0 = p.getD (p.length - 1) 0 := by rw [getD_app (by omega)]; exact h1
        have h2 : ((stW (roomN r) p ++ rest).set p.length 0).getD 0 0 = p.length := by rw [getD_set_ne' (by omega)]; exact h0
        have e2 : ((p.length - 1 : Nat) : Int) = p.length - 1 := by omega
        have e3 : stW (roomN r) (p.take (p.length - 1)) ++ rest = ((stW (roomN r) p ++ rest).set p.length 0).set 0 (p.length - 1 : Nat) := by
          rw [← stW_pop c2 hp, set_app (by omega), set_app (by simp; omega)]
        rw [e, e3]
        clear e e3 h1
        generalize stW (roomN r) p ++ rest = X at *
        refine Goods.fin 2000 [.s 16 (some false) true true, .s 38 (some true) true true, .b true] mixed Tryd.func102 ?_
        show Yes _
        repeat' apply And.intro
        (all_goals first | rfl | assumption | trivial | omega | (simp [-List.getD_eq_getElem?_getD, h0, hl2, h1', h2, e2] <;> omega) | (simp (disch := omega) only [w64, wu64] <;> omega) | (simp (disch := omega) [-List.getD_eq_getElem?_getD, List.getD_cons_zero, List.getD_cons_succ, kCast_self, dfl_pair, dfl_int, w64, wu64, h0, hl2, h1', h2, e2] <;> omega) | (rw [Bool.eq_iff_iff]; simp (disch := omega) [-List.getD_eq_getElem?_getD, List.getD_cons_zero, List.getD_cons_succ, kCast_self, dfl_pair, dfl_int, w64, wu64, h0, hl2, h1', h2, e2] <;> omega) | (simp_all [-List.getD_eq_getElem?_getD] <;> omega))
      · obtain rfl : p = [] := List.eq_nil_of_length_eq_zero (by omega)
        have e : stF (roomN r) [] (a, b) = ([], (0, 0)) := by simp [stF, c3]
        rw [e]
        clear e
        generalize stW (roomN r) [] ++ rest = X at *
        refine Goods.fin 2000 [.s 16 (some false) true true, .s 38 (some true) true true, .b false] mixed Tryd.func102 ?_
        show Yes _
        repeat' apply And.intro
        (all_goals first | rfl | assumption | trivial | omega | (simp [-List.getD_eq_getElem?_getD, h0, hl2] <;> omega) | (simp (disch := omega) only [w64, wu64] <;> omega) | (simp (disch := omega) [-List.getD_eq_getElem?_getD, List.getD_cons_zero, List.getD_cons_succ, kCast_self, dfl_pair, dfl_int, w64, wu64, h0, hl2] <;> omega) | (rw [Bool.eq_iff_iff]; simp (disch := omega) [-List.getD_eq_getElem?_getD, List.getD_cons_zero, List.getD_cons_succ, kCast_self, dfl_pair, dfl_int, w64, wu64, h0, hl2] <;> omega) | (simp_all [-List.getD_eq_getElem?_getD] <;> omega))
    · have e : stF (roomN r) p (a, b) = (p, (0, 0)) := by simp [stF, c1, c3]
      rw [e]
      clear e
      generalize stW (roomN r) p ++ rest = X at *
      refine Goods.fin 2000 [.s 16 (some false) true true, .s 38 (some false) true true] mixed Tryd.func102 ?_
      show Yes _
      repeat' apply And.intro
      (all_goals first | rfl | assumption | trivial | omega | (simp [-List.getD_eq_getElem?_getD, h0, hl2] <;> omega) | (simp (disch := omega) only [w64, wu64] <;> omega) | (simp (disch := omega) [-List.getD_eq_getElem?_getD, List.getD_cons_zero, List.getD_cons_succ, kCast_self, dfl_pair, dfl_int, w64, wu64, h0, hl2] <;> omega) | (rw [Bool.eq_iff_iff]; simp (disch := omega) [-List.getD_eq_getElem?_getD, List.getD_cons_zero, List.getD_cons_succ, kCast_self, dfl_pair, dfl_int, w64, wu64, h0, hl2] <;> omega) | (simp_all [-List.getD_eq_getElem?_getD] <;> omega))
end Go.Proofs.YtnheodgffackoaaDoor.E
