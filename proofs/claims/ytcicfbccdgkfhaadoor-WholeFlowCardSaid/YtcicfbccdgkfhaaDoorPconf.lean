/- Package conf: the contract of each function. -/
import Derived.Test.YtcicfbccdgkfhaaDoorEn
namespace Go.Proofs.YtcicfbccdgkfhaaDoor.E
set_option linter.unusedSimpArgs false
set_option linter.unusedVariables false
open Go
set_option maxRecDepth 100000

theorem clone_i64 (own : Bool) (xs : List Int) (off n : Nat) (h : off + n ≤ xs.length) (hn : n ≤ 17179869184) : Tri En 86 [.slice 0 off n] [.tab own (.int .i64) xs] (.slice 1 0 n) [.tab own (.int .i64) xs, .tab true (.int .i64) ((xs.drop off).take n)] := by
  rcases Nat.eq_zero_or_pos n with h0 | h0
  · subst h0
    refine Tri.slice0 (pre := []) (post := []) ?_ ?_
    · refine Tri.of Tryd.func86 rfl Tryd.call86 rfl ?_
      refine Goods.fin 2000 [] mixed Tryd.func86 ?_
      show Yes _
      repeat' apply And.intro
      (all_goals first | rfl | assumption | trivial | omega | (simp [-List.getD_eq_getElem?_getD] <;> omega) | (simp (disch := omega) only [w64, wu64] <;> omega) | (simp (disch := omega) [-List.getD_eq_getElem?_getD, List.getD_cons_zero, List.getD_cons_succ, kCast_self, dfl_pair, dfl_int, w64, wu64] <;> omega) | (rw [Bool.eq_iff_iff]; simp (disch := omega) [-List.getD_eq_getElem?_getD, List.getD_cons_zero, List.getD_cons_succ, kCast_self, dfl_pair, dfl_int, w64, wu64] <;> omega) | (simp_all [-List.getD_eq_getElem?_getD] <;> omega))
    · refine Tri.of Tryd.func86 rfl Tryd.call86 rfl ?_
      refine Goods.fin 2000 [] mixed Tryd.func86 ?_
      show Yes _
      repeat' apply And.intro
      (all_goals first | rfl | assumption | trivial | omega | (simp [-List.getD_eq_getElem?_getD] <;> omega) | (simp (disch := omega) only [w64, wu64] <;> omega) | (simp (disch := omega) [-List.getD_eq_getElem?_getD, List.getD_cons_zero, List.getD_cons_succ, kCast_self, dfl_pair, dfl_int, w64, wu64] <;> omega) | (rw [Bool.eq_iff_iff]; simp (disch := omega) [-List.getD_eq_getElem?_getD, List.getD_cons_zero, List.getD_cons_succ, kCast_self, dfl_pair, dfl_int, w64, wu64] <;> omega) | (simp_all [-List.getD_eq_getElem?_getD] <;> omega))
  · refine Tri.of Tryd.func86 rfl Tryd.call86 rfl ?_
    refine Goods.fin 2000 [.s 7 none true false] mixed Tryd.func86 ?_
    show Yes _
    repeat' apply And.intro
    (all_goals first | rfl | assumption | trivial | omega | (simp [-List.getD_eq_getElem?_getD] <;> omega) | (simp (disch := omega) only [w64, wu64] <;> omega) | (simp (disch := omega) [-List.getD_eq_getElem?_getD, List.getD_cons_zero, List.getD_cons_succ, kCast_self, dfl_pair, dfl_int, w64, wu64] <;> omega) | (rw [Bool.eq_iff_iff]; simp (disch := omega) [-List.getD_eq_getElem?_getD, List.getD_cons_zero, List.getD_cons_succ, kCast_self, dfl_pair, dfl_int, w64, wu64] <;> omega) | (simp_all [-List.getD_eq_getElem?_getD] <;> omega))
/-- A way that a system may be. -/
structure Cnf where
  w : Int
  s : Int
  b : Int
  t : Int
  cl : List Int
def cnfA (j : Nat) (c : Cnf) : AV := .agg [.int .i64 c.w, .int .i64 c.s, .int .i64 c.b, .int .i64 c.t, .slice j 0 c.cl.length]
def okN (last n : Int) : Prop := last < n ∧ n ≤ 512 ∧ n % 16 = 0
instance (last n : Int) : Decidable (okN last n) := by unfold okN; infer_instance
def okL (last : Int) : List Int → Prop
  | [] => True
  | n :: l => okN last n ∧ okL n l
instance okL_dec : ∀ (l : List Int) (last : Int), Decidable (okL last l)
  | [], _ => .isTrue trivial
  | n :: l, last => @instDecidableAnd (okN last n) (okL n l) _ (okL_dec l n)
instance (last : Int) (l : List Int) : Decidable (okL last l) := okL_dec l last
structure Cnf.Small (c : Cnf) : Prop where
  w0 : 1 ≤ c.w
  w1 : c.w ≤ 64
  s0 : 1 ≤ c.s
  s1 : c.s ≤ 64
  b0 : 1 ≤ c.b
  b1 : c.b ≤ 64
  t0 : 0 ≤ c.t
  t1 : c.t ≤ 8
structure Cnf.Ok (c : Cnf) : Prop extends c.Small where
  l0 : 1 ≤ c.cl.length
  l1 : c.cl.length ≤ 16
  ok : okL 0 c.cl
theorem okL_drop {l : List Int} {k : Nat} {last : Int} (h : k < l.length) : okL last (l.drop k) ↔ okN last (l.getD k 0) ∧ okL (l.getD k 0) (l.drop (k + 1)) := by
  rw [List.drop_eq_getElem_cons h]
  simp [okL, List.getD, h]
theorem in_yes (x a b : Int) (h : a ≤ x) (h' : x ≤ b) : Tri En 85 [.int .i64 x, .int .i64 a, .int .i64 b] [] (.bl true) [] := by
  refine Tri.of Tryd.func85 rfl Tryd.call85 rfl ?_
  refine Goods.fin 2000 [.s 9 (some true) true true] mixed Tryd.func85 ?_
  show Yes _
  repeat' apply And.intro
  (all_goals first | rfl | assumption | trivial | omega | (simp [-List.getD_eq_getElem?_getD] <;> omega) | (simp (disch := omega) only [w64, wu64] <;> omega) | (simp (disch := omega) [-List.getD_eq_getElem?_getD, List.getD_cons_zero, List.getD_cons_succ, kCast_self, dfl_pair, dfl_int, w64, wu64] <;> omega) | (rw [Bool.eq_iff_iff]; simp (disch := omega) [-List.getD_eq_getElem?_getD, List.getD_cons_zero, List.getD_cons_succ, kCast_self, dfl_pair, dfl_int, w64, wu64] <;> omega) | (simp_all [-List.getD_eq_getElem?_getD] <;> omega))
theorem in_no (x a b : Int) (h : ¬ (a ≤ x ∧ x ≤ b)) : Tri En 85 [.int .i64 x, .int .i64 a, .int .i64 b] [] (.bl false) [] := by
  refine Tri.of Tryd.func85 rfl Tryd.call85 rfl ?_
  by_cases c : a ≤ x
  · refine Goods.fin 2000 [.s 9 (some true) true true] mixed Tryd.func85 ?_
    show Yes _
    repeat' apply And.intro
    (all_goals first | rfl | assumption | trivial | omega | (simp [-List.getD_eq_getElem?_getD] <;> omega) | (simp (disch := omega) only [w64, wu64] <;> omega) | (simp (disch := omega) [-List.getD_eq_getElem?_getD, List.getD_cons_zero, List.getD_cons_succ, kCast_self, dfl_pair, dfl_int, w64, wu64] <;> omega) | (rw [Bool.eq_iff_iff]; simp (disch := omega) [-List.getD_eq_getElem?_getD, List.getD_cons_zero, List.getD_cons_succ, kCast_self, dfl_pair, dfl_int, w64, wu64] <;> omega) | (simp_all [-List.getD_eq_getElem?_getD] <;> omega))
  · refine Goods.fin 2000 [.s 9 (some false) true true] mixed Tryd.func85 ?_
    show Yes _
    repeat' apply And.intro
    (all_goals first | rfl | assumption | trivial | omega | (simp [-List.getD_eq_getElem?_getD] <;> omega) | (simp (disch := omega) only [w64, wu64] <;> omega) | (simp (disch := omega) [-List.getD_eq_getElem?_getD, List.getD_cons_zero, List.getD_cons_succ, kCast_self, dfl_pair, dfl_int, w64, wu64] <;> omega) | (rw [Bool.eq_iff_iff]; simp (disch := omega) [-List.getD_eq_getElem?_getD, List.getD_cons_zero, List.getD_cons_succ, kCast_self, dfl_pair, dfl_int, w64, wu64] <;> omega) | (simp_all [-List.getD_eq_getElem?_getD] <;> omega))
noncomputable abbrev gCheck (own : Bool) (c : Cnf) (v : Int) : Frm := ⟨En, 54, Tryd.f54.ntmps, [.tab own (.int .i64) c.cl], .int .i64 v, [.tab own (.int .i64) c.cl]⟩
theorem check_0 (own : Bool) (c : Cnf) (hc : c.cl.length ≤ 16) : ∀ (j k : Nat) (last : Int), k + j = c.cl.length → Goods (gCheck own c (if okL last (c.cl.drop k) then 0 else 1)) ⟨.none, lp Tryd.f54 0,
    [(3, .int .i64 last), (36, .slice 0 0 c.cl.length), (37, .int .i64 c.cl.length), (38, .int .i64 k)], hp [.tab own (.int .i64) c.cl]⟩
  | 0, k, last, h => by
    obtain rfl : k = c.cl.length := by omega
    rw [List.drop_length, if_pos (show okL last [] from trivial)]
    refine Goods.fin 2000 [.b false] mixed Tryd.func54 ?_
    show Yes _
    repeat' apply And.intro
    (all_goals first | rfl | assumption | trivial | omega | (simp [-List.getD_eq_getElem?_getD] <;> omega) | (simp (disch := omega) only [w64, wu64] <;> omega) | (simp (disch := omega) [-List.getD_eq_getElem?_getD, List.getD_cons_zero, List.getD_cons_succ, kCast_self, dfl_pair, dfl_int, w64, wu64] <;> omega) | (rw [Bool.eq_iff_iff]; simp (disch := omega) [-List.getD_eq_getElem?_getD, List.getD_cons_zero, List.getD_cons_succ, kCast_self, dfl_pair, dfl_int, w64, wu64] <;> omega) | (simp_all [-List.getD_eq_getElem?_getD] <;> omega))
  | j + 1, k, last, h => by
    have ih := check_0 own c hc j (k + 1) (c.cl.getD k 0) (by omega)
    have hk := okL_drop (last := last) (show k < c.cl.length by omega)
    obtain ⟨n, hn⟩ : ∃ n, c.cl.getD k 0 = n := ⟨_, rfl⟩
    rw [hn] at ih hk
    by_cases c1 : last < n
    · by_cases c2 : n ≤ 512
      · by_cases c3 : n % 16 = 0
        · have e : (if okL last (c.cl.drop k) then (0 : Int) else 1) = if okL (n) (c.cl.drop (k + 1)) then 0 else 1 := by
            by_cases q : okL n (c.cl.drop (k + 1))
            · rw [if_pos q, if_pos (hk.2 ⟨⟨c1, c2, c3⟩, q⟩)]
            · rw [if_neg q, if_neg (fun x => q (hk.1 x).2)]
          rw [e]
          have e2 : Int.tmod (n) 16 = 0 := Int.tmod_eq_zero_of_dvd (Int.dvd_of_emod_eq_zero c3)
          refine Goods.to 2000 [.b true, .s 44 (some false) true true, .s 47 (some false) true true, .b false, .l, .stop] mixed (ih) (by kernel_rfl) ?_
          show Yes _
          repeat' apply And.intro
          (all_goals first | rfl | assumption | trivial | omega | (simp [-List.getD_eq_getElem?_getD, hn, e2] <;> omega) | (simp (disch := omega) only [w64, wu64] <;> omega) | (simp (disch := omega) [-List.getD_eq_getElem?_getD, List.getD_cons_zero, List.getD_cons_succ, kCast_self, dfl_pair, dfl_int, w64, wu64, hn, e2] <;> omega) | (rw [Bool.eq_iff_iff]; simp (disch := omega) [-List.getD_eq_getElem?_getD, List.getD_cons_zero, List.getD_cons_succ, kCast_self, dfl_pair, dfl_int, w64, wu64, hn, e2] <;> omega) | (simp_all [-List.getD_eq_getElem?_getD] <;> omega))
        · rw [if_neg (fun x => c3 (hk.1 x).1.2.2)]
          have e2 : Int.tmod (n) 16 ≠ 0 := fun x => c3 (Int.emod_eq_zero_of_dvd (Int.dvd_of_tmod_eq_zero x))
          refine Goods.fin 2000 [.b true, .s 44 (some false) true true, .s 47 (some false) true true, .b true] mixed Tryd.func54 ?_
          show Yes _
          repeat' apply And.intro
          (all_goals first | rfl | assumption | trivial | omega | (simp [-List.getD_eq_getElem?_getD, hn, e2] <;> omega) | (simp (disch := omega) only [w64, wu64] <;> omega) | (simp (disch := omega) [-List.getD_eq_getElem?_getD, List.getD_cons_zero, List.getD_cons_succ, kCast_self, dfl_pair, dfl_int, w64, wu64, hn, e2] <;> omega) | (rw [Bool.eq_iff_iff]; simp (disch := omega) [-List.getD_eq_getElem?_getD, List.getD_cons_zero, List.getD_cons_succ, kCast_self, dfl_pair, dfl_int, w64, wu64, hn, e2] <;> omega) | (simp_all [-List.getD_eq_getElem?_getD] <;> omega))
      · rw [if_neg (fun x => c2 (hk.1 x).1.2.1)]
        refine Goods.fin 2000 [.b true, .s 44 (some false) true true, .s 47 (some true) true true] mixed Tryd.func54 ?_
        show Yes _
        repeat' apply And.intro
        (all_goals first | rfl | assumption | trivial | omega | (simp [-List.getD_eq_getElem?_getD, hn] <;> omega) | (simp (disch := omega) only [w64, wu64] <;> omega) | (simp (disch := omega) [-List.getD_eq_getElem?_getD, List.getD_cons_zero, List.getD_cons_succ, kCast_self, dfl_pair, dfl_int, w64, wu64, hn] <;> omega) | (rw [Bool.eq_iff_iff]; simp (disch := omega) [-List.getD_eq_getElem?_getD, List.getD_cons_zero, List.getD_cons_succ, kCast_self, dfl_pair, dfl_int, w64, wu64, hn] <;> omega) | (simp_all [-List.getD_eq_getElem?_getD] <;> omega))
    · rw [if_neg (fun x => c1 (hk.1 x).1.1)]
      refine Goods.fin 2000 [.b true, .s 44 (some true) true true] mixed Tryd.func54 ?_
      show Yes _
      repeat' apply And.intro
      (all_goals first | rfl | assumption | trivial | omega | (simp [-List.getD_eq_getElem?_getD, hn] <;> omega) | (simp (disch := omega) only [w64, wu64] <;> omega) | (simp (disch := omega) [-List.getD_eq_getElem?_getD, List.getD_cons_zero, List.getD_cons_succ, kCast_self, dfl_pair, dfl_int, w64, wu64, hn] <;> omega) | (rw [Bool.eq_iff_iff]; simp (disch := omega) [-List.getD_eq_getElem?_getD, List.getD_cons_zero, List.getD_cons_succ, kCast_self, dfl_pair, dfl_int, w64, wu64, hn] <;> omega) | (simp_all [-List.getD_eq_getElem?_getD] <;> omega))
theorem check_ok (own : Bool) (c : Cnf) (h : c.Ok) : Tri En 54 [cnfA 0 c] [.tab own (.int .i64) c.cl] (.int .i64 0) [.tab own (.int .i64) c.cl] := by
  have ih := check_0 own c h.l1 c.cl.length 0 0 (by omega)
  rw [List.drop_zero, if_pos h.ok] at ih
  have i1 := in_yes c.w 1 64 h.w0 h.w1
  have i2 := in_yes c.s 1 64 h.s0 h.s1
  have i3 := in_yes c.b 1 64 h.b0 h.b1
  have i4 := in_yes c.t 0 8 h.t0 h.t1
  have i5 := in_yes c.cl.length 1 16 (by have := h.l0; omega) (by have := h.l1; omega)
  refine Tri.of Tryd.func54 rfl Tryd.call54 rfl ?_
  refine Goods.to 2000 [.c (.of i1), .c (.of i2), .c (.of i3), .c (.of i4), .c (.of i5), .l, .stop] mixed (ih) (by kernel_rfl) ?_
  show Yes _
  repeat' apply And.intro
  (all_goals first | rfl | assumption | trivial | omega | (simp [-List.getD_eq_getElem?_getD] <;> omega) | (simp (disch := omega) only [w64, wu64] <;> omega) | (simp (disch := omega) [-List.getD_eq_getElem?_getD, List.getD_cons_zero, List.getD_cons_succ, kCast_self, dfl_pair, dfl_int, w64, wu64] <;> omega) | (rw [Bool.eq_iff_iff]; simp (disch := omega) [-List.getD_eq_getElem?_getD, List.getD_cons_zero, List.getD_cons_succ, kCast_self, dfl_pair, dfl_int, w64, wu64] <;> omega) | (simp_all [-List.getD_eq_getElem?_getD] <;> omega))
/-- All is well but the classes. -/
theorem check_small (own : Bool) (c : Cnf) (h : c.Small) (hl : ¬ (1 ≤ c.cl.length ∧ c.cl.length ≤ 16)) : Tri En 54 [cnfA 0 c] [.tab own (.int .i64) c.cl] (.int .i64 1) [.tab own (.int .i64) c.cl] := by
  have i1 := in_yes c.w 1 64 h.w0 h.w1
  have i2 := in_yes c.s 1 64 h.s0 h.s1
  have i3 := in_yes c.b 1 64 h.b0 h.b1
  have i4 := in_yes c.t 0 8 h.t0 h.t1
  have i5 := in_no c.cl.length 1 16 (by omega)
  refine Tri.of Tryd.func54 rfl Tryd.call54 rfl ?_
  refine Goods.fin 2000 [.c (.of i1), .c (.of i2), .c (.of i3), .c (.of i4), .c (.of i5)] mixed Tryd.func54 ?_
  show Yes _
  repeat' apply And.intro
  (all_goals first | rfl | assumption | trivial | omega | (simp [-List.getD_eq_getElem?_getD] <;> omega) | (simp (disch := omega) only [w64, wu64] <;> omega) | (simp (disch := omega) [-List.getD_eq_getElem?_getD, List.getD_cons_zero, List.getD_cons_succ, kCast_self, dfl_pair, dfl_int, w64, wu64] <;> omega) | (rw [Bool.eq_iff_iff]; simp (disch := omega) [-List.getD_eq_getElem?_getD, List.getD_cons_zero, List.getD_cons_succ, kCast_self, dfl_pair, dfl_int, w64, wu64] <;> omega) | (simp_all [-List.getD_eq_getElem?_getD] <;> omega))
theorem check_nil : Tri En 54 [.agg [.int .i64 0, .int .i64 0, .int .i64 0, .int .i64 0, .nilslice]] [] (.int .i64 1) [] := by
  have i1 := in_no 0 1 64 (by omega)
  refine Tri.of Tryd.func54 rfl Tryd.call54 rfl ?_
  refine Goods.fin 2000 [.c (.of i1)] mixed Tryd.func54 ?_
  show Yes _
  repeat' apply And.intro
  (all_goals first | rfl | assumption | trivial | omega | (simp [-List.getD_eq_getElem?_getD] <;> omega) | (simp (disch := omega) only [w64, wu64] <;> omega) | (simp (disch := omega) [-List.getD_eq_getElem?_getD, List.getD_cons_zero, List.getD_cons_succ, kCast_self, dfl_pair, dfl_int, w64, wu64] <;> omega) | (rw [Bool.eq_iff_iff]; simp (disch := omega) [-List.getD_eq_getElem?_getD, List.getD_cons_zero, List.getD_cons_succ, kCast_self, dfl_pair, dfl_int, w64, wu64] <;> omega) | (simp_all [-List.getD_eq_getElem?_getD] <;> omega))
theorem conf_copy (own : Bool) (c : Cnf) (h : c.cl.length ≤ 17179869184) : Tri En 55 [cnfA 0 c] [.tab own (.int .i64) c.cl] (cnfA 1 c) [.tab own (.int .i64) c.cl, .tab true (.int .i64) c.cl] := by
  have hc := clone_i64 own c.cl 0 c.cl.length (by omega) h
  rw [List.drop_zero, List.take_length] at hc
  refine Tri.of Tryd.func55 rfl Tryd.call55 rfl ?_
  refine Goods.fin 2000 [.c (.of hc)] mixed Tryd.func55 ?_
  show Yes _
  repeat' apply And.intro
  (all_goals first | rfl | assumption | trivial | omega | (simp [-List.getD_eq_getElem?_getD] <;> omega) | (simp (disch := omega) only [w64, wu64] <;> omega) | (simp (disch := omega) [-List.getD_eq_getElem?_getD, List.getD_cons_zero, List.getD_cons_succ, kCast_self, dfl_pair, dfl_int, w64, wu64] <;> omega) | (rw [Bool.eq_iff_iff]; simp (disch := omega) [-List.getD_eq_getElem?_getD, List.getD_cons_zero, List.getD_cons_succ, kCast_self, dfl_pair, dfl_int, w64, wu64] <;> omega) | (simp_all [-List.getD_eq_getElem?_getD] <;> omega))
theorem conf_record (a b : Int) (ha : 0 ≤ a) (ha' : a ≤ 1000000) (hb : 0 ≤ b) (hb' : b ≤ 1000000) : Tri En 100 [.int .i64 a, .int .i64 b] [] (.int .i64 (a + 3 * b)) [] := by
  refine Tri.of Tryd.func100 rfl Tryd.call100 rfl ?_
  refine Goods.fin 2000 [] mixed Tryd.func100 ?_
  show Yes _
  repeat' apply And.intro
  (all_goals first | rfl | assumption | trivial | omega | (simp [-List.getD_eq_getElem?_getD] <;> omega) | (simp (disch := omega) only [w64, wu64] <;> omega) | (simp (disch := omega) [-List.getD_eq_getElem?_getD, List.getD_cons_zero, List.getD_cons_succ, kCast_self, dfl_pair, dfl_int, w64, wu64] <;> omega) | (rw [Bool.eq_iff_iff]; simp (disch := omega) [-List.getD_eq_getElem?_getD, List.getD_cons_zero, List.getD_cons_succ, kCast_self, dfl_pair, dfl_int, w64, wu64] <;> omega) | (simp_all [-List.getD_eq_getElem?_getD] <;> omega))
def attN (a b : Int) : Int := 2 * (a + 3 * b) + 4 * b + 6
theorem conf_attempt (a b : Int) (ha : 0 ≤ a) (ha' : a ≤ 1000000) (hb : 0 ≤ b) (hb' : b ≤ 1000000) : Tri En 82 [.int .i64 a, .int .i64 b] [] (.int .i64 (attN a b)) [] := by
  have h1 := conf_record a b ha ha' hb hb'
  unfold attN
  refine Tri.of Tryd.func82 rfl Tryd.call82 rfl ?_
  refine Goods.fin 2000 [.c (.of h1)] mixed Tryd.func82 ?_
  show Yes _
  repeat' apply And.intro
  (all_goals first | rfl | assumption | trivial | omega | (simp [-List.getD_eq_getElem?_getD] <;> omega) | (simp (disch := omega) only [w64, wu64] <;> omega) | (simp (disch := omega) [-List.getD_eq_getElem?_getD, List.getD_cons_zero, List.getD_cons_succ, kCast_self, dfl_pair, dfl_int, w64, wu64] <;> omega) | (rw [Bool.eq_iff_iff]; simp (disch := omega) [-List.getD_eq_getElem?_getD, List.getD_cons_zero, List.getD_cons_succ, kCast_self, dfl_pair, dfl_int, w64, wu64] <;> omega) | (simp_all [-List.getD_eq_getElem?_getD] <;> omega))
theorem conf_call (a b t : Int) (ha : 0 ≤ a) (ha' : a ≤ 1000000) (hb : 0 ≤ b) (hb' : b ≤ 1000000) (ht : 0 ≤ t) (ht' : t ≤ 1000) : Tri En 46 [.int .i64 a, .int .i64 b, .int .i64 t] [] (.int .i64 ((t + 2) * attN a b + 6)) [] := by
  have h1 := conf_attempt a b ha ha' hb hb'
  have h2 : 0 ≤ attN a b ∧ attN a b ≤ 100000000 := by unfold attN; omega
  have h3 : 0 ≤ (t + 2) * attN a b ∧ (t + 2) * attN a b ≤ 1002 * 100000000 := ⟨Int.mul_nonneg (by omega) h2.1, Int.mul_le_mul (by omega) h2.2 h2.1 (by omega)⟩
  have e : IntKind.i64.wrap (t + 2) = t + 2 := w64 (by omega) (by omega)
  have e2 : IntKind.i64.wrap ((t + 2) * attN a b) = (t + 2) * attN a b := w64 (by omega) (by omega)
  refine Tri.of Tryd.func46 rfl Tryd.call46 rfl ?_
  refine Goods.fin 2000 [.c (.of h1)] mixed Tryd.func46 ?_
  show Yes _
  repeat' apply And.intro
  (all_goals first | rfl | assumption | trivial | omega | (simp [-List.getD_eq_getElem?_getD, e, e2] <;> omega) | (simp (disch := omega) only [w64, wu64] <;> omega) | (simp (disch := omega) [-List.getD_eq_getElem?_getD, List.getD_cons_zero, List.getD_cons_succ, kCast_self, dfl_pair, dfl_int, w64, wu64, e, e2] <;> omega) | (rw [Bool.eq_iff_iff]; simp (disch := omega) [-List.getD_eq_getElem?_getD, List.getD_cons_zero, List.getD_cons_succ, kCast_self, dfl_pair, dfl_int, w64, wu64, e, e2] <;> omega) | (simp_all [-List.getD_eq_getElem?_getD] <;> omega))
theorem conf_state (own : Bool) (c : Cnf) (h0 : 0 ≤ c.s) (h1 : c.s ≤ 64) : Tri En 68 [cnfA 0 c] [.tab own (.int .i64) c.cl] (.int .i64 (2 * c.s)) [.tab own (.int .i64) c.cl] := by
  refine Tri.of Tryd.func68 rfl Tryd.call68 rfl ?_
  refine Goods.fin 2000 [] mixed Tryd.func68 ?_
  show Yes _
  repeat' apply And.intro
  (all_goals first | rfl | assumption | trivial | omega | (simp [-List.getD_eq_getElem?_getD] <;> omega) | (simp (disch := omega) only [w64, wu64] <;> omega) | (simp (disch := omega) [-List.getD_eq_getElem?_getD, List.getD_cons_zero, List.getD_cons_succ, kCast_self, dfl_pair, dfl_int, w64, wu64] <;> omega) | (rw [Bool.eq_iff_iff]; simp (disch := omega) [-List.getD_eq_getElem?_getD, List.getD_cons_zero, List.getD_cons_succ, kCast_self, dfl_pair, dfl_int, w64, wu64] <;> omega) | (simp_all [-List.getD_eq_getElem?_getD] <;> omega))
end Go.Proofs.YtcicfbccdgkfhaaDoor.E
