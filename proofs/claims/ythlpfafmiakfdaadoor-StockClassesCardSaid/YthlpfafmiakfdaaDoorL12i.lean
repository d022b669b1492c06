/- The stock's laws: do, where blocks are filled in, and spilled. -/
import Derived.Test.YthlpfafmiakfdaaDoorL12h
namespace Go.Proofs.YthlpfafmiakfdaaDoor.E
set_option linter.unusedSimpArgs false
set_option linter.unusedVariables false
open Go
set_option maxRecDepth 100000
theorem Agr.push {c : Cnf} {k lim : Nat} {s : PS} {l : LP} (h : Agr c k lim s l) (b : Blk) : Agr c k (lim + 1) (pushS c k s b) (pushL c k l b) := by
  obtain ⟨p1, p2, p3⟩ := pushL_le (c := c) (k := k) (b := b) h.lle
  obtain ⟨q1, q2⟩ := pushS_good (c := c) (k := k) h.good b
  have hm := pushS_m (c := c) (k := k) (s := s) (b := b)
  have e : (pushL c k l b).pile = (pushS c k s b).pile := by rw [p3, q2, h.pile]; rfl
  refine ⟨q1, by rw [← LP.len p1, ← q1.len, e], p1, e, ?_, by have := h.few; omega⟩
  rw [q2]
  unfold pushP
  intro x hx
  split at hx
  · rename_i hb
    rcases List.mem_append.1 hx with hx | hx
    · exact h.inb x hx
    · simp only [List.mem_singleton] at hx; rw [hx]; exact hb.1
  · exact h.inb x hx
theorem Agr.fold {c : Cnf} {k : Nat} : ∀ (bs : List Blk) {lim : Nat} {s : PS} {l : LP}, Agr c k lim s l → Agr c k (lim + bs.length) (bs.foldl (pushS c k) s) (bs.foldl (pushL c k) l)
  | [], _, _, _, h => h
  | b :: bs, lim, s, l, h => by
    have := Agr.fold bs (h.push b)
    rw [List.length_cons, show lim + (bs.length + 1) = lim + 1 + bs.length by omega]
    exact this
theorem fill_same (super : Int) (m : Nat) : (belowB m 64).reverse.map (fun x : Nat => ((super : Int), (x : Int))) = fillL super (intsL (bitsL m)) := by
  show (bitsL m).reverse.map (fun x : Nat => ((super : Int), (x : Int))) = _
  unfold fillL intsL
  rw [← List.map_reverse, List.map_map]; rfl
theorem Agr.fill {c : Cnf} {k lim : Nat} {s : PS} {l : LP} (h : Agr c k lim s l) (super : Int) (m : Nat) : Agr c k (lim + 64) (fillS c k s super (intsL (bitsL m))) (fillLP c k super m 64 l) := by
  have h1 := Agr.fold (fillL super (intsL (bitsL m))) h
  unfold fillS fillLP
  rw [fill_same]
  refine ⟨h1.good, h1.lm, h1.lle, h1.pile, h1.inb, Nat.le_trans h1.few ?_⟩
  have : (fillL super (intsL (bitsL m))).length ≤ 64 := by
    unfold fillL; rw [List.length_map, List.length_reverse, intsL_len]; exact L_le m
  omega
theorem do_2 (own : Bool) (c : Cnf) (h : c.Ok) (pl : List PS) (hpl : pl.length = c.cl.length) (lps : List LP) (k : Nat) (s : PS) (hs : pl[k]? = some s) (l : LP) (x : List Value × List Value) (b1 b2 : Int) (m : Nat) (hm : m < 18446744073709551616) (hA : Agr c k 20000 s l) :
    Tri En 11 [cnfA 0 c, .ptr 1 0 0, .slice 2 0 c.cl.length, actA 2 k b1 b2 m] (doP own c pl lps k x l) (.bl true) (doQ own c (pl.set k (fillS c k s b1 (intsL (bitsL m)))) lps k x (fillLP c k b1 m 64 l)) := by
  have hk : k < pl.length := (List.getElem?_eq_some_iff.1 hs).1
  have l1 := h.l1
  have hfew := hA.few
  have hlm := hA.lm
  have h1 := rfill_tri own c h k b1 m hm l hA.lle (by omega)
  have h2 := fill_B c h pl hpl k s hs b1 m hA.good.le (by omega) hm
  have h3 := len_B c h (pl.set k (fillS c k s b1 (intsL (bitsL m)))) (by simp [hpl]) k _ (set_at hs)
  rw [set_id (set_at hs)] at h3
  have e1 := (hA.fill b1 m).lm
  generalize fillLP c k b1 m 64 l = l2 at *
  obtain ⟨xs2, m2⟩ := l2
  simp only at e1 h1
  subst e1
  generalize pl.set k (fillS c k s b1 (intsL (bitsL m))) = pl' at *
  generalize (fillS c k s b1 (intsL (bitsL m))).m = m' at *
  refine Tri.of Tryd.func11 rfl Tryd.call11 rfl ?_
  refine Goods.fin 2000 [.s 30 (some false) true true, .s 35 (some false) true true, .b false, .b false, .b true, .k 168 (.of h1), .c (.of h2), .k 219 (.of h3), .s 225 (some true) true true] mixed Tryd.func11 ?_
  show Yes _
  repeat' apply And.intro
  (all_goals first | rfl | assumption | trivial | omega | (simp [-List.getD_eq_getElem?_getD] <;> omega) | (simp (disch := omega) only [w64, wu64] <;> omega) | (simp (disch := omega) [-List.getD_eq_getElem?_getD, List.getD_cons_zero, List.getD_cons_succ, kCast_self, dfl_pair, dfl_int, w64, wu64] <;> omega) | (rw [Bool.eq_iff_iff]; simp (disch := omega) [-List.getD_eq_getElem?_getD, List.getD_cons_zero, List.getD_cons_succ, kCast_self, dfl_pair, dfl_int, w64, wu64] <;> omega) | (simp_all [-List.getD_eq_getElem?_getD] <;> omega))
theorem do_3a (own : Bool) (c : Cnf) (h : c.Ok) (pl : List PS) (hpl : pl.length = c.cl.length) (lps : List LP) (k : Nat) (s : PS) (hs : pl[k]? = some s) (l : LP) (x : List Value × List Value) (b1 b2 : Int) (m : Nat) (hA : Agr c k 20000 s l) (h0 : (s.m : Int) ≤ 2 * c.b) :
    Tri En 11 [cnfA 0 c, .ptr 1 0 0, .slice 2 0 c.cl.length, actA 3 k b1 b2 m] (doP own c pl lps k x l) (.bl true) (doQ own c pl lps k x l) := by
  have hk : k < pl.length := (List.getElem?_eq_some_iff.1 hs).1
  have l1 := h.l1
  have hfew := hA.few
  have hlm := hA.lm
  have h1 := rspill_no own c h l.xs l.m hA.lle (by omega) (by omega)
  have h2 := spill_B0 c h pl hpl k s hs (by omega) h0
  rw [set_id hs] at h2
  have h3 := len_B c h pl hpl k s hs
  rw [set_id hs, ← hlm] at h3
  refine Tri.of Tryd.func11 rfl Tryd.call11 rfl ?_
  refine Goods.fin 2000 [.s 30 (some false) true true, .s 35 (some false) true true, .b false, .b false, .b false, .b true, .k 186 (.of h1), .c (.of h2), .s 204 (some true) true true, .s 208 (some true) true true, .k 219 (.of h3), .s 225 (some true) true true] mixed Tryd.func11 ?_
  show Yes _
  repeat' apply And.intro
  (all_goals first | rfl | assumption | trivial | omega | (simp [-List.getD_eq_getElem?_getD] <;> omega) | (simp (disch := omega) only [w64, wu64] <;> omega) | (simp (disch := omega) [-List.getD_eq_getElem?_getD, List.getD_cons_zero, List.getD_cons_succ, kCast_self, dfl_pair, dfl_int, w64, wu64] <;> omega) | (rw [Bool.eq_iff_iff]; simp (disch := omega) [-List.getD_eq_getElem?_getD, List.getD_cons_zero, List.getD_cons_succ, kCast_self, dfl_pair, dfl_int, w64, wu64] <;> omega) | (simp_all [-List.getD_eq_getElem?_getD] <;> omega))
theorem do_3b (own : Bool) (c : Cnf) (h : c.Ok) (S : Nat) (hS : (S : Int) = c.s) (pl : List PS) (hpl : pl.length = c.cl.length) (lps : List LP) (k : Nat) (s : PS) (hs : pl[k]? = some s) (l : LP) (x : List Value × List Value) (b1 b2 : Int) (m : Nat) (hA : Agr c k 20000 s l) (h0 : ¬ (s.m : Int) ≤ 2 * c.b) :
    Tri En 11 [cnfA 0 c, .ptr 1 0 0, .slice 2 0 c.cl.length, actA 3 k b1 b2 m] (doP own c pl lps k x l) (.bl true) (doQ own c (pl.set k (spillS s (bestB s.pile S : Nat))) lps k x ⟨keepL (bestB s.pile S : Nat) s.pile, (keepL (bestB s.pile S : Nat) s.pile).length⟩) := by
  have hk : k < pl.length := (List.getElem?_eq_some_iff.1 hs).1
  have l1 := h.l1
  have b0 := h.b0
  have hfew := hA.few
  have hlm := hA.lm
  have hlen := hA.good.len
  have hne : s.pile ≠ [] := fun hh => by rw [hh] at hlen; simp at hlen; omega
  have hbest := bestB_best hne (S := S) fun b hb => ⟨(hA.inb b hb).1, by have := (hA.inb b hb).2.1; omega⟩
  have h1 := rspill_yes own c h S hS l.xs l.m hA.lle (by omega) (by omega)
  rw [show l.xs.take l.m = s.pile from hA.pile] at h1
  generalize hsup : bestB s.pile S = sup at *
  have h2 := spill_B1 c h pl hpl k s hs (sup : Nat) hA.good.le (by omega) (by omega) hbest (fun b hb => (hA.inb b hb).1)
  have hmask : spillM s (sup : Nat) = setI (ofL s.pile (sup : Nat)) := mask_same (sup : Nat) s.es s.pile
  rw [hmask] at h2
  have h3 := len_B c h (pl.set k (spillS s (sup : Nat))) (by simp [hpl]) k _ (set_at hs)
  rw [set_id (set_at hs)] at h3
  have e1 : (spillS s (sup : Nat)).m = (keepL (sup : Nat) s.pile).length := rfl
  rw [e1] at h3
  generalize setI (ofL s.pile (sup : Nat)) = M at *
  generalize pl.set k (spillS s (sup : Nat)) = pl' at *
  generalize keepL ((sup : Nat) : Int) s.pile = kp at *
  refine Tri.of Tryd.func11 rfl Tryd.call11 rfl ?_
  refine Goods.fin 2000 [.s 30 (some false) true true, .s 35 (some false) true true, .b false, .b false, .b false, .b true, .k 186 (.of h1), .c (.of h2), .s 204 (some true) true true, .s 208 (some true) true true, .k 219 (.of h3), .s 225 (some true) true true] mixed Tryd.func11 ?_
  show Yes _
  repeat' apply And.intro
  (all_goals first | rfl | assumption | trivial | omega | (simp [-List.getD_eq_getElem?_getD] <;> omega) | (simp (disch := omega) only [w64, wu64] <;> omega) | (simp (disch := omega) [-List.getD_eq_getElem?_getD, List.getD_cons_zero, List.getD_cons_succ, kCast_self, dfl_pair, dfl_int, w64, wu64] <;> omega) | (rw [Bool.eq_iff_iff]; simp (disch := omega) [-List.getD_eq_getElem?_getD, List.getD_cons_zero, List.getD_cons_succ, kCast_self, dfl_pair, dfl_int, w64, wu64] <;> omega) | (simp_all [-List.getD_eq_getElem?_getD] <;> omega))
end Go.Proofs.YthlpfafmiakfdaaDoor.E
