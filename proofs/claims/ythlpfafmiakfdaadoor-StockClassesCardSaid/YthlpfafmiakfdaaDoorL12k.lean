/- StockDoes: the law's contract. -/
import Derived.Test.YthlpfafmiakfdaaDoorL12j
namespace Go.Proofs.YthlpfafmiakfdaaDoor.E
set_option linter.unusedSimpArgs false
set_option linter.unusedVariables false
open Go
set_option maxRecDepth 100000
noncomputable abbrev gSame (xs ys : List Blk) : Frm := ⟨En, 12, Tryd.f12.ntmps, [.tab true BlkK xs, .tab true BlkK ys], .bl true, [.tab true BlkK xs, .tab true BlkK ys]⟩
theorem same_0 (xs ys : List Blk) (n : Nat) (hs : n ≤ 1000000) (hx : n ≤ xs.length) (hy : n ≤ ys.length) (hat : ∀ i, i < n → bAt xs i = bAt ys i) : ∀ (j i : Nat), i + j = n →
    Goods (gSame xs ys) ⟨.none, lp Tryd.f12 0, [(0, .slice 0 0 n), (1, .slice 1 0 n), (12, .int .i64 n), (13, .int .i64 i)], hp [.tab true BlkK xs, .tab true BlkK ys]⟩
  | 0, i, hi => by
    refine Goods.fin 2000 [.b false] mixed Tryd.func12 ?_
    show Yes _
    repeat' apply And.intro
    (all_goals first | rfl | assumption | trivial | omega | (simp [-List.getD_eq_getElem?_getD] <;> omega) | (simp (disch := omega) only [w64, wu64] <;> omega) | (simp (disch := omega) [-List.getD_eq_getElem?_getD, List.getD_cons_zero, List.getD_cons_succ, kCast_self, dfl_pair, dfl_int, w64, wu64] <;> omega) | (rw [Bool.eq_iff_iff]; simp (disch := omega) [-List.getD_eq_getElem?_getD, List.getD_cons_zero, List.getD_cons_succ, kCast_self, dfl_pair, dfl_int, w64, wu64] <;> omega) | (simp_all [-List.getD_eq_getElem?_getD] <;> omega))
  | j + 1, i, hi => by
    have ih := same_0 xs ys n hs hx hy hat j (i + 1) (by omega)
    have hb := hat i (by omega)
    have g2 : (!((bAt xs i).1 == (bAt ys i).1 && ((bAt xs i).2 == (bAt ys i).2 && true))) = false := by rw [hb]; simp
    refine Goods.to 2000 [.b true, .b false, .l, .stop] mixed (ih) (by kernel_rfl) ?_
    show Yes _
    repeat' apply And.intro
    all_goals try exact g2
    (all_goals first | rfl | assumption | trivial | omega | (simp [-List.getD_eq_getElem?_getD] <;> omega) | (simp (disch := omega) only [w64, wu64] <;> omega) | (simp (disch := omega) [-List.getD_eq_getElem?_getD, List.getD_cons_zero, List.getD_cons_succ, kCast_self, dfl_pair, dfl_int, w64, wu64] <;> omega) | (rw [Bool.eq_iff_iff]; simp (disch := omega) [-List.getD_eq_getElem?_getD, List.getD_cons_zero, List.getD_cons_succ, kCast_self, dfl_pair, dfl_int, w64, wu64] <;> omega) | (simp_all [-List.getD_eq_getElem?_getD] <;> omega))
theorem same_tri (xs ys : List Blk) (n : Nat) (hs : n ≤ 1000000) (hx : n ≤ xs.length) (hy : n ≤ ys.length) (hat : xs.take n = ys.take n) : Tri En 12 [.slice 0 0 n, .slice 1 0 n] [.tab true BlkK xs, .tab true BlkK ys] (.bl true) [.tab true BlkK xs, .tab true BlkK ys] := by
  have ih := same_0 xs ys n hs hx hy (fun i hi => by
    have e1 : (xs.take n)[i]? = xs[i]? := List.getElem?_take_of_lt hi
    have e2 : (ys.take n)[i]? = ys[i]? := List.getElem?_take_of_lt hi
    simp only [bAt, List.getD_eq_getElem?_getD, ← e1, ← e2, hat]) n 0 (by omega)
  refine Tri.of Tryd.func12 rfl Tryd.call12 rfl ?_
  refine Goods.to 2000 [.b false, .l, .stop] mixed (ih) (by kernel_rfl) ?_
  show Yes _
  repeat' apply And.intro
  (all_goals first | rfl | assumption | trivial | omega | (simp [-List.getD_eq_getElem?_getD] <;> omega) | (simp (disch := omega) only [w64, wu64] <;> omega) | (simp (disch := omega) [-List.getD_eq_getElem?_getD, List.getD_cons_zero, List.getD_cons_succ, kCast_self, dfl_pair, dfl_int, w64, wu64] <;> omega) | (rw [Bool.eq_iff_iff]; simp (disch := omega) [-List.getD_eq_getElem?_getD, List.getD_cons_zero, List.getD_cons_succ, kCast_self, dfl_pair, dfl_int, w64, wu64] <;> omega) | (simp_all [-List.getD_eq_getElem?_getD] <;> omega))
abbrev ActK : K := .pair (.int .i64) (.pair (.int .i64) (.pair (.pair (.int .i64) (.int .i64)) (.int .u64)))
abbrev ActT := Int × Int × (Int × Int) × Int
/-- All classes' blocks, and all piles. -/
structure AllA (c : Cnf) (lim : Nat) (pl : List PS) (lps : List LP) : Prop where
  lp : pl.length = c.cl.length
  ll : lps.length = c.cl.length
  agr : ∀ k s l, pl[k]? = some s → lps[k]? = some l → AgrN c k lim s l
def stepPL (c : Cnf) (S : Nat) (a : ActT) (pl : List PS) : List PS := match pl[a.2.1.toNat]? with
  | some s => if 0 ≤ a.2.1 then pl.set a.2.1.toNat (stepS c S a.2.1.toNat a.1 a.2.2.1.1 a.2.2.1.2 a.2.2.2.toNat s) else pl
  | none => pl
def stepLL (c : Cnf) (S : Nat) (a : ActT) (lps : List LP) : List LP := match lps[a.2.1.toNat]? with
  | some l => if 0 ≤ a.2.1 then lps.set a.2.1.toNat (stepL c S a.2.1.toNat a.1 a.2.2.1.1 a.2.2.1.2 a.2.2.2.toNat l) else lps
  | none => lps
theorem AllA.step {c : Cnf} {S lim : Nat} {pl : List PS} {lps : List LP} (h : AllA c lim pl lps) (a : ActT) : AllA c (lim + 64) (stepPL c S a pl) (stepLL c S a lps) := by
  have more : AllA c (lim + 64) pl lps := ⟨h.lp, h.ll, fun k s l h1 h2 => ⟨(h.agr k s l h1 h2).toAgr.more (by omega), (h.agr k s l h1 h2).nodup⟩⟩
  unfold stepPL stepLL
  cases hp : pl[a.2.1.toNat]? with
  | none =>
    have : lps[a.2.1.toNat]? = none := by
      rw [List.getElem?_eq_none_iff] at hp ⊢
      rw [h.ll, ← h.lp]; exact hp
    rw [this]; exact more
  | some s =>
    have hlt := (List.getElem?_eq_some_iff.1 hp).1
    obtain ⟨l, hl⟩ : ∃ l, lps[a.2.1.toNat]? = some l := ⟨_, List.getElem?_eq_getElem (by rw [h.ll, ← h.lp]; exact hlt)⟩
    rw [hl]
    simp only
    by_cases h0 : 0 ≤ a.2.1
    · rw [if_pos h0, if_pos h0]
      refine ⟨by simp [h.lp], by simp [h.ll], fun k s' l' h1 h2 => ?_⟩
      by_cases hk : k = a.2.1.toNat
      · subst hk
        rw [set_at hp] at h1; cases h1
        rw [set_at hl] at h2; cases h2
        exact (h.agr _ _ _ hp hl).step _ _ _ _
      · rw [List.getElem?_set_ne (Ne.symm hk)] at h1 h2
        exact more.agr k s' l' h1 h2
    · rw [if_neg h0, if_neg h0]; exact more
theorem do_all (own : Bool) (c : Cnf) (h : c.Ok) (S : Nat) (hS : (S : Int) = c.s) (pl : List PS) (lps : List LP) (hA : AllA c 20000 pl lps) (a : ActT) (ha : 0 ≤ a.2.2.2 ∧ a.2.2.2 ≤ 18446744073709551615) :
    Tri En 11 [cnfA 0 c, .ptr 1 0 0, .slice 2 0 c.cl.length, .agg [.int .i64 a.1, .int .i64 a.2.1, .int .i64 a.2.2.1.1, .int .i64 a.2.2.1.2, .int .u64 a.2.2.2]] (doB own c pl lps) (.bl true) (doR own c (stepPL c S a pl) (stepLL c S a lps)) := by
  obtain ⟨kd, k, ⟨b1, b2⟩, m⟩ := a
  simp only at ha
  obtain ⟨m, rfl⟩ : ∃ q : Nat, m = (q : Int) := ⟨m.toNat, by omega⟩
  have hm : m < 18446744073709551616 := by omega
  unfold stepPL stepLL
  simp only [Int.toNat_natCast]
  by_cases hk : 0 ≤ k ∧ k < c.cl.length
  · obtain ⟨i, rfl⟩ : ∃ i : Nat, k = i := ⟨k.toNat, by omega⟩
    simp only [Int.toNat_natCast]
    obtain ⟨s, hs⟩ : ∃ s, pl[i]? = some s := ⟨_, List.getElem?_eq_getElem (by have := hA.lp; omega)⟩
    obtain ⟨l, hl⟩ : ∃ l, lps[i]? = some l := ⟨_, List.getElem?_eq_getElem (by have := hA.ll; omega)⟩
    rw [hs, hl]
    simp only
    rw [if_pos hk.1, if_pos hk.1]
    exact do_B own c h S hS pl hA.lp lps i s hs l hl kd b1 b2 m hm (hA.agr i s l hs hl)
  · have e1 : (match pl[k.toNat]? with | some s => if 0 ≤ k then pl.set k.toNat (stepS c S k.toNat kd b1 b2 m s) else pl | none => pl) = pl := by
      split
      · rename_i s hs
        have := (List.getElem?_eq_some_iff.1 hs).1
        rw [hA.lp] at this
        rw [if_neg (by omega)]
      · rfl
    have e2 : (match lps[k.toNat]? with | some l => if 0 ≤ k then lps.set k.toNat (stepL c S k.toNat kd b1 b2 m l) else lps | none => lps) = lps := by
      split
      · rename_i s hs
        have := (List.getElem?_eq_some_iff.1 hs).1
        rw [hA.ll] at this
        rw [if_neg (by omega)]
      · rfl
    rw [e1, e2]
    exact do_N own c h pl lps k hk kd b1 b2 m hm
end Go.Proofs.YthlpfafmiakfdaaDoor.E
