/- slices.IndexFunc and slices.DeleteFunc, over a class's blocks. -/
import Derived.Test.YthlpfafmiakfdaaDoorPstkd
namespace Go.Proofs.YthlpfafmiakfdaaDoor.E
set_option linter.unusedSimpArgs false
set_option linter.unusedVariables false
open Go
set_option maxRecDepth 100000
abbrev delO (c : Cnf) (k : Nat) (P Q : RawP) (sup : Int) (d : DS) (m cl : Nat) (zs : List Blk) : List AObj :=
  [.tab true BlkK zs, .cells [.int .i64 sup], .cells [.int .u64 d.m], .cells [.ptr 5 0 0], .cells [.int .i64 k], stkC 6 c, clsO c, .mix k P (.slice 0 0 m), .mix k Q (.map 9), .map BlkK .unit cl d.es]
def delF : AV := .func (.func 32) [] [.ptr 1 0 0, .ptr 2 0 0, .ptr 3 0 0, .ptr 4 0 0]
abbrev bAt (zs : List Blk) (i : Nat) : Blk := zs.getD i (0, 0)
noncomputable abbrev gIdx (c : Cnf) (k : Nat) (P Q : RawP) (sup : Int) (d d' : DS) (m cl : Nat) (zs : List Blk) (x : Nat) : Frm := ⟨En, 42, Tryd.f42.ntmps, delO c k P Q sup d m cl zs, .int .i64 x, delO c k P Q sup d' m cl zs⟩
theorem idx_0 (c : Cnf) (hc : c.cl.length ≤ 16) (k : Nat) (hk : k < c.cl.length) (P Q : RawP) (sup : Int) (d : DS) (m cl : Nat) (zs : List Blk) (x : Nat) (hd : d.m < 18446744073709551616) (hz : m ≤ zs.length) (hs : m ≤ 1000000) (hx : x < m) (h1 : (bAt zs x).1 = sup) (h2 : ∀ j, j < x → (bAt zs j).1 ≠ sup) : ∀ (j i : Nat), i + j = x →
    Goods (gIdx c k P Q sup d (delS sup d (bAt zs x)) m cl zs x) ⟨.none, lp Tryd.f42 0, [(0, .slice 0 0 m), (1, delF), (7, .int .i64 m), (8, .int .i64 i)], hp (delO c k P Q sup d m cl zs)⟩
  | 0, i, hi => by
    obtain rfl : i = x := by omega
    have h3 := clo_tri c hc k hk P Q sup d m cl zs (bAt zs i) hd
    rw [decide_eq_true h1] at h3
    generalize hb : bAt zs i = b at *
    refine Goods.fin 2000 [.b true, .c (.of h3)] mixed Tryd.func42 ?_
    show Yes _
    repeat' apply And.intro
    (all_goals first | rfl | assumption | trivial | omega | (simp [-List.getD_eq_getElem?_getD, hb] <;> omega) | (simp (disch := omega) only [w64, wu64] <;> omega) | (simp (disch := omega) [-List.getD_eq_getElem?_getD, List.getD_cons_zero, List.getD_cons_succ, kCast_self, dfl_pair, dfl_int, w64, wu64, hb] <;> omega) | (rw [Bool.eq_iff_iff]; simp (disch := omega) [-List.getD_eq_getElem?_getD, List.getD_cons_zero, List.getD_cons_succ, kCast_self, dfl_pair, dfl_int, w64, wu64, hb] <;> omega) | (simp_all [-List.getD_eq_getElem?_getD] <;> omega))
  | j + 1, i, hi => by
    have ih := idx_0 c hc k hk P Q sup d m cl zs x hd hz hs hx h1 h2 j (i + 1) (by omega)
    have hn := h2 i (by omega)
    have h3 := clo_tri c hc k hk P Q sup d m cl zs (bAt zs i) hd
    have e : delS sup d (bAt zs i) = d := if_neg hn
    rw [decide_eq_false hn, e] at h3
    generalize hb : bAt zs i = b at *
    refine Goods.to 2000 [.b true, .c (.of h3), .l, .stop] mixed (ih) (by kernel_rfl) ?_
    show Yes _
    repeat' apply And.intro
    (all_goals first | rfl | assumption | trivial | omega | (simp [-List.getD_eq_getElem?_getD, hb] <;> omega) | (simp (disch := omega) only [w64, wu64] <;> omega) | (simp (disch := omega) [-List.getD_eq_getElem?_getD, List.getD_cons_zero, List.getD_cons_succ, kCast_self, dfl_pair, dfl_int, w64, wu64, hb] <;> omega) | (rw [Bool.eq_iff_iff]; simp (disch := omega) [-List.getD_eq_getElem?_getD, List.getD_cons_zero, List.getD_cons_succ, kCast_self, dfl_pair, dfl_int, w64, wu64, hb] <;> omega) | (simp_all [-List.getD_eq_getElem?_getD] <;> omega))
theorem idx_tri (c : Cnf) (hc : c.cl.length ≤ 16) (k : Nat) (hk : k < c.cl.length) (P Q : RawP) (sup : Int) (d : DS) (m cl : Nat) (zs : List Blk) (x : Nat) (hd : d.m < 18446744073709551616) (hz : m ≤ zs.length) (hs : m ≤ 1000000) (hx : x < m) (h1 : (bAt zs x).1 = sup) (h2 : ∀ j, j < x → (bAt zs j).1 ≠ sup) :
    Tri En 42 [.slice 0 0 m, delF] (delO c k P Q sup d m cl zs) (.int .i64 x) (delO c k P Q sup (delS sup d (bAt zs x)) m cl zs) := by
  have ih := idx_0 c hc k hk P Q sup d m cl zs x hd hz hs hx h1 h2 x 0 (by omega)
  refine Tri.of Tryd.func42 rfl Tryd.call42 rfl ?_
  refine Goods.to 2000 [.l, .stop] mixed (ih) (by kernel_rfl) ?_
  show Yes _
  repeat' apply And.intro
  (all_goals first | rfl | assumption | trivial | omega | (simp [-List.getD_eq_getElem?_getD] <;> omega) | (simp (disch := omega) only [w64, wu64] <;> omega) | (simp (disch := omega) [-List.getD_eq_getElem?_getD, List.getD_cons_zero, List.getD_cons_succ, kCast_self, dfl_pair, dfl_int, w64, wu64] <;> omega) | (rw [Bool.eq_iff_iff]; simp (disch := omega) [-List.getD_eq_getElem?_getD, List.getD_cons_zero, List.getD_cons_succ, kCast_self, dfl_pair, dfl_int, w64, wu64] <;> omega) | (simp_all [-List.getD_eq_getElem?_getD] <;> omega))
/-- What stays. -/
def keepL (sup : Int) (l : List Blk) : List Blk := l.filter fun b => decide (b.1 ≠ sup)
theorem keepL_snoc (sup : Int) (l : List Blk) (b : Blk) : keepL sup (l ++ [b]) = if b.1 = sup then keepL sup l else keepL sup l ++ [b] := by
  unfold keepL
  rw [List.filter_append]
  by_cases h : b.1 = sup
  · rw [if_pos h]; simp [h]
  · rw [if_neg h]; simp [h]
theorem takeB_snoc {l : List Blk} {k : Nat} (h : k < l.length) : l.take (k + 1) = l.take k ++ [bAt l k] := by
  rw [List.take_add_one]; simp [List.getD, h]
theorem dlS_snoc (sup : Int) (d : DS) (l : List Blk) (b : Blk) : dlS sup d (l ++ [b]) = delS sup (dlS sup d l) b := by simp [dlS]
noncomputable abbrev gDel (c : Cnf) (k : Nat) (P Q : RawP) (sup : Int) (d d' : DS) (m m' cl : Nat) (zs zs' : List Blk) : Frm := ⟨En, 31, Tryd.f31.ntmps, delO c k P Q sup d m cl zs, .slice 0 0 m', delO c k P Q sup d' m cl zs'⟩
/-- What the deletion leaves of the row: what stays, noughts, and what lies behind. -/
def delZ (sup : Int) (m : Nat) (zs : List Blk) : List Blk := keepL sup (zs.take m) ++ List.replicate (m - (keepL sup (zs.take m)).length) (0, 0) ++ zs.drop m
theorem delf_0 (c : Cnf) (hc : c.cl.length ≤ 16) (k : Nat) (hk : k < c.cl.length) (P Q : RawP) (sup : Int) (d : DS) (m cl : Nat) (zs : List Blk) (hd : d.m < 18446744073709551616) (hz : m ≤ zs.length) (hs : m ≤ 1000000) : ∀ (r j i : Nat) (ys : List Blk), j + r = m → i ≤ j → ys.length = zs.length → ys.take i = keepL sup (zs.take j) → ys.drop j = zs.drop j →
    Goods (gDel c k P Q sup d (dlS sup d (zs.take m)) m (keepL sup (zs.take m)).length cl zs (delZ sup m zs)) ⟨.none, lp Tryd.f31 0, [(0, .slice 0 0 m), (1, delF), (5, .int .i64 i), (6, .int .i64 j)], hp (delO c k P Q sup (dlS sup d (zs.take j)) m cl ys)⟩
  | 0, j, i, ys, hj, hi, hl, hy, hyd => by
    obtain rfl : j = m := by omega
    have hki : (keepL sup (zs.take j)).length = i := by rw [← hy]; simp; omega
    unfold delZ
    rw [hki, ← hy]
    generalize dlS sup d (zs.take j) = d2 at *
    have g0 : ys.take i ++ List.replicate (j - i) ((0 : Int), (0 : Int)) ++ ys.drop (i + (j - i)) = ys.take i ++ List.replicate (j - i) (0, 0) ++ zs.drop j := by rw [show i + (j - i) = j by omega, hyd]
    refine Goods.fin 2000 [.b false] mixed Tryd.func31 ?_
    show Yes _
    repeat' apply And.intro
    all_goals try exact g0
    (all_goals first | rfl | assumption | trivial | omega | (simp [-List.getD_eq_getElem?_getD] <;> omega) | (simp (disch := omega) only [w64, wu64] <;> omega) | (simp (disch := omega) [-List.getD_eq_getElem?_getD, List.getD_cons_zero, List.getD_cons_succ, kCast_self, dfl_pair, dfl_int, w64, wu64] <;> omega) | (rw [Bool.eq_iff_iff]; simp (disch := omega) [-List.getD_eq_getElem?_getD, List.getD_cons_zero, List.getD_cons_succ, kCast_self, dfl_pair, dfl_int, w64, wu64] <;> omega) | (simp_all [-List.getD_eq_getElem?_getD] <;> omega))
  | r + 1, j, i, ys, hj, hi, hl, hy, hyd => by
    have hb : bAt ys j = bAt zs j := by
      have e1 : (ys.drop j)[0]? = (zs.drop j)[0]? := by rw [hyd]
      rw [List.getElem?_drop, List.getElem?_drop] at e1
      simp only [bAt, List.getD_eq_getElem?_getD]
      rw [← Nat.add_zero j, e1]
    have h3 := clo_tri c hc k hk P Q sup (dlS sup d (zs.take j)) m cl ys (bAt zs j) (dlS_lt hd)
    have hsn := takeB_snoc (l := zs) (k := j) (by omega)
    have hk1 := keepL_snoc sup (zs.take j) (bAt zs j)
    have hd1 := dlS_snoc sup d (zs.take j) (bAt zs j)
    rw [← hsn] at hk1 hd1
    rw [← hd1] at h3
    have hdr : ∀ l : List Blk, l.drop (j + 1) = (l.drop j).drop 1 := fun l => by rw [List.drop_drop]
    by_cases h : (bAt zs j).1 = sup
    · rw [decide_eq_true h] at h3
      rw [if_pos h] at hk1
      have ih := delf_0 c hc k hk P Q sup d m cl zs hd hz hs r (j + 1) i ys (by omega) (by omega) hl (by rw [hk1, hy]) (by rw [hdr, hyd, ← hdr])
      generalize bAt zs j = b at *
      generalize hD1 : dlS sup d (zs.take j) = d1 at *
      generalize dlS sup d (zs.take (j + 1)) = d2 at *
      refine Goods.to 2000 [.b true, .c (.of h3), .l, .stop] mixed (ih) (by kernel_rfl) ?_
      show Yes _
      repeat' apply And.intro
      (all_goals first | rfl | assumption | trivial | omega | (simp [-List.getD_eq_getElem?_getD, hb] <;> omega) | (simp (disch := omega) only [w64, wu64] <;> omega) | (simp (disch := omega) [-List.getD_eq_getElem?_getD, List.getD_cons_zero, List.getD_cons_succ, kCast_self, dfl_pair, dfl_int, w64, wu64, hb] <;> omega) | (rw [Bool.eq_iff_iff]; simp (disch := omega) [-List.getD_eq_getElem?_getD, List.getD_cons_zero, List.getD_cons_succ, kCast_self, dfl_pair, dfl_int, w64, wu64, hb] <;> omega) | (simp_all [-List.getD_eq_getElem?_getD] <;> omega))
    · rw [decide_eq_false h] at h3
      rw [if_neg h] at hk1
      have hlen : (keepL sup (zs.take j)).length = i := by rw [← hy]; simp; omega
      have ih := delf_0 c hc k hk P Q sup d m cl zs hd hz hs r (j + 1) (i + 1) (ys.set i (bAt zs j)) (by omega) (by omega) (by simp [hl]) (by
          rw [takeB_snoc (by simp; omega), hk1, List.take_set_of_le (Nat.le_refl _), hy]
          simp [bAt, List.getD, show i < ys.length by omega]) (by rw [List.drop_set_of_lt (by omega), hdr, hyd, ← hdr])
      generalize bAt zs j = b at *
      generalize hD1 : dlS sup d (zs.take j) = d1 at *
      generalize dlS sup d (zs.take (j + 1)) = d2 at *
      refine Goods.to 2000 [.b true, .c (.of h3), .l, .stop] mixed (ih) (by kernel_rfl) ?_
      show Yes _
      repeat' apply And.intro
      (all_goals first | rfl | assumption | trivial | omega | (simp [-List.getD_eq_getElem?_getD, hb] <;> omega) | (simp (disch := omega) only [w64, wu64] <;> omega) | (simp (disch := omega) [-List.getD_eq_getElem?_getD, List.getD_cons_zero, List.getD_cons_succ, kCast_self, dfl_pair, dfl_int, w64, wu64, hb] <;> omega) | (rw [Bool.eq_iff_iff]; simp (disch := omega) [-List.getD_eq_getElem?_getD, List.getD_cons_zero, List.getD_cons_succ, kCast_self, dfl_pair, dfl_int, w64, wu64, hb] <;> omega) | (simp_all [-List.getD_eq_getElem?_getD] <;> omega))
theorem keepL_none {sup : Int} : ∀ {l : List Blk}, (∀ b ∈ l, b.1 ≠ sup) → keepL sup l = l := by
  intro l h
  exact List.filter_eq_self.2 fun b hb => by simpa using h b hb
theorem dlS_none {sup : Int} {d : DS} : ∀ {l : List Blk}, (∀ b ∈ l, b.1 ≠ sup) → dlS sup d l = d
  | [], _ => rfl
  | b :: l, h => by
    have e : delS sup d b = d := if_neg (h b (by simp))
    show dlS sup (delS sup d b) l = d
    rw [e]; exact dlS_none fun x hx => h x (by simp [hx])
theorem take_none {sup : Int} {zs : List Blk} {x : Nat} (hx : x ≤ zs.length) (h2 : ∀ j, j < x → (bAt zs j).1 ≠ sup) : ∀ b ∈ zs.take x, b.1 ≠ sup := by
  intro b hb
  obtain ⟨j, hj⟩ := List.getElem?_of_mem hb
  have hlt := (List.getElem?_eq_some_iff.1 hj).1
  simp at hlt
  rw [List.getElem?_take_of_lt (by omega)] at hj
  have := h2 j (by omega)
  simp only [bAt, List.getD_eq_getElem?_getD, hj] at this
  exact this
theorem delf_tri (c : Cnf) (hc : c.cl.length ≤ 16) (k : Nat) (hk : k < c.cl.length) (P Q : RawP) (sup : Int) (d : DS) (m cl : Nat) (zs : List Blk) (x : Nat) (hd : d.m < 18446744073709551616) (hz : m ≤ zs.length) (hs : m ≤ 1000000) (hx : x < m) (h1 : (bAt zs x).1 = sup) (h2 : ∀ j, j < x → (bAt zs j).1 ≠ sup) :
    Tri En 31 [.slice 0 0 m, delF] (delO c k P Q sup d m cl zs) (.slice 0 0 (keepL sup (zs.take m)).length) (delO c k P Q sup (dlS sup d (zs.take m)) m cl (delZ sup m zs)) := by
  have h3 := idx_tri c hc k hk P Q sup d m cl zs x hd hz hs hx h1 h2
  have hn := take_none (sup := sup) (zs := zs) (x := x) (by omega) h2
  have hsn := takeB_snoc (l := zs) (k := x) (by omega)
  have e1 : keepL sup (zs.take (x + 1)) = zs.take x := by rw [hsn, keepL_snoc, if_pos h1, keepL_none hn]
  have e2 : dlS sup d (zs.take (x + 1)) = delS sup d (bAt zs x) := by rw [hsn, dlS_snoc, dlS_none hn]
  have ih := delf_0 c hc k hk P Q sup d m cl zs hd hz hs (m - (x + 1)) (x + 1) x zs (by omega) (by omega) rfl e1.symm rfl
  rw [e2] at ih
  generalize delS sup d (bAt zs x) = d1 at *
  refine Tri.of Tryd.func31 rfl Tryd.call31 rfl ?_
  refine Goods.to 2000 [.c (.of h3), .b false, .l, .stop] mixed (ih) (by kernel_rfl) ?_
  show Yes _
  repeat' apply And.intro
  (all_goals first | rfl | assumption | trivial | omega | (simp [-List.getD_eq_getElem?_getD] <;> omega) | (simp (disch := omega) only [w64, wu64] <;> omega) | (simp (disch := omega) [-List.getD_eq_getElem?_getD, List.getD_cons_zero, List.getD_cons_succ, kCast_self, dfl_pair, dfl_int, w64, wu64] <;> omega) | (rw [Bool.eq_iff_iff]; simp (disch := omega) [-List.getD_eq_getElem?_getD, List.getD_cons_zero, List.getD_cons_succ, kCast_self, dfl_pair, dfl_int, w64, wu64] <;> omega) | (simp_all [-List.getD_eq_getElem?_getD] <;> omega))
end Go.Proofs.YthlpfafmiakfdaaDoor.E
