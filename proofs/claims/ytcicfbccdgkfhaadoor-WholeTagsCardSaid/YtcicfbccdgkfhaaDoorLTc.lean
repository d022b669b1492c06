/- WholeTags: what the words hold; the steps. -/
import Derived.Test.YtcicfbccdgkfhaaDoorPslot
import Derived.Test.YtcicfbccdgkfhaaDoorPscan
namespace Go.Proofs.YtcicfbccdgkfhaaDoor.E
open Go
set_option maxRecDepth 100000

theorem swing_yes (m : MemS) (a old x : Int) (h : m.inr a) (h2 : m.get a = old) : Tri En 20 [.ptr 0 0 0, .int .i64 a, .int .u64 old, .int .u64 x] [memC 1 m, memT m] (.bl true) [memC 1 ((m.acc 4 a).put a x), memT ((m.acc 4 a).put a x)] := by
  rw [MemS.put_in (m := m.acc 4 a) h]
  rw [MemS.get_in h] at h2
  have h0 := h.1
  have h1 := h.2
  have hf := MemS.acc_faults h 4
  refine Tri.of Tryd.func20 rfl Tryd.call20 rfl ?_
  refine Goods.fin 2000 [.c (.of (at_in m 4 a h)), .s 22 (some false) true true, .b false] mixed Tryd.func20 ?_
  show Yes _
  repeat' apply And.intro
  (all_goals first | rfl | assumption | trivial | omega | (simp [-List.getD_eq_getElem?_getD, h2, hf] <;> omega) | (simp (disch := omega) only [w64, wu64] <;> omega) | (simp (disch := omega) [-List.getD_eq_getElem?_getD, List.getD_cons_zero, List.getD_cons_succ, kCast_self, dfl_pair, dfl_int, w64, wu64, h2, hf] <;> omega) | (rw [Bool.eq_iff_iff]; simp (disch := omega) [-List.getD_eq_getElem?_getD, List.getD_cons_zero, List.getD_cons_succ, kCast_self, dfl_pair, dfl_int, w64, wu64, h2, hf] <;> omega) | (simp_all [-List.getD_eq_getElem?_getD] <;> omega))
def updG (g : Nat → Nat) (i x : Nat) : Nat → Nat := fun j => if j = i then x else g j
structure TgI (W S : Nat) (g : Nat → Nat) (m : MemS) : Prop where
  hm : m.words = tabW S fun i => (g i : Int)
  hS : W + 1 ≤ S
  hS2 : S ≤ 100000
  h1 : ∀ i, g i < 18446744073709551616
  hF : m.faults = 0
  hd : ∃ a b t, g 0 = refN a b t ∧ a < 256 ∧ b < 256 ∧ t < 4294967296
namespace TgI
variable {W S : Nat} {g : Nat → Nat} {m : MemS}
theorem lm (h : TgI W S g m) : m.words.length = S := by rw [h.hm, tabW_len]
theorem inr (h : TgI W S g m) {i : Nat} (hi : i ≤ W) : m.inr (i : Int) := ⟨by omega, by rw [h.lm]; have := h.hS; omega⟩
theorem gm (h : TgI W S g m) {i : Nat} (hi : i ≤ W) : m.get (i : Int) = (g i : Int) := by
  have := h.hS
  rw [MemS.get_in (h.inr hi), h.hm, Int.toNat_natCast, tabW_get (by omega)]
theorem acc (h : TgI W S g m) {k : Int} {i : Nat} (hi : i ≤ W) : TgI W S g (m.acc k (i : Int)) := ⟨h.hm, h.hS, h.hS2, h.h1, by rw [MemS.acc_faults (h.inr hi), h.hF], h.hd⟩
theorem put (h : TgI W S g m) {k : Int} {i x : Nat} (hi : i ≤ W) (hx : x < 18446744073709551616) (hd : i = 0 → ∃ a b t, x = refN a b t ∧ a < 256 ∧ b < 256 ∧ t < 4294967296) : TgI W S (updG g i x) ((m.acc k (i : Int)).put (i : Int) (x : Int)) := by
  refine ⟨?_, h.hS, h.hS2, fun j => ?_, by rw [MemS.put_faults (h.inr hi), h.hF], ?_⟩
  · rw [MemS.put_words (h.inr hi), h.hm, Int.toNat_natCast]
    refine tabW_set' fun j hj => ?_
    unfold updG
    split <;> rfl
  · unfold updG
    split
    · exact hx
    · exact h.h1 j
  · unfold updG
    by_cases e : 0 = i
    · rw [if_pos e]; exact hd e.symm
    · rw [if_neg e]; exact h.hd
end TgI
/-- The tags found in the first i of the words held. -/
def heldL (g : Nat → Nat) (i : Nat) : List Int := (List.range i).map fun v => (g (1 + v) : Int)
def hsT (g : Nat → Nat) (w sd i : Nat) : List Int := hits w sd (heldL g i)
theorem hs_step (g : Nat → Nat) (w sd i : Nat) : hitsU w sd (hsT g w sd i) (g (1 + i)) = hsT g w sd (i + 1) := by
  unfold hsT
  rw [show heldL g (i + 1) = heldL g i ++ [(g (1 + i) : Int)] by simp [heldL, List.range_succ], hits_snoc]
theorem hs_len (g : Nat → Nat) (w sd i : Nat) : (hsT g w sd i).length ≤ i := by
  have := hits_len w sd (heldL g i)
  rw [show (heldL g i).length = i by simp [heldL]] at this
  exact this
theorem hs_free (g : Nat → Nat) (w sd n v : Nat) (hw : w < 256) (hs : sd < 256) (ht : leastT (hsT g w sd n) < 4294967296) (hv : v < n) : g (1 + v) ≠ refN w sd (leastT (hsT g w sd n)) := fun e => by
  have h1 := (hit_ref w sd _ hw hs ht (g (1 + v))).2 e
  refine (leastT_spec (hsT g w sd n)).2.2 ((hits_mem w sd _ (heldL g n)).2 ⟨(g (1 + v) : Int), ?_, ?_, ?_⟩)
  · exact List.mem_map.2 ⟨v, by simpa using hv, rfl⟩
  · rw [Int.toNat_natCast]; exact h1.1
  · rw [Int.toNat_natCast, h1.2]
def frC (W : Nat) : AObj := .cells [.int .i64 0, .int .i64 1, .int .i64 W]
theorem frOk {W : Nat} (h : W ≤ 6) : FrOk 0 1 (W : Int) := ⟨by omega, by omega, by omega, by omega, by omega, by omega⟩
noncomputable abbrev gWt (ps : List Int) : Frm := ⟨En, 3, Tryd.f3.ntmps, [.tab false (.int .u8) ps], .bl true, gones 1⟩
noncomputable abbrev wtSt (ps : List Int) (W : Nat) (m : MemS) (k : Nat) : Cfg := ⟨.none, lp Tryd.f3 0, [(5, .ptr 1 0 0), (6, .ptr 2 0 0), (41, .slice 0 0 ps.length), (42, .int .i64 ps.length), (43, .int .i64 k)], hp [.tab false (.int .u8) ps, frC W, memC 3 m, memT m]⟩
noncomputable abbrev wt1 (ps : List Int) (W : Nat) (m : MemS) (k h0 w sd i r : Nat) (used : List Int) : Cfg := ⟨.none, lp Tryd.f3 1, [(5, .ptr 1 0 0), (6, .ptr 2 0 0), (10, .int .u64 h0), (14, .ptr 3 0 0), (41, .slice 0 0 ps.length), (42, .int .i64 ps.length), (43, .int .i64 k), (89, .int .i64 W), (90, .int .i64 i)], hp [.tab false (.int .u8) ps, frC W, memC 4 m, scanC 2 5 (1 + i : Nat) r w sd used, memT m, tagsT used]⟩
noncomputable abbrev wt2 (ps : List Int) (W : Nat) (m : MemS) (k h0 w sd tg v : Nat) : Cfg := ⟨.none, lp Tryd.f3 2, [(5, .ptr 1 0 0), (6, .ptr 2 0 0), (10, .int .u64 h0), (15, .ptr 3 0 0), (41, .slice 0 0 ps.length), (42, .int .i64 ps.length), (43, .int .i64 k), (108, .int .i64 W), (109, .int .i64 v)], hp [.tab false (.int .u8) ps, frC W, memC 4 m, .cells [.int .i64 w, .int .i64 sd, .int .i64 tg], memT m]⟩
theorem wt_last (ps : List Int) (W S : Nat) (g : Nat → Nat) (m : MemS) (hI : TgI W S g m) : Goods (gWt ps) (wtSt ps W m ps.length) := by
  have fm := mem_faults m
  rw [hI.hF] at fm
  refine Goods.fin 2000 [.b false, .k 131 (.of fm)] mixed Tryd.func3 ?_
  show Yes _
  repeat' apply And.intro
  (all_goals first | rfl | assumption | trivial | omega | (simp [-List.getD_eq_getElem?_getD] <;> omega) | (simp (disch := omega) only [w64, wu64] <;> omega) | (simp (disch := omega) [-List.getD_eq_getElem?_getD, List.getD_cons_zero, List.getD_cons_succ, kCast_self, dfl_pair, dfl_int, w64, wu64] <;> omega) | (rw [Bool.eq_iff_iff]; simp (disch := omega) [-List.getD_eq_getElem?_getD, List.getD_cons_zero, List.getD_cons_succ, kCast_self, dfl_pair, dfl_int, w64, wu64] <;> omega) | (simp_all [-List.getD_eq_getElem?_getD] <;> omega))
/-- The new reference is laid. -/
theorem wt_lay (ps : List Int) (hps : ps.length ≤ 300) (W : Nat) (hW : W ≤ 6) (S : Nat) (g : Nat → Nat) (m m2 : MemS) (hI : TgI W S g m) (k h0 w sd tg : Nat) (hk : k < ps.length) (hh : g 0 = h0) (hw : w < 256) (hs : sd < 256) (ht : tg < 4294967296) (hm2 : (m.acc 4 ((0 : Nat) : Int)).put ((0 : Nat) : Int) (refN w sd tg : Nat) = m2) (ih : Goods (gWt ps) (wtSt ps W m2 (k + 1))) : Goods (gWt ps) (wt2 ps W m k h0 w sd tg W) := by
  have f1 := fr_head (frOk hW)
  have o1 := of_yes w sd tg hw hs ht
  have sw := swing_yes m ((0 : Nat) : Int) h0 (refN w sd tg : Nat) (hI.inr (by omega)) (by rw [hI.gm (by omega), hh])
  rw [hm2] at sw
  clear hm2
  generalize refN w sd tg = z at *
  refine Goods.to 2000 [.b false, .k 123 (.of f1), .k 126 (.of o1), .k 127 (.of sw), .l, .stop] mixed (ih) (by kernel_rfl) ?_
  show Yes _
  repeat' apply And.intro
  (all_goals first | rfl | assumption | trivial | omega | (simp [-List.getD_eq_getElem?_getD] <;> omega) | (simp (disch := omega) only [w64, wu64] <;> omega) | (simp (disch := omega) [-List.getD_eq_getElem?_getD, List.getD_cons_zero, List.getD_cons_succ, kCast_self, dfl_pair, dfl_int, w64, wu64] <;> omega) | (rw [Bool.eq_iff_iff]; simp (disch := omega) [-List.getD_eq_getElem?_getD, List.getD_cons_zero, List.getD_cons_succ, kCast_self, dfl_pair, dfl_int, w64, wu64] <;> omega) | (simp_all [-List.getD_eq_getElem?_getD] <;> omega))
theorem wt_peek (ps : List Int) (W : Nat) (hW : W ≤ 6) (S : Nat) (g : Nat → Nat) (m : MemS) (hI : TgI W S g m) (k h0 w sd tg v x : Nat) (hv : v < W) (hx : g (1 + v) = x) (hne : x ≠ refN w sd tg) (hw : w < 256) (hs : sd < 256) (ht : tg < 4294967296) (ih : Goods (gWt ps) (wt2 ps W m k h0 w sd tg (v + 1))) : Goods (gWt ps) (wt2 ps W m k h0 w sd tg v) := by
  have f1 := fr_held (frOk hW) (i := (v : Int)) (by omega) (by omega)
  rw [show (0 : Int) + 1 + (v : Int) = ((1 + v : Nat) : Int) by omega] at f1
  have p1 := mem_peek m ((1 + v : Nat) : Int)
  rw [hI.gm (by omega), hx] at p1
  have o1 := of_yes w sd tg hw hs ht
  generalize refN w sd tg = z at *
  refine Goods.to 2000 [.b true, .k 115 (.of f1), .k 116 (.of p1), .k 118 (.of o1), .s 119 (some false) true true, .l, .stop] mixed (ih) (by kernel_rfl) ?_
  show Yes _
  repeat' apply And.intro
  (all_goals first | rfl | assumption | trivial | omega | (simp [-List.getD_eq_getElem?_getD] <;> omega) | (simp (disch := omega) only [w64, wu64] <;> omega) | (simp (disch := omega) [-List.getD_eq_getElem?_getD, List.getD_cons_zero, List.getD_cons_succ, kCast_self, dfl_pair, dfl_int, w64, wu64] <;> omega) | (rw [Bool.eq_iff_iff]; simp (disch := omega) [-List.getD_eq_getElem?_getD, List.getD_cons_zero, List.getD_cons_succ, kCast_self, dfl_pair, dfl_int, w64, wu64] <;> omega) | (simp_all [-List.getD_eq_getElem?_getD] <;> omega))
theorem wt_ref (ps : List Int) (W : Nat) (hW : W ≤ 6) (m : MemS) (k h0 w sd : Nat) (used : List Int) (hu : used.length ≤ W) (ih : Goods (gWt ps) (wt2 ps W m k h0 w sd (leastT used) 0)) : Goods (gWt ps) (wt1 ps W m k h0 w sd W 0 used) := by
  have hr := ref_tri m (1 + W : Nat) ((0 : Nat) : Int) w sd used (by omega)
  have hle := (leastT_spec used).1
  unfold wt1 wt2 at *
  generalize leastT used = tg at *
  refine Goods.to 2000 [.b false, .c (.of hr), .s 99 (some false) true true, .s 105 (some false) true true, .l, .stop] mixed (ih) (by kernel_rfl) ?_
  show Yes _
  repeat' apply And.intro
  (all_goals first | rfl | assumption | trivial | omega | (simp [-List.getD_eq_getElem?_getD] <;> omega) | (simp (disch := omega) only [w64, wu64] <;> omega) | (simp (disch := omega) [-List.getD_eq_getElem?_getD, List.getD_cons_zero, List.getD_cons_succ, kCast_self, dfl_pair, dfl_int, w64, wu64] <;> omega) | (rw [Bool.eq_iff_iff]; simp (disch := omega) [-List.getD_eq_getElem?_getD, List.getD_cons_zero, List.getD_cons_succ, kCast_self, dfl_pair, dfl_int, w64, wu64] <;> omega) | (simp_all [-List.getD_eq_getElem?_getD] <;> omega))
theorem wt_scan (ps : List Int) (W : Nat) (hW : W ≤ 6) (S : Nat) (g : Nat → Nat) (m : MemS) (hI : TgI W S g m) (k h0 w sd i r : Nat) (hi : i + (r + 1) = W) (used used2 : List Int) (hu : used.length ≤ i) (h2 : hitsU w sd used (g (1 + i)) = used2) (ih : Goods (gWt ps) (wt1 ps W (m.acc 1 ((1 + i : Nat) : Int)) k h0 w sd (i + 1) r used2)) : Goods (gWt ps) (wt1 ps W m k h0 w sd i (r + 1) used) := by
  have st := step_tri m (1 + i) r w sd used (by omega) (by omega) (g (1 + i)) (hI.gm (by omega)) (hI.h1 _) (by omega)
  rw [h2] at st
  have e : decide ((r : Int) = 0) = decide (r = 0) := decide_eq_decide.2 (by omega)
  have hmw : m.words = (m.acc 1 ((1 + i : Nat) : Int)).words := rfl
  generalize m.acc 1 ((1 + i : Nat) : Int) = m2 at *
  refine Goods.to 2000 [.b true, .c (.of st), .l, .stop] mixed (ih) (by kernel_rfl) ?_
  show Yes _
  repeat' apply And.intro
  all_goals try exact hmw
  (all_goals first | rfl | assumption | trivial | omega | (simp [-List.getD_eq_getElem?_getD] <;> omega) | (simp (disch := omega) only [w64, wu64] <;> omega) | (simp (disch := omega) [-List.getD_eq_getElem?_getD, List.getD_cons_zero, List.getD_cons_succ, kCast_self, dfl_pair, dfl_int, w64, wu64] <;> omega) | (rw [Bool.eq_iff_iff]; simp (disch := omega) [-List.getD_eq_getElem?_getD, List.getD_cons_zero, List.getD_cons_succ, kCast_self, dfl_pair, dfl_int, w64, wu64] <;> omega) | (simp_all [-List.getD_eq_getElem?_getD] <;> omega))
end Go.Proofs.YtcicfbccdgkfhaaDoor.E
