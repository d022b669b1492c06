/- Package mem: the plain model of a memory, and the contract of each of its methods. -/
import Derived.Test.YtlmoifbklpflaaaBase
namespace Go.Proofs.Ytlmoifbklpflaaa
open Go.RowKit

structure MemS where
  words : List Int
  ops : Int
  faults : Int
  lk : Int
  la : Int

namespace MemS
def inr (m : MemS) (a : Int) : Prop := 0 ≤ a ∧ a < m.words.length
instance (m : MemS) (a : Int) : Decidable (m.inr a) := by unfold inr; infer_instance
def get (m : MemS) (a : Int) : Int := if m.inr a then m.words.getD a.toNat 0 else 0
def touch (m : MemS) (k a : Int) : MemS := { m with ops := m.ops + 1, faults := if m.inr a then m.faults else m.faults + 1, lk := k, la := a }
def put (m : MemS) (a x : Int) : MemS := { m with words := if m.inr a then m.words.set a.toNat x else m.words }
end MemS

/-- The memory m lies in w: its struct at block g, its words at block b. -/
structure IsMem (w : World) (g b : Nat) (m : MemS) : Prop where
  hs : w.heap[g]? = some (.cells #[.slice (some ⟨b, 0, none⟩) m.words.length m.words.length, .int .i64 m.ops, .int .i64 m.faults, .int .i64 m.lk, .int .i64 m.la] 50 (0, 0))
  hw : w.heap[b]? = some (.cells (m.words.map (Value.int .u64)).toArray 22 (0, 0))
  len : m.words.length ≤ 16777216

section
variable {w w1 : World} {g b : Nat} {m : MemS} {S : List Nat}
theorem IsMem.ne (h : IsMem w g b m) : g ≠ b := blk_ne h.hs h.hw (by decide)
theorem IsMem.kept (h : IsMem w g b m) (hk : Stp S w w1) (hg : g ∉ S) (hb : b ∉ S) : IsMem w1 g b m := ⟨hk.blk h.hs hg, hk.blk h.hw hb, h.len⟩
theorem IsMem.c0 (h : IsMem w g b m) : w.cell? ⟨g, 0, none⟩ = some (.slice (some ⟨b, 0, none⟩) m.words.length m.words.length) := (blk_cell h.hs 0).trans rfl
theorem IsMem.c1 (h : IsMem w g b m) : w.cell? ⟨g, 1, none⟩ = some (.int .i64 m.ops) := (blk_cell h.hs 1).trans rfl
theorem IsMem.c2 (h : IsMem w g b m) : w.cell? ⟨g, 2, none⟩ = some (.int .i64 m.faults) := (blk_cell h.hs 2).trans rfl
theorem IsMem.c3 (h : IsMem w g b m) : w.cell? ⟨g, 3, none⟩ = some (.int .i64 m.lk) := (blk_cell h.hs 3).trans rfl
theorem IsMem.c4 (h : IsMem w g b m) : w.cell? ⟨g, 4, none⟩ = some (.int .i64 m.la) := (blk_cell h.hs 4).trans rfl
theorem IsMem.fr (h : IsMem w g b m) (i : Nat) : w.frozen? ⟨g, i, none⟩ = false := blk_frozen h.hs i
theorem IsMem.frb (h : IsMem w g b m) (i : Nat) : w.frozen? ⟨b, i, none⟩ = false := blk_frozen h.hw i
theorem IsMem.wd (h : IsMem w g b m) {a : Int} (ha : m.inr a) : w.cell? ⟨b, a.toNat, none⟩ = some (.int .u64 (m.get a)) := by
  rw [blk_cell h.hw]
  have : a.toNat < m.words.length := by unfold MemS.inr at ha; omega
  simp [MemS.get, ha, this]
theorem IsMem.touched (h : IsMem w g b m) (k a : Int) (hin : m.inr a) :
    IsMem (((w.setCell ⟨g, 1, none⟩ (.int .i64 (m.ops + 1))).setCell ⟨g, 3, none⟩ (.int .i64 k)).setCell ⟨g, 4, none⟩ (.int .i64 a)) g b (m.touch k a) :=
  ⟨by rw [blk_set (blk_set (blk_set h.hs 1 _) 3 _) 4 _]; simp [MemS.touch, hin],
   by rw [blk_far (blk_far (blk_far h.hw h.ne.symm _) h.ne.symm _) h.ne.symm _]; simp [MemS.touch], h.len⟩
theorem IsMem.faulted (h : IsMem w g b m) (k a : Int) (hin : ¬ m.inr a) :
    IsMem ((((w.setCell ⟨g, 1, none⟩ (.int .i64 (m.ops + 1))).setCell ⟨g, 3, none⟩ (.int .i64 k)).setCell ⟨g, 4, none⟩ (.int .i64 a)).setCell ⟨g, 2, none⟩ (.int .i64 (m.faults + 1))) g b (m.touch k a) :=
  ⟨by rw [blk_set (blk_set (blk_set (blk_set h.hs 1 _) 3 _) 4 _) 2 _]; simp [MemS.touch, hin],
   by rw [blk_far (blk_far (blk_far (blk_far h.hw h.ne.symm _) h.ne.symm _) h.ne.symm _) h.ne.symm _]; simp [MemS.touch], h.len⟩
theorem IsMem.putted (h : IsMem w g b m) {a : Int} (x : Int) (hin : m.inr a) : IsMem (w.setCell ⟨b, a.toNat, none⟩ (.int .u64 x)) g b (m.put a x) :=
  ⟨by rw [blk_far h.hs h.ne _]; simp [MemS.put, hin], by rw [blk_set h.hw]; simp [MemS.put, hin, List.map_set], by simp [MemS.put, hin, h.len]⟩
end
/-- The counters are small. -/
structure MemS.Small (m : MemS) : Prop where
  o0 : 0 ≤ m.ops
  o1 : m.ops < 4611686018427387904
  f0 : 0 ≤ m.faults
  f1 : m.faults < 4611686018427387904
theorem MemS.small_mk {ws : List Int} {o f q r : Int} (h0 : 0 ≤ o) (h1 : o < 4611686018427387904) (h2 : 0 ≤ f) (h3 : f < 4611686018427387904) : (⟨ws, o, f, q, r⟩ : MemS).Small := ⟨h0, h1, h2, h3⟩

set_option maxHeartbeats 400000 in
theorem mem_at_in (g b : Nat) (m : MemS) (k a : Int) (w : World) (h : IsMem w g b m) (hm : m.Small) (hin : m.inr a) :
    Calls Try.prog 24 #[.pointer (some ⟨g, 0, none⟩), .int .i64 k, .int .i64 a] w fun e w' => e = .returned (.pointer (some ⟨b, a.toNat, none⟩)) ∧ IsMem w' g b (m.touch k a) ∧ Stp [g] w w' := by
  obtain ⟨o0, o1, _, _⟩ := hm
  have ha := hin.1
  have ha2 := hin.2
  have h0 := h.c0
  have h1 := h.c1
  have h3 := h.c3
  have h4 := h.c4
  have f1 := h.fr 1
  have f3 := h.fr 3
  have f4 := h.fr 4
  have H := Lib.hid h; clear h
  have HI := Lib.hid hin; clear hin
  go_enter Try.func24, Try.ntmps24
  go_wp2
  go_ret
  exact ⟨rfl, H.out.touched k a HI.out, (((Stp.refl [g] w).setCell _ _ (by simp)).setCell _ _ (by simp)).setCell _ _ (by simp)⟩

set_option maxHeartbeats 400000 in
theorem mem_at_out (g b : Nat) (m : MemS) (k a : Int) (w : World) (h : IsMem w g b m) (hm : m.Small) (hin : ¬ m.inr a) :
    Calls Try.prog 24 #[.pointer (some ⟨g, 0, none⟩), .int .i64 k, .int .i64 a] w fun e w' => ∃ d, e = .returned (.pointer (some ⟨d, 0, none⟩)) ∧ IsMem w' g b (m.touch k a) ∧ Stp [g] w w' ∧ w'.heap[d]? = some (.cells #[.int .u64 0] 22 (0, 0)) ∧ w.heap.size ≤ d := by
  obtain ⟨o0, o1, q0, q1⟩ := hm
  have h0 := h.c0
  have h1 := h.c1
  have h2 := h.c2
  have h3 := h.c3
  have h4 := h.c4
  have f1 := h.fr 1
  have f2 := h.fr 2
  have f3 := h.fr 3
  have f4 := h.fr 4
  have hd : a < 0 ∨ (m.words.length : Int) ≤ a := by unfold MemS.inr at hin; omega
  have H := Lib.hid h; clear h
  have HI := Lib.hid hin; clear hin
  rcases hd with hd | hd
  · go_enter Try.func24, Try.ntmps24
    go_wp2
    go_ret
    exact ⟨_, rfl, (H.out.faulted k a HI.out).kept ((Stp.refl [] _).alloc _) (by simp) (by simp), (((((Stp.refl [g] w).setCell _ _ (by simp)).setCell _ _ (by simp)).setCell _ _ (by simp)).setCell _ _ (by simp)).alloc _, blk_new' _ (by simp), by simp⟩
  · have hd' : 0 ≤ a := by omega
    go_enter Try.func24, Try.ntmps24
    go_wp2
    go_ret
    exact ⟨_, rfl, (H.out.faulted k a HI.out).kept ((Stp.refl [] _).alloc _) (by simp) (by simp), (((((Stp.refl [g] w).setCell _ _ (by simp)).setCell _ _ (by simp)).setCell _ _ (by simp)).setCell _ _ (by simp)).alloc _, blk_new' _ (by simp), by simp⟩

theorem MemS.inr_touch (m : MemS) (k a c : Int) : (m.touch k a).inr c ↔ m.inr c := Iff.rfl
theorem MemS.faults_in {m : MemS} {k a : Int} (h : m.inr a) : (m.touch k a).faults = m.faults := by simp [MemS.touch, h]
theorem MemS.faults_out {m : MemS} {k a : Int} (h : ¬ m.inr a) : (m.touch k a).faults = m.faults + 1 := by simp [MemS.touch, h]
theorem MemS.get_touch (m : MemS) (k a c : Int) : (m.touch k a).get c = m.get c := rfl

set_option maxHeartbeats 400000 in
theorem mem_load (g b : Nat) (m : MemS) (a : Int) (w : World) (h : IsMem w g b m) (hm : m.Small) :
    Calls Try.prog 13 #[.pointer (some ⟨g, 0, none⟩), .int .i64 a] w fun e w' => e = .returned (.int .u64 (m.get a)) ∧ IsMem w' g b (m.touch 1 a) ∧ Stp [g] w w' := by
  by_cases hin : m.inr a
  · have hc := mem_at_in g b m 1 a w h hm hin
    have HI := Lib.hid hin; clear hin
    clear h hm
    go_enter Try.func13, Try.ntmps13
    go_wp2_with (go_at_call 24; refine hc.mono ?_; rintro e w1 ⟨rfl, hm1, hk1⟩; have hl := hm1.wd (a := a) HI.out; rw [MemS.get_touch] at hl; have HM := Lib.hid hm1; have HK := Lib.hid hk1; clear hm1 hk1 hc)
    go_ret
    exact ⟨rfl, HM.out, HK.out⟩
  · have hc := mem_at_out g b m 1 a w h hm hin
    have HI := Lib.hid hin; clear hin
    clear h hm
    go_enter Try.func13, Try.ntmps13
    go_wp2_with (go_at_call 24; refine hc.mono ?_; rintro e w1 ⟨d, rfl, hm1, hk1, hd, hds⟩; have hl := (blk_cell hd 0).trans (rfl : _ = some (Value.int .u64 0)); have HM := Lib.hid hm1; have HK := Lib.hid hk1; have HD := Lib.hid hd; clear hm1 hk1 hc hd)
    go_ret
    exact ⟨by simp [MemS.get, HI.out], HM.out, HK.out⟩

set_option maxHeartbeats 400000 in
theorem mem_store (g b : Nat) (m : MemS) (a x : Int) (w : World) (h : IsMem w g b m) (hm : m.Small) :
    Calls Try.prog 11 #[.pointer (some ⟨g, 0, none⟩), .int .i64 a, .int .u64 x] w fun e w' => e = .returned (.tuple #[]) ∧ IsMem w' g b ((m.touch 2 a).put a x) ∧ Stp [g, b] w w' := by
  have hgb : g < w.heap.size := blk_lt h.hs
  have hbb : b < w.heap.size := blk_lt h.hw
  by_cases hin : m.inr a
  · have hc := mem_at_in g b m 2 a w h hm hin
    have HI := Lib.hid hin; clear hin
    clear h hm
    go_enter Try.func11, Try.ntmps11
    go_wp2_with (go_at_call 24; refine hc.mono ?_; rintro e w1 ⟨rfl, hm1, hk1⟩; have hl := hm1.wd (a := a) HI.out; have hf := hm1.frb a.toNat; rw [MemS.get_touch] at hl; have HM := Lib.hid hm1; have HK := Lib.hid hk1; clear hm1 hk1 hc)
    go_end0
    exact ⟨rfl, HM.out.putted x HI.out, (HK.out.mono (by simp)).setCell _ _ (by simp)⟩
  · have hc := mem_at_out g b m 2 a w h hm hin
    have HI := Lib.hid hin; clear hin
    clear h hm
    go_enter Try.func11, Try.ntmps11
    go_wp2_with (go_at_call 24; refine hc.mono ?_; rintro e w1 ⟨d, rfl, hm1, hk1, hd, hds⟩; have hl := (blk_cell hd 0).trans (rfl : _ = some (Value.int .u64 0)); have hf := blk_frozen hd 0; have HM := Lib.hid hm1; have HK := Lib.hid hk1; have HD := Lib.hid hd; clear hm1 hk1 hc hd)
    go_end0
    refine ⟨rfl, ?_, (HK.out.mono (by simp)).setCell _ _ (by simp [hds])⟩
    have e : (m.touch 2 a).put a x = m.touch 2 a := by simp [MemS.put, MemS.inr_touch, HI.out]
    rw [e]
    exact HM.out.kept ((Stp.refl [d] _).setCell _ _ (by simp)) (by simp; omega) (by simp; omega)

theorem MemS.put_out {m : MemS} {a x : Int} (h : ¬ m.inr a) : m.put a x = m := by simp [MemS.put, h]
theorem MemS.get_out {m : MemS} {a : Int} (h : ¬ m.inr a) : m.get a = 0 := by simp [MemS.get, h]

set_option maxHeartbeats 400000 in
theorem mem_swap (g b : Nat) (m : MemS) (a x : Int) (w : World) (h : IsMem w g b m) (hm : m.Small) :
    Calls Try.prog 22 #[.pointer (some ⟨g, 0, none⟩), .int .i64 a, .int .u64 x] w fun e w' => e = .returned (.int .u64 (m.get a)) ∧ IsMem w' g b ((m.touch 3 a).put a x) ∧ Stp [g, b] w w' := by
  have hgb : g < w.heap.size := blk_lt h.hs
  have hbb : b < w.heap.size := blk_lt h.hw
  by_cases hin : m.inr a
  · have hc := mem_at_in g b m 3 a w h hm hin
    have HI := Lib.hid hin; clear hin
    clear h hm
    go_enter Try.func22, Try.ntmps22
    go_wp2_with (go_at_call 24; refine hc.mono ?_; rintro e w1 ⟨rfl, hm1, hk1⟩; have hl := hm1.wd (a := a) HI.out; have hf := hm1.frb a.toNat; rw [MemS.get_touch] at hl; have HM := Lib.hid hm1; have HK := Lib.hid hk1; clear hm1 hk1 hc)
    go_ret
    exact ⟨rfl, HM.out.putted x HI.out, (HK.out.mono (by simp)).setCell _ _ (by simp)⟩
  · have hc := mem_at_out g b m 3 a w h hm hin
    have HI := Lib.hid hin; clear hin
    clear h hm
    go_enter Try.func22, Try.ntmps22
    go_wp2_with (go_at_call 24; refine hc.mono ?_; rintro e w1 ⟨d, rfl, hm1, hk1, hd, hds⟩; have hl := (blk_cell hd 0).trans (rfl : _ = some (Value.int .u64 0)); have hf := blk_frozen hd 0; have HM := Lib.hid hm1; have HK := Lib.hid hk1; have HD := Lib.hid hd; clear hm1 hk1 hc hd)
    go_ret
    refine ⟨by rw [MemS.get_out HI.out]; rfl, ?_, (HK.out.mono (by simp)).setCell _ _ (by simp [hds])⟩
    rw [MemS.put_out (m := m.touch 3 a) HI.out]
    exact HM.out.kept ((Stp.refl [d] _).setCell _ _ (by simp)) (by simp; omega) (by simp; omega)

set_option maxHeartbeats 400000 in
theorem mem_add (g b : Nat) (m : MemS) (a x : Int) (w : World) (h : IsMem w g b m) (hm : m.Small) :
    Calls Try.prog 14 #[.pointer (some ⟨g, 0, none⟩), .int .i64 a, .int .u64 x] w fun e w' => e = .returned (.int .u64 (m.get a)) ∧ IsMem w' g b ((m.touch 5 a).put a (IntKind.u64.wrap (m.get a + x))) ∧ Stp [g, b] w w' := by
  have hgb : g < w.heap.size := blk_lt h.hs
  have hbb : b < w.heap.size := blk_lt h.hw
  by_cases hin : m.inr a
  · have hc := mem_at_in g b m 5 a w h hm hin
    have HI := Lib.hid hin; clear hin
    clear h hm
    go_enter Try.func14, Try.ntmps14
    go_wp2_with (go_at_call 24; refine hc.mono ?_; rintro e w1 ⟨rfl, hm1, hk1⟩; have hl := hm1.wd (a := a) HI.out; have hf := hm1.frb a.toNat; rw [MemS.get_touch] at hl; have HM := Lib.hid hm1; have HK := Lib.hid hk1; clear hm1 hk1 hc)
    go_ret
    exact ⟨rfl, HM.out.putted _ HI.out, (HK.out.mono (by simp)).setCell _ _ (by simp)⟩
  · have hc := mem_at_out g b m 5 a w h hm hin
    have HI := Lib.hid hin; clear hin
    clear h hm
    go_enter Try.func14, Try.ntmps14
    go_wp2_with (go_at_call 24; refine hc.mono ?_; rintro e w1 ⟨d, rfl, hm1, hk1, hd, hds⟩; have hl := (blk_cell hd 0).trans (rfl : _ = some (Value.int .u64 0)); have hf := blk_frozen hd 0; have HM := Lib.hid hm1; have HK := Lib.hid hk1; have HD := Lib.hid hd; clear hm1 hk1 hc hd)
    go_ret
    refine ⟨by rw [MemS.get_out HI.out]; rfl, ?_, (HK.out.mono (by simp)).setCell _ _ (by simp [hds])⟩
    rw [MemS.put_out (m := m.touch 5 a) HI.out]
    exact HM.out.kept ((Stp.refl [d] _).setCell _ _ (by simp)) (by simp; omega) (by simp; omega)

/-- What Swing leaves. -/
def MemS.swing (m : MemS) (a old x : Int) : MemS := if m.inr a ∧ m.get a = old then (m.touch 4 a).put a x else m.touch 4 a

set_option maxHeartbeats 400000 in
theorem mem_swing (g b : Nat) (m : MemS) (a old x : Int) (w : World) (h : IsMem w g b m) (hm : m.Small) :
    Calls Try.prog 12 #[.pointer (some ⟨g, 0, none⟩), .int .i64 a, .int .u64 old, .int .u64 x] w fun e w' => e = .returned (.bool (decide (m.inr a ∧ m.get a = old))) ∧ IsMem w' g b (m.swing a old x) ∧ Stp [g, b] w w' := by
  have hgb : g < w.heap.size := blk_lt h.hs
  have hbb : b < w.heap.size := blk_lt h.hw
  have h2 := h.c2
  by_cases hin : m.inr a
  · have hc := mem_at_in g b m 4 a w h hm hin
    have HI := Lib.hid hin; clear hin
    clear h hm
    by_cases ho : m.get a = old
    · have ho1 : (m.get a != old) = false := by simp [ho]
      have HO := Lib.hid ho; clear ho
      go_enter Try.func12, Try.ntmps12
      go_wp2_with (go_at_call 24; go_must (refine hc.mono ?_; rintro e w1 ⟨rfl, hm1, hk1⟩); have hl := hm1.wd (a := a) HI.out; have hf := hm1.frb a.toNat; have hc2 := hm1.c2; rw [MemS.get_touch] at hl; rw [MemS.faults_in HI.out] at hc2; have HM := Lib.hid hm1; have HK := Lib.hid hk1; clear hm1 hk1 hc)
      go_ret
      refine ⟨by simp [HI.out, HO.out], ?_, (HK.out.mono (by simp)).setCell _ _ (by simp)⟩
      rw [MemS.swing, if_pos ⟨HI.out, HO.out⟩]
      exact HM.out.putted x HI.out
    · have ho1 : (m.get a != old) = true := by simp [ho]
      have HO := Lib.hid ho; clear ho
      go_enter Try.func12, Try.ntmps12
      go_wp2_with (go_at_call 24; go_must (refine hc.mono ?_; rintro e w1 ⟨rfl, hm1, hk1⟩); have hl := hm1.wd (a := a) HI.out; have hf := hm1.frb a.toNat; have hc2 := hm1.c2; rw [MemS.get_touch] at hl; rw [MemS.faults_in HI.out] at hc2; have HM := Lib.hid hm1; have HK := Lib.hid hk1; clear hm1 hk1 hc)
      go_ret
      refine ⟨by simp [HO.out], ?_, (HK.out.mono (by simp))⟩
      rw [MemS.swing, if_neg (fun h => HO.out h.2)]
      exact HM.out
  · have hc := mem_at_out g b m 4 a w h hm hin
    have HI := Lib.hid hin; clear hin
    clear h hm
    go_enter Try.func12, Try.ntmps12
    go_wp2_with (go_at_call 24; refine hc.mono ?_; rintro e w1 ⟨d, rfl, hm1, hk1, hd, hds⟩; have hl := (blk_cell hd 0).trans (rfl : _ = some (Value.int .u64 0)); have hf := blk_frozen hd 0; have hc2 := hm1.c2; rw [MemS.faults_out HI.out] at hc2; have HM := Lib.hid hm1; have HK := Lib.hid hk1; have HD := Lib.hid hd; clear hm1 hk1 hc hd)
    all_goals go_ret
    all_goals
      refine ⟨by simp [HI.out], ?_, (HK.out.mono (by simp))⟩
      rw [MemS.swing, if_neg (fun h => HI.out h.1)]
      exact HM.out

set_option maxHeartbeats 400000 in
theorem mem_peek (g b : Nat) (m : MemS) (a : Int) (w : World) (h : IsMem w g b m) :
    Calls Try.prog 16 #[.pointer (some ⟨g, 0, none⟩), .int .i64 a] w fun e w' => e = .returned (.int .u64 (m.get a)) ∧ w = w' := by
  have h0 := h.c0
  by_cases hin : m.inr a
  · have hl := h.wd hin
    have ha := hin.1
    have ha2 := hin.2
    have HI := Lib.hid hin; clear hin
    have H := Lib.hid h; clear h
    go_enter Try.func16, Try.ntmps16
    go_wp2
    go_ret
    exact ⟨rfl, rfl⟩
  · have hd : a < 0 ∨ (m.words.length : Int) ≤ a := by unfold MemS.inr at hin; omega
    have he := MemS.get_out hin
    have HE := Lib.hid he; clear he
    have HI := Lib.hid hin; clear hin
    have H := Lib.hid h; clear h
    rcases hd with hd | hd
    · go_enter Try.func16, Try.ntmps16
      go_wp2
      go_ret
      exact ⟨by rw [HE.out]; rfl, rfl⟩
    · have hd' : 0 ≤ a := by omega
      go_enter Try.func16, Try.ntmps16
      go_wp2
      go_ret
      exact ⟨by rw [HE.out]; rfl, rfl⟩

set_option maxHeartbeats 400000 in
theorem mem_len (g b : Nat) (m : MemS) (w : World) (h : IsMem w g b m) :
    Calls Try.prog 17 #[.pointer (some ⟨g, 0, none⟩)] w fun e w' => e = .returned (.int .i64 m.words.length) ∧ w = w' := by
  have h0 := h.c0
  have H := Lib.hid h; clear h
  go_enter Try.func17, Try.ntmps17
  go_wp2
  go_ret
  exact ⟨rfl, rfl⟩
set_option maxHeartbeats 400000 in
theorem mem_ops (g b : Nat) (m : MemS) (w : World) (h : IsMem w g b m) :
    Calls Try.prog 20 #[.pointer (some ⟨g, 0, none⟩)] w fun e w' => e = .returned (.int .i64 m.ops) ∧ w = w' := by
  have h0 := h.c1
  have H := Lib.hid h; clear h
  go_enter Try.func20, Try.ntmps20
  go_wp2
  go_ret
  exact ⟨rfl, rfl⟩
set_option maxHeartbeats 400000 in
theorem mem_faults (g b : Nat) (m : MemS) (w : World) (h : IsMem w g b m) :
    Calls Try.prog 21 #[.pointer (some ⟨g, 0, none⟩)] w fun e w' => e = .returned (.int .i64 m.faults) ∧ w = w' := by
  have h0 := h.c2
  have H := Lib.hid h; clear h
  go_enter Try.func21, Try.ntmps21
  go_wp2
  go_ret
  exact ⟨rfl, rfl⟩
set_option maxHeartbeats 400000 in
theorem mem_last (g b : Nat) (m : MemS) (w : World) (h : IsMem w g b m) :
    Calls Try.prog 23 #[.pointer (some ⟨g, 0, none⟩)] w fun e w' => e = .returned (.agg #[.int .i64 m.lk, .int .i64 m.la]) ∧ Stp [] w w' := by
  have h3 := h.c3
  have h4 := h.c4
  have hlt : g < w.heap.size := blk_lt h.hs
  have H := Lib.hid h; clear h
  go_enter Try.func23, Try.ntmps23
  go_wp2
  exact bodyPost_ret (v := .agg #[.int .i64 m.lk, .int .i64 m.la]) (by simp [results, Try.results23, go_sem]) rfl ⟨rfl, (Stp.refl _ _).alloc _⟩

theorem info_u64 : (Try.prog.info? 22).map (fun i => (i.zero, i.size, i.bytes)) = some (some (.int .u64 0), 1, 8) := by kernel_rfl
theorem own_blk {w : World} {base n : Nat} {e : TypeId} {g : Nat} {xs : List Value} (h : w.ownsRow base e 1 (.slice (some ⟨g, 0, none⟩) n n) n xs) : w.heap[g]? = some (.cells xs.toArray e (0, 0)) := by
  obtain ⟨h1, h2⟩ := h
  rcases h2 with ⟨h2, _⟩ | ⟨g', cap, cur, hv, _, hh, _, _, hs, ht⟩
  · cases h2
  · simp only [Value.slice.injEq, Option.some.injEq, Addr.mk.injEq, and_true, true_and] at hv
    obtain ⟨rfl, rfl⟩ := hv
    rw [hh, ← ht, Nat.mul_one, List.take_of_length_le (by simp [hs])]
theorem made_one (v : Value) (h : v.cells = #[v]) (n : Nat) : (madeCells v.cells (n * 1)).toList = List.replicate n v := by
  simp [madeCells, h, Nat.mod_one, List.map_const']
theorem made_u64 (n : Nat) : (madeCells (Value.int .u64 0).cells (n * 1)).toList = (List.replicate n (0 : Int)).map (Value.int .u64) := by
  rw [made_one _ rfl, List.map_replicate]
theorem mem_made {w w1 : World} {n : Nat} (hn : n ≤ 16777216) (hown : w1.ownsRow w.heap.size 22 1 (.slice (some ⟨w.heap.size, 0, none⟩) n n) n (madeCells (Value.int .u64 0).cells (n * 1)).toList) (hg : w.grownBy w1 none) :
    IsMem (w1.alloc (.cells #[.slice (some ⟨w.heap.size, 0, none⟩) n n, .int .i64 0, .int .i64 0, .int .i64 0, .int .i64 0] 50)) w1.heap.size w.heap.size ⟨List.replicate n 0, 0, 0, 0, 0⟩ ∧
      Stp [] w (w1.alloc (.cells #[.slice (some ⟨w.heap.size, 0, none⟩) n n, .int .i64 0, .int .i64 0, .int .i64 0, .int .i64 0] 50)) ∧ w.heap.size ≤ w1.heap.size ∧ w.heap.size ≤ w.heap.size := by
  rw [made_u64] at hown
  have hb := own_blk hown
  exact ⟨⟨by rw [blk_new]; simp, blk_alloc hb _, by simpa using hn⟩, (((Stp.refl [] w).grown hg (by simp))).alloc _, hg.size, Nat.le_refl _⟩
/-- What New leaves: a memory of k words, all 0, in new blocks. -/
def MemNew (w : World) (k : Nat) (e : Ending) (w' : World) : Prop := ∃ g b, e = .returned (.pointer (some ⟨g, 0, none⟩)) ∧ IsMem w' g b ⟨List.replicate k 0, 0, 0, 0, 0⟩ ∧ Stp [] w w' ∧ w.heap.size ≤ g ∧ w.heap.size ≤ b
set_option maxHeartbeats 400000 in
theorem mem_new (n : Int) (w : World) (hn : n ≤ 16777216) :
    Calls Try.prog 10 #[.int .i64 n] w (MemNew w n.toNat) := by
  obtain ⟨i0, hi, hz0, hz1, hz2⟩ := info_parts info_u64
  by_cases h0 : n < 0
  · have e : n.toNat = 0 := by omega
    rw [e]
    go_enter Try.func10, Try.ntmps10
    go_wp2_with (at_make; refine wpList_make_full _ rfl _ _ 23 rfl w.heap.size 22 i0 (.int .u64 0) 1 Try.underlying23 hi hz0 hz1 _ _ _ _ 0 rfl rfl rfl rfl (by omega) (by unfold maxLen; omega) (Nat.le_refl _) ?_; intro w1 hown hgrow; have HO := Lib.hid hown; have HG := Lib.hid hgrow; clear hown hgrow)
    go_ret
    exact ⟨_, _, rfl, mem_made (n := 0) (by omega) HO.out HG.out⟩
  · obtain ⟨k, rfl⟩ : ∃ k : Nat, n = (k : Int) := ⟨n.toNat, by omega⟩
    have hk : k ≤ 16777216 := by omega
    rw [Int.toNat_natCast]
    go_enter Try.func10, Try.ntmps10
    go_wp2_with (at_make; refine wpList_make_full _ rfl _ _ 23 rfl w.heap.size 22 i0 (.int .u64 0) 1 Try.underlying23 hi hz0 hz1 _ _ _ _ k rfl rfl rfl rfl (by rw [hz2]; omega) (by unfold maxLen; omega) (Nat.le_refl _) ?_; intro w1 hown hgrow; have HO := Lib.hid hown; have HG := Lib.hid hgrow; clear hown hgrow)
    go_ret
    exact ⟨_, _, rfl, mem_made (n := k) (by omega) HO.out HG.out⟩

/-- What Clone leaves: a slice of the same cells in a new block. -/
def Cloned (w : World) (t : TypeId) (xs : List Value) (e : Ending) (w' : World) : Prop := ∃ v, e = .returned v ∧ w'.ownsRow w.heap.size t 1 v xs.length xs ∧ v ≠ .slice none 0 0 ∧ Stp [] w w'
set_option maxHeartbeats 400000 in
theorem clone_u64 (b n c : Nat) (xs : List Int) (w : World) (hx : ∀ i, i < xs.length → w.cell? ⟨b, i, none⟩ = some (.int .u64 (xs.getD i 0))) (hn : xs.length = n) (hl : xs.length ≤ 17592186040320) :
    Calls Try.prog 25 #[.slice (some ⟨b, 0, none⟩) n c] w (Cloned w 22 (xs.map (Value.int .u64))) := by
  obtain ⟨i0, hi, hz0, hz1, hz2⟩ := info_parts info_u64
  have ke := fun (w : World) (a : Option Addr) (n c : Nat) => Lib.run_eql_slice_nil (P := Try.prog) w 23 22 a n c 0 0 Try.underlying23
  subst hn
  have H := Lib.hid hx; clear hx
  go_enter Try.func25, Try.ntmps25
  go_wp2_with (at_builtin; refine wpList_append_own _ rfl _ _ 23 rfl w.heap.size 22 i0 (.int .u64 0) 1 8 Try.underlying23 hi hz0 hz1 hz2 rfl (by decide) _ 0 [] rfl (World.ownsRow_made w #[] 0 (Nat.le_refl _) (by decide) rfl) ⟨b, 0, none⟩ xs.length c (xs.map (Value.int .u64)) rfl (by simp) ?_ (ints_oneCell _ _) (by unfold maxLen; omega) (by omega) (by simp) ?_)
  case refine_1 =>
    intro j u hu
    have hj : j < xs.length := by have := (List.getElem?_eq_some_iff.1 hu).1; simpa using this
    have hc := H.out j hj
    have e : (⟨b, 0, none⟩ : Addr).add j = ⟨b, j, none⟩ := by simp [Addr.add]; intro h; exact h.symm
    rw [e, World.cell?_alloc_past _ _ _ (World.block_lt_of_cell? w _ hc), hc, ← hu]
    simp [hj]
  case refine_2 =>
    intro v' w' hown hg hnil
    have HO := Lib.hid hown
    have HG := Lib.hid hg
    have HN := Lib.hid hnil
    clear hown hg hnil
    go_wp2
    go_ret
    exact ⟨v', rfl, by simpa using HO.out, HN.out, ((Stp.refl [] w).alloc _).grown HG.out (by simp [Value.ownBlock])⟩
set_option maxHeartbeats 400000 in
theorem mem_words (g b : Nat) (m : MemS) (w : World) (h : IsMem w g b m) :
    Calls Try.prog 15 #[.pointer (some ⟨g, 0, none⟩)] w (Cloned w 22 (m.words.map (Value.int .u64))) := by
  have h0 := h.c0
  have hc := clone_u64 b m.words.length m.words.length m.words w (fun i hi => by rw [blk_cell h.hw]; simp [hi]) rfl (by have := h.len; omega)
  have H := Lib.hid h; clear h
  go_enter Try.func15, Try.ntmps15
  go_wp2_with (go_at_call 25; refine hc.mono ?_; rintro e w1 ⟨v, rfl, ho, hn, hk⟩; have HO := Lib.hid ho; have HN := Lib.hid hn; have HK := Lib.hid hk; clear ho hn hk hc)
  go_ret
  exact ⟨v, rfl, HO.out, HN.out, HK.out⟩

end Go.Proofs.Ytlmoifbklpflaaa
