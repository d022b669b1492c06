/- The walks of the laws on systems: speaks, ConfChecks, ConfCalls. -/
import Derived.Test.YtbfokghhnhlfgaaConfMay
import Derived.Test.YtbfokghhnhlfgaaConfCheck
import Derived.Test.YtbfokghhnhlfgaaConfNums
import Derived.Laws.BitsLemmas
namespace Go.Proofs.Ytbfokghhnhlfgaa
open Go.RowKit

def TrueStp (w : World) (e : Ending) (w' : World) : Prop := e = .returned (.bool true) ∧ Stp [] w w'
theorem rdInts_blk {w : World} {k : IntKind} {B : Nat} {t : TypeId} {xs : List Int} (hb : w.heap[B]? = some (.cells (xs.map (Value.int k)).toArray t (0, 0))) (hw : ∀ x, x ∈ xs → (Lit.int k x).wf = true) (hl : xs.length ≤ maxLen) : RdInts w k (some ⟨B, 0, none⟩) xs.length xs.length xs :=
  ⟨rfl, Nat.le_refl _, hl, by simp, fun i hi => ⟨B, 0, rfl, blk_lt hb, by rw [blk_cell hb]; simp [hi]⟩, hw⟩
theorem rdInts_nil (w : World) (k : IntKind) : RdInts w k none 0 0 [] := ⟨rfl, Nat.le_refl _, Nat.zero_le _, fun _ => ⟨rfl, rfl⟩, fun i hi => absurd hi (Nat.not_lt_zero i), by simp⟩

set_option maxHeartbeats 1000000 in
theorem speaks_true (w : World) : Calls Try.prog 8 #[] w (TrueStp w) := by
  go_enter Try.func8, Try.ntmps8
  go_wp2_with fail
  have hcl : IsCfg ((w.alloc (.cells #[.int .i64 16, .int .i64 64] 3)).alloc (.cells #[.int .i64 2, .int .i64 1, .int .i64 4, .int .i64 0, .slice (some ⟨w.heap.size, 0, none⟩) 2 2] 24)) ⟨2, 1, 4, 0, [16, 64]⟩ (some ⟨w.heap.size, 0, none⟩) 2 :=
    ⟨rdInts_blk (xs := [16, 64]) (blk_alloc (blk_new w _) _) (by decide) (by decide)⟩
  have Hcl := Lib.hid hcl; clear hcl
  refine (check_spec ⟨2, 1, 4, 0, [16, 64]⟩ (some ⟨w.heap.size, 0, none⟩) 2 _ Hcl.out).mono ?_
  rintro e w1 ⟨rfl, hk⟩
  rw [show (⟨2, 1, 4, 0, [16, 64]⟩ : Cfg).code = 0 from by decide]
  have hb1 := hk.blk (blk_new _ (.cells #[.int .i64 2, .int .i64 1, .int .i64 4, .int .i64 0, .slice (some ⟨w.heap.size, 0, none⟩) 2 2] 24)) (by simp)
  have hK1 := (((Stp.refl [] w).alloc _).alloc _).trans hk
  simp only [World.size_alloc] at hb1
  have Hk := Lib.hid hk; clear hk
  have Hb1 := Lib.hid hb1; clear hb1
  have HK1 := Lib.hid hK1; clear hK1
  go_wp2_with fail
  refine (check_spec ⟨0, 0, 0, 0, []⟩ none 0 _ ⟨rdInts_nil _ _⟩).mono ?_
  rintro e w2 ⟨rfl, hk⟩
  rw [show (⟨0, 0, 0, 0, []⟩ : Cfg).code = 1 from by decide]
  have hb2 := hk.blk Hb1.out (by simp)
  have k0 := blk_cell hb2 0
  have k1 := blk_cell hb2 1
  have k2 := blk_cell hb2 2
  have k3 := blk_cell hb2 3
  have k4 := blk_cell hb2 4
  simp at k0 k1 k2 k3 k4
  have hK2 := HK1.out.trans hk
  clear hk HK1 Hb1
  have Hb2 := Lib.hid hb2; clear hb2
  have HK2 := Lib.hid hK2; clear hK2
  go_wp2_with fail
  refine (bound_spec ⟨2, 1, 4, 0, [16, 64]⟩ (some ⟨w.heap.size, 0, none⟩) 2 _ (by decide) (by decide) (by decide) (by decide) (by decide) (by decide)).mono ?_
  rintro e w3 ⟨rfl, hk⟩
  rw [show (⟨2, 1, 4, 0, [16, 64]⟩ : Cfg).bound = 68 from by decide]
  have hK3 := HK2.out.trans hk
  clear hk
  have HK3 := Lib.hid hK3; clear hK3
  go_wp2_with fail
  refine (record_spec 2 2 _ (by decide) (by decide) (by decide) (by decide)).mono ?_
  rintro e w4 ⟨rfl, rfl⟩
  go_wp2_with fail
  go_ret
  exact ⟨rfl, HK3.out⟩

/-- A Config that came in. -/
theorem cfg_of_fits {W : World} {c0 : Array Value} (h : Fits W (.pair (.int .i64) (.pair (.int .i64) (.pair (.int .i64) (.pair (.int .i64) (.pair (.slice (.int .i64)) .unit))))) c0.toList) :
    ∃ (c : Cfg) (a : Option Addr) (cap : Nat), Value.agg c0 = c.val a cap ∧ IsCfg W c a cap ∧ (Lit.int .i64 c.workers).wf = true ∧ (Lit.int .i64 c.supers).wf = true ∧ (Lit.int .i64 c.batch).wf = true ∧ (Lit.int .i64 c.tries).wf = true := by
  obtain ⟨_, _, h0, ⟨n0, rfl, q0⟩, _, _, rfl, ⟨n1, rfl, q1⟩, _, _, rfl, ⟨n2, rfl, q2⟩, _, _, rfl, ⟨n3, rfl, q3⟩, _, _, rfl, hs, rfl⟩ := h
  obtain ⟨a, len, cap, rows, rfl, _⟩ := id hs
  obtain ⟨xs, hx⟩ := hs.ints
  obtain rfl := hx.n
  refine ⟨⟨n0, n1, n2, n3, xs⟩, a, cap, ?_, ⟨hx⟩, q0, q1, q2, q3⟩
  have : c0 = c0.toList.toArray := by simp
  rw [this, h0]
  rfl

set_option maxHeartbeats 1000000 in
theorem ConfChecks_walk (c0 : Array Value) (W : World) (w0 : Fits W (.pair (.int .i64) (.pair (.int .i64) (.pair (.int .i64) (.pair (.int .i64) (.pair (.slice (.int .i64)) .unit))))) c0.toList) :
    Calls Try.prog 3 #[.agg c0] W fun e w' => e = .returned (.bool true) ∧ Below W.heap.size W w' := by
  obtain ⟨c, a, cap, he, hc, _⟩ := cfg_of_fits w0
  rw [he]
  clear he w0
  have hspec := fun w => may_spec c a cap w
  have hspec2 := fun w => check_spec c a cap w
  have hcode : c.code = if c.may = true then 0 else 1 := rfl
  obtain ⟨nw, ns, nb, nt, xs⟩ := c
  simp only [Cfg.val] at hspec hspec2 ⊢
  have hmost := hc.rd.most
  have hle := hc.rd.le
  unfold maxLen at hmost
  simp only at hle
  have Hc := Lib.hid hc; clear hc
  have Hspec := Lib.hid hspec; clear hspec
  have Hspec2 := Lib.hid hspec2; clear hspec2
  have Hcode := Lib.hid hcode; clear hcode
  by_cases h100 : 100 < xs.length
  · go_enter Try.func3, Try.ntmps3
    go_wp2_with fail
    refine (speaks_true _).mono ?_
    rintro e w2 ⟨rfl, hk⟩
    have hb1 := hk.blk (blk_new W _) (by simp)
    have k4 := blk_cell hb1 4
    simp at k4
    have hK := ((Stp.refl [] W).alloc _).trans hk
    clear hk
    have HK := Lib.hid hK; clear hK
    have Hb1 := Lib.hid hb1; clear hb1
    go_wp2_with fail
    go_ret
    exact ⟨rfl, HK.out.below0⟩
  · go_enter Try.func3, Try.ntmps3
    go_wp2_with fail
    refine (speaks_true _).mono ?_
    rintro e w2 ⟨rfl, hk⟩
    have hb1 := hk.blk (blk_new W _) (by simp)
    have k0 := blk_cell hb1 0
    have k1 := blk_cell hb1 1
    have k2 := blk_cell hb1 2
    have k3 := blk_cell hb1 3
    have k4 := blk_cell hb1 4
    simp at k0 k1 k2 k3 k4
    have hK := ((Stp.refl [] W).alloc _).trans hk
    clear hk
    have HK := Lib.hid hK; clear hK
    have Hb1 := Lib.hid hb1; clear hb1
    go_wp2_with fail
    refine (Hspec.out _ (Hc.out.kept HK.out)).mono ?_
    rintro e w3 ⟨rfl, hk⟩
    have hb1 := hk.blk Hb1.out (by simp)
    have j0 := blk_cell hb1 0
    have j1 := blk_cell hb1 1
    have j2 := blk_cell hb1 2
    have j3 := blk_cell hb1 3
    have j4 := blk_cell hb1 4
    simp at j0 j1 j2 j3 j4
    have hK3 := HK.out.trans hk
    clear hk k0 k1 k2 k3 k4
    have HK3 := Lib.hid hK3; clear hK3
    cases hm : (⟨nw, ns, nb, nt, xs⟩ : Cfg).may
    all_goals
      have hcd := Hcode.out
      rw [hm] at hcd
      simp at hcd
      have Hm := Lib.hid hm; clear hm
      have Hcd := Lib.hid hcd; clear hcd
      go_wp2_with fail
      refine (Hspec2.out _ (Hc.out.kept HK3.out)).mono ?_
      rintro e w4 ⟨rfl, hk⟩
      rw [Hcd.out]
      have hK4 := HK3.out.trans hk
      clear hk
      have HK4 := Lib.hid hK4; clear hK4
      go_wp2_with fail
      go_ret
      exact ⟨rfl, HK4.out.below0⟩
end Go.Proofs.Ytbfokghhnhlfgaa
