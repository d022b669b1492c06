/- The bounds: the contracts of conf's State, Record, Attempt, Call, Bound. -/
import Derived.Test.YtbfokghhnhlfgaaConfA
namespace Go.Proofs.Ytbfokghhnhlfgaa
open Go.RowKit

theorem mul_bd {a b A B : Int} (ha : 0 ≤ a) (hA : a ≤ A) (hb : 0 ≤ b) (hB : b ≤ B) : 0 ≤ a * b ∧ a * b ≤ A * B :=
  ⟨Int.mul_nonneg ha hb, Int.mul_le_mul hA hB hb (by omega)⟩
def attemptN (words workers : Int) : Int := 2 * (words + 3 * workers) + 4 * workers + 6
def callN (words workers tries : Int) : Int := (tries + 2) * attemptN words workers + 6
def Cfg.bound (c : Cfg) : Int := callN (2 * c.supers) c.workers c.tries + 2
theorem attempt_bd {a b : Int} (ha : 0 ≤ a) (hA : a ≤ 1000) (hb : 0 ≤ b) (hB : b ≤ 1000) : 6 ≤ attemptN a b ∧ attemptN a b ≤ 12006 := by unfold attemptN; omega

set_option maxHeartbeats 400000 in
theorem record_spec (a b : Int) (w : World) (ha : 0 ≤ a) (hA : a ≤ 1000) (hb : 0 ≤ b) (hB : b ≤ 1000) :
    Calls Try.prog 16 #[.int .i64 a, .int .i64 b] w fun e w' => e = .returned (.int .i64 (a + 3 * b)) ∧ w = w' := by
  go_enter Try.func16, Try.ntmps16
  go_wp2_with fail
  go_ret
  exact ⟨rfl, rfl⟩
set_option maxHeartbeats 400000 in
theorem attempt_spec (a b : Int) (w : World) (ha : 0 ≤ a) (hA : a ≤ 1000) (hb : 0 ≤ b) (hB : b ≤ 1000) :
    Calls Try.prog 15 #[.int .i64 a, .int .i64 b] w fun e w' => e = .returned (.int .i64 (attemptN a b)) ∧ w = w' := by
  go_enter Try.func15, Try.ntmps15
  go_wp2_with fail
  refine (record_spec a b w ha hA hb hB).mono ?_
  rintro e w1 ⟨rfl, rfl⟩
  go_wp2_with fail
  go_ret
  exact ⟨rfl, rfl⟩
set_option maxHeartbeats 400000 in
theorem call_spec (a b t : Int) (w : World) (ha : 0 ≤ a) (hA : a ≤ 1000) (hb : 0 ≤ b) (hB : b ≤ 1000) (ht : 0 ≤ t) (hT : t ≤ 1000) :
    Calls Try.prog 13 #[.int .i64 a, .int .i64 b, .int .i64 t] w fun e w' => e = .returned (.int .i64 (callN a b t)) ∧ w = w' := by
  have hat := attempt_bd ha hA hb hB
  have hm := mul_bd (a := t + 2) (A := 1002) (by omega) (by omega) (show 0 ≤ attemptN a b by omega) hat.2
  have hc : callN a b t = (t + 2) * attemptN a b + 6 := rfl
  have hs := attempt_spec a b w ha hA hb hB
  generalize attemptN a b = at_ at hat hm hc hs
  generalize hp : (t + 2) * at_ = p at hm hc
  have hw : IntKind.i64.wrap ((t + 2) * at_) = p := by rw [hp]; exact IntWalk.i64_in _ (by omega)
  have h2 := hm.1
  have h3 := hm.2
  clear hp hm hat
  have Hs := Lib.hid hs; clear hs
  have Hc := Lib.hid hc; clear hc
  go_enter Try.func13, Try.ntmps13
  go_wp2_with fail
  refine (Hs.out).mono ?_
  rintro e w1 ⟨rfl, rfl⟩
  go_wp2_with fail
  go_ret
  exact ⟨by rw [Hc.out]; rfl, rfl⟩
set_option maxHeartbeats 400000 in
theorem state_spec (c : Cfg) (a : Option Addr) (cap : Nat) (w : World) (h0 : 0 ≤ c.supers) (h1 : c.supers ≤ 500) :
    Calls Try.prog 14 #[c.val a cap] w fun e w' => e = .returned (.int .i64 (2 * c.supers)) ∧ Stp [] w w' := by
  obtain ⟨nw, ns, nb, nt, xs⟩ := c
  simp only [Cfg.val] at h0 h1 ⊢
  go_enter Try.func14, Try.ntmps14
  go_wp2_with fail
  go_ret
  exact ⟨rfl, (Stp.refl [] w).alloc _⟩
set_option maxHeartbeats 1000000 in
theorem bound_spec (c : Cfg) (a : Option Addr) (cap : Nat) (w : World) (h0 : 0 ≤ c.supers) (h1 : c.supers ≤ 500) (h2 : 0 ≤ c.workers) (h3 : c.workers ≤ 1000) (h4 : 0 ≤ c.tries) (h5 : c.tries ≤ 1000) :
    Calls Try.prog 11 #[c.val a cap] w fun e w' => e = .returned (.int .i64 c.bound) ∧ Stp [] w w' := by
  have hbo : c.bound = callN (2 * c.supers) c.workers c.tries + 2 := rfl
  have hst := state_spec c a cap
  have hat := attempt_bd (a := 2 * c.supers) (b := c.workers) (by omega) (by omega) h2 h3
  have hm := mul_bd (a := c.tries + 2) (A := 1002) (by omega) (by omega) (show 0 ≤ attemptN (2 * c.supers) c.workers by omega) hat.2
  have hc1 : 0 ≤ callN (2 * c.supers) c.workers c.tries ∧ callN (2 * c.supers) c.workers c.tries ≤ 20000000 := by unfold callN; omega
  have hc := fun w => call_spec (2 * c.supers) c.workers c.tries w (by omega) (by omega) h2 h3 h4 h5
  obtain ⟨nw, ns, nb, nt, xs⟩ := c
  simp only [Cfg.val] at h0 h1 h2 h3 h4 h5 hbo hst hc hc1 ⊢
  generalize callN (2 * ns) nw nt = p at hc hc1 hbo
  obtain ⟨hp0, hp1⟩ := hc1
  have hpw : IntKind.i64.wrap (p + 2) = p + 2 := IntWalk.i64_in _ (by omega)
  clear hat hm
  have Hbo := Lib.hid hbo; clear hbo
  have Hst := Lib.hid hst; clear hst
  have Hc := Lib.hid hc; clear hc
  go_enter Try.func11, Try.ntmps11
  go_wp2_with fail
  go_region_held3 (fun w' => w'.cell? ⟨w.heap.size, 0, none⟩ = some (.int .i64 nw) ∧ w'.cell? ⟨w.heap.size, 1, none⟩ = some (.int .i64 ns) ∧ w'.cell? ⟨w.heap.size, 2, none⟩ = some (.int .i64 nb) ∧ w'.cell? ⟨w.heap.size, 3, none⟩ = some (.int .i64 nt) ∧ w'.cell? ⟨w.heap.size, 4, none⟩ = some (.slice a xs.length cap)) (go_keep)
    ((first | (go_at_call 14; refine (Hst.out _ h0 h1).mono ?_; rintro e w1 ⟨rfl, hk⟩; have hb1 := hk.blk (show (w.alloc (.cells #[.int .i64 nw, .int .i64 ns, .int .i64 nb, .int .i64 nt, .slice a xs.length cap] 24)).drew.heap[w.heap.size]? = _ from blk_new w _) (by simp); have k0 := blk_cell hb1 0; have k1 := blk_cell hb1 1; have k2 := blk_cell hb1 2; have k3 := blk_cell hb1 3; have k4 := blk_cell hb1 4; simp at k0 k1 k2 k3 k4; have HK := Lib.hid hk; clear hk hb1) | (go_at_call 13; refine (Hc.out _).mono ?_; rintro e w1 ⟨rfl, rfl⟩)))
  go_wp2_with fail
  go_ret
  exact ⟨by rw [Hbo.out]; rfl, ((Stp.refl [] w).alloc _).drew.trans HK.out⟩
set_option maxHeartbeats 400000 in
theorem refbound_spec (c : Cfg) (a : Option Addr) (cap : Nat) (w : World) (h0 : 0 ≤ c.supers) (h1 : c.supers ≤ 500) (h2 : 0 ≤ c.workers) (h3 : c.workers ≤ 1000) (h4 : 0 ≤ c.tries) (h5 : c.tries ≤ 1000) :
    Calls Try.prog 12 #[c.val a cap] w fun e w' => e = .returned (.int .i64 c.bound) ∧ Stp [] w w' := by
  have hbo : c.bound = (c.tries + 2) * (2 * (2 * c.supers + 3 * c.workers) + 4 * c.workers + 6) + 8 := by simp [Cfg.bound, callN, attemptN]; omega
  have hat := attempt_bd (a := 2 * c.supers) (b := c.workers) (by omega) (by omega) h2 h3
  have hm := mul_bd (a := c.tries + 2) (A := 1002) (by omega) (by omega) (show 0 ≤ attemptN (2 * c.supers) c.workers by omega) hat.2
  unfold attemptN at hm
  obtain ⟨nw, ns, nb, nt, xs⟩ := c
  simp only [Cfg.val] at h0 h1 h2 h3 h4 h5 hbo hm ⊢
  clear hat
  generalize hp : (nt + 2) * (2 * (2 * ns + 3 * nw) + 4 * nw + 6) = p at hm hbo
  have hw : IntKind.i64.wrap ((nt + 2) * (2 * (2 * ns + 3 * nw) + 4 * nw + 6)) = p := by rw [hp]; exact IntWalk.i64_in _ (by omega)
  obtain ⟨hm0, hm1⟩ := hm
  clear hp
  have Hbo := Lib.hid hbo; clear hbo
  go_enter Try.func12, Try.ntmps12
  go_wp2_with fail
  go_ret
  exact ⟨by rw [Hbo.out]; rfl, (Stp.refl [] w).alloc _⟩

end Go.Proofs.Ytbfokghhnhlfgaa
