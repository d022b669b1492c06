/- The walk of ConfCalls. -/
import Derived.Test.YtbfokghhnhlfgaaW04a
namespace Go.Proofs.Ytbfokghhnhlfgaa
open Go.RowKit

set_option maxRecDepth 100000 in
set_option maxHeartbeats 2000000 in
theorem ConfCalls_walk (a b t : Int) (W : World) (w0 : (Lit.int .u8 a).wf = true) (w1 : (Lit.int .u8 b).wf = true) (w2 : (Lit.int .u8 t).wf = true) :
    Calls Try.prog 5 #[.int .u8 a, .int .u8 b, .int .u8 t] W fun e w' => e = .returned (.bool true) ∧ Below W.heap.size W w' := by
  obtain ⟨ha, hA⟩ := bounds_u8 w0
  obtain ⟨hb, hB⟩ := bounds_u8 w1
  obtain ⟨ht, hT⟩ := bounds_u8 w2
  clear w0 w1 w2
  have c1 := fun w => call_spec a b (t + 1) w (by omega) (by omega) (by omega) (by omega) (by omega) (by omega)
  have c0 := fun w => call_spec a b t w (by omega) (by omega) (by omega) (by omega) (by omega) (by omega)
  have at0 := fun w => attempt_spec a b w (by omega) (by omega) (by omega) (by omega)
  have ata := fun w => attempt_spec (a + 1) b w (by omega) (by omega) (by omega) (by omega)
  have atb := fun w => attempt_spec a (b + 1) w (by omega) (by omega) (by omega) (by omega)
  have hr := fun w => record_spec a b w (by omega) (by omega) (by omega) (by omega)
  have hq := attempt_bd (a := a) (b := b) (by omega) (by omega) (by omega) (by omega)
  have hqa : attemptN (a + 1) b = attemptN a b + 2 := by unfold attemptN; omega
  have hqb : attemptN a (b + 1) = attemptN a b + 10 := by unfold attemptN; omega
  have hqq : attemptN a b = 2 * (a + 3 * b) + 4 * b + 6 := rfl
  have hp0 : callN a b t = (t + 2) * attemptN a b + 6 := rfl
  have hp1 : callN a b (t + 1) = callN a b t + attemptN a b := by
    unfold callN
    rw [show t + 1 + 2 = (t + 2) + 1 by omega, Int.add_mul]; omega
  have hm := mul_bd (a := t + 2) (A := 1002) (by omega) (by omega) (show 0 ≤ attemptN a b by omega) hq.2
  rw [hqa] at ata
  rw [hqb] at atb
  rw [hp1] at c1
  generalize hpp : callN a b t = p at c1 c0 hp0 hp1
  have hmw : IntKind.i64.wrap ((t + 2) * (2 * (a + 3 * b) + 4 * b + 6)) = p - 6 := by rw [← hqq, IntWalk.i64_in _ (by omega)]; omega
  have hpb : 6 ≤ p ∧ p ≤ 20000000 := by omega
  clear hqa hqb hp0 hp1 hm hpp
  generalize attemptN a b = q at c1 at0 ata atb hq hqq
  obtain ⟨hq0, hq1⟩ := hq
  obtain ⟨hp0, hp1⟩ := hpb
  have t1 : (p + q - p != q) = false := by simp; omega
  have t4 : (q == 2 * (a + 3 * b) + 4 * b + 6) = true := by simp; omega
  have t5 : (p == p - 6 + 6) = true := by simp
  clear hqq
  have Hc1 := Lib.hid c1; clear c1
  have Hc0 := Lib.hid c0; clear c0
  have Hat0 := Lib.hid at0; clear at0
  have Hata := Lib.hid ata; clear ata
  have Hatb := Lib.hid atb; clear atb
  have Hr := Lib.hid hr; clear hr
  go_enter Try.func5, Try.ntmps5
  go_wp2_with fail
  refine (speaks_true _).mono ?_
  rintro e w2 ⟨rfl, hk⟩
  have Hk := Lib.hid hk; clear hk
  go_wp2_with fail
  refine (Hc1.out _).mono ?_
  rintro e w3 ⟨rfl, rfl⟩
  go_wp2_with fail
  refine (Hc0.out _).mono ?_
  rintro e w3 ⟨rfl, rfl⟩
  go_wp2_with fail
  refine (Hat0.out _).mono ?_
  rintro e w3 ⟨rfl, rfl⟩
  go_wp2_with fail
  refine (Hata.out _).mono ?_
  rintro e w3 ⟨rfl, rfl⟩
  go_wp2_with fail
  refine (Hat0.out _).mono ?_
  rintro e w3 ⟨rfl, rfl⟩
  go_wp2_with fail
  refine (Hatb.out _).mono ?_
  rintro e w3 ⟨rfl, rfl⟩
  go_wp2_with fail
  refine (Hat0.out _).mono ?_
  rintro e w3 ⟨rfl, rfl⟩
  go_wp2_with fail
  refine (Hr.out _).mono ?_
  rintro e w3 ⟨rfl, rfl⟩
  go_wp2_with fail
  refine (Hat0.out _).mono ?_
  rintro e w3 ⟨rfl, rfl⟩
  go_wp2_with fail
  refine (Hc0.out _).mono ?_
  rintro e w3 ⟨rfl, rfl⟩
  go_wp2_with fail
  go_ret
  exact ⟨rfl, Hk.out.below0⟩
end Go.Proofs.Ytbfokghhnhlfgaa
