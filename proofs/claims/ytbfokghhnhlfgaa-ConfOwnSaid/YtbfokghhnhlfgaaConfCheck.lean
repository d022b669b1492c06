/- The contract of conf.Check. -/
import Derived.Test.YtbfokghhnhlfgaaConfA
namespace Go.Proofs.Ytbfokghhnhlfgaa
open Go.RowKit

set_option maxHeartbeats 400000 in
theorem conf_in (n a b : Int) (w : World) :
    Calls Try.prog 18 #[.int .i64 n, .int .i64 a, .int .i64 b] w fun e w' => e = .returned (.bool (decide (a ≤ n ∧ n ≤ b))) ∧ w = w' := by
  by_cases h0 : a ≤ n
  · go_enter Try.func18, Try.ntmps18
    go_wp2_with fail
    go_ret
    exact ⟨by simp [h0], rfl⟩
  · go_enter Try.func18, Try.ntmps18
    go_wp2_with fail
    go_ret
    exact ⟨by rw [decide_eq_false (by omega)]; rfl, rfl⟩

/-- Check's loop. -/
def ChkInv (xs : List Int) (vl vi : Value) : Prop := ∃ (k : Nat) (l : Int), k ≤ xs.length ∧ vi = .int .i64 k ∧ vl = .int .i64 l ∧ 0 ≤ l ∧ okC 0 xs = okC l (xs.drop k)
theorem okC_drop {xs : List Int} {k : Nat} (l : Int) (h : k < xs.length) : okC l (xs.drop k) = (decide (l < xs.getD k 0) && decide (xs.getD k 0 ≤ 512) && decide (xs.getD k 0 % 16 = 0) && okC (xs.getD k 0) (xs.drop (k + 1))) := by
  rw [List.drop_eq_getElem_cons h]
  simp [okC, List.getD, h]
def Cfg.code (c : Cfg) : Int := if c.may then 0 else 1
set_option maxRecDepth 100000 in
set_option maxHeartbeats 4000000 in
theorem check_spec (c : Cfg) (a : Option Addr) (cap : Nat) (w : World) (h : IsCfg w c a cap) :
    Calls Try.prog 10 #[c.val a cap] w fun e w' => e = .returned (.int .i64 c.code) ∧ Stp [] w w' := by
  obtain ⟨h⟩ := h
  obtain ⟨nw, ns, nb, nt, xs⟩ := c
  simp only [Cfg.val] at h ⊢
  have hmost := h.most
  have hle := h.le
  unfold maxLen at hmost
  have hn : (⟨nw, ns, nb, nt, xs⟩ : Cfg).numOk = decide (1 ≤ nw ∧ nw ≤ 64 ∧ 1 ≤ ns ∧ ns ≤ 64 ∧ 1 ≤ nb ∧ nb ≤ 64 ∧ 0 ≤ nt ∧ nt ≤ 8 ∧ 1 ≤ xs.length ∧ xs.length ≤ 16) := rfl
  have hcode : (⟨nw, ns, nb, nt, xs⟩ : Cfg).code = if ((⟨nw, ns, nb, nt, xs⟩ : Cfg).numOk && okC 0 xs) = true then 0 else 1 := rfl
  have H := Lib.hid h; clear h
  have Hcode := Lib.hid hcode; clear hcode
  go_enter Try.func10, Try.ntmps10
  go_upto_region 1 with fail
  go_cut [34] (fun s wx => s = .bool (!(⟨nw, ns, nb, nt, xs⟩ : Cfg).numOk) ∧ wx = w.alloc (.cells #[.int .i64 nw, .int .i64 ns, .int .i64 nb, .int .i64 nt, .slice a xs.length cap] 24))
  case first =>
    have Hn := Lib.hid hn; clear hn
    go_wp2_with (go_at_call 18; refine (conf_in _ _ _ _).mono ?_; rintro e w1 ⟨rfl, rfl⟩)
    all_goals go_meet
    all_goals (case rel => rw [Hn.out]; refine ⟨congrArg Value.bool ?_, rfl⟩; (first | rfl | exact (decide_eq_true (by omega)).symm | exact (decide_eq_false (by omega)).symm | exact decide_eq_decide.2 (by omega) | (rw [Bool.eq_iff_iff]; simp only [Bool.or_eq_true, Bool.and_eq_true, Bool.not_eq_true', Bool.not_true, Bool.not_false, Bool.false_eq_true, decide_eq_true_eq, decide_eq_false_iff_not, true_iff, false_iff, iff_true, iff_false]; omega) | (rw [Bool.eq_iff_iff]; simp; omega)))
  case rest =>
    obtain ⟨rfl, rfl⟩ := hcut
    clear hn
    by_cases hnum : (⟨nw, ns, nb, nt, xs⟩ : Cfg).numOk = true
    · rw [hnum, Bool.not_true]
      have hcode2 : (⟨nw, ns, nb, nt, xs⟩ : Cfg).code = if okC 0 xs = true then 0 else 1 := by rw [Hcode.out, hnum, Bool.true_and]
      have Hcode2 := Lib.hid hcode2; clear hcode2
      clear Hcode hnum
      go_wp2_with fail
      go_loop [3, 38] (fun vl vi => ChkInv xs vl vi) (fun _ vi => xs.length - (intOf vi).toNat)
      case atStart => exact ⟨0, 0, Nat.zero_le _, rfl, rfl, Int.le_refl _, rfl⟩
      case round =>
        obtain ⟨k, l, hk, rfl, rfl, hl0, hok⟩ := hrel
        by_cases hlt : k < xs.length
        · rw [okC_drop l hlt] at hok
          obtain ⟨b, off, rfl, hb, hcell⟩ := H.out.cell k hlt
          replace hcell := ((Stp.refl [] w).alloc (.cells #[.int .i64 nw, .int .i64 ns, .int .i64 nb, .int .i64 nt, .slice (some ⟨b, off, none⟩) xs.length cap] 24)).cell hcell (by simp)
          generalize xs.getD k 0 = x at hcell hok
          have Hok := Lib.hid hok; clear hok
          go_wp2_with fail
          · go_ret
            refine ⟨?_, (Stp.refl [] w).alloc _⟩
            have hx16 : ¬ x % 16 = 0 := by have : (x ≤ l ∨ 512 < x) ∨ (x % 16 != 0) = true := by assumption
                                           rcases this with h | h
                                           · omega
                                           · simpa using h
            rw [Hcode2.out, Hok.out, decide_eq_false hx16]
            simp
          · have hx16 : x % 16 = 0 := by have : (l < x ∧ x ≤ 512) ∧ (x % 16 != 0) = false := by assumption
                                         simpa using this.2
            have h1 : l < x := by assumption
            have h2 : x ≤ 512 := by assumption
            have hok := Hok.out
            rw [decide_eq_true h1, decide_eq_true h2, decide_eq_true hx16] at hok
            have Hok := Lib.hid hok; clear hok
            go_round
            case rel => exact ⟨k + 1, x, by omega, by go_num, rfl, by omega, by rw [Hok.out]; rfl⟩
            case measure => simp [intOf]; omega
          · go_ret
            refine ⟨?_, (Stp.refl [] w).alloc _⟩
            rw [Hcode2.out, Hok.out, decide_eq_false (show ¬ x ≤ 512 by omega)]
            simp
          · go_ret
            refine ⟨?_, (Stp.refl [] w).alloc _⟩
            rw [Hcode2.out, Hok.out, decide_eq_false (show ¬ l < x by omega)]
            simp
        · obtain rfl : k = xs.length := by omega
          have Hok := Lib.hid hok; clear hok
          go_wp2_with fail
          go_ret
          refine ⟨?_, (Stp.refl [] w).alloc _⟩
          have := Hok.out
          rw [List.drop_length, okC] at this
          rw [Hcode2.out, this]
          rfl
    · rw [Bool.not_eq_true] at hnum
      rw [hnum, Bool.not_false]
      have hcode2 : (⟨nw, ns, nb, nt, xs⟩ : Cfg).code = 1 := by rw [Hcode.out, hnum]; rfl
      have Hcode2 := Lib.hid hcode2; clear hcode2
      clear Hcode hnum
      go_wp2_with fail
      go_ret
      exact ⟨by rw [Hcode2.out]; rfl, (Stp.refl [] w).alloc _⟩
end Go.Proofs.Ytbfokghhnhlfgaa
