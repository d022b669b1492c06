/- The contract of the document's May. -/
import Derived.Test.YtbfokghhnhlfgaaConfA
namespace Go.Proofs.Ytbfokghhnhlfgaa
open Go.RowKit

theorem Cfg.may_num {c : Cfg} (h : c.may = true) : (1 ≤ c.workers ∧ c.workers ≤ 64) ∧ (1 ≤ c.supers ∧ c.supers ≤ 64) ∧ (1 ≤ c.batch ∧ c.batch ≤ 64) ∧ (0 ≤ c.tries ∧ c.tries ≤ 8) ∧ 1 ≤ c.classes.length ∧ c.classes.length ≤ 16 := by
  simp only [Cfg.may, Cfg.numOk, Bool.and_eq_true, decide_eq_true_eq] at h
  omega

/-- May's loop. -/
def MayInv (c : Cfg) (vo vi : Value) : Prop := ∃ k : Nat, k ≤ c.classes.length ∧ vi = .int .i64 k ∧ vo = .bool (c.numOk && mayUpto c.classes k)
set_option maxRecDepth 100000 in
set_option maxHeartbeats 4000000 in
theorem may_spec (c : Cfg) (a : Option Addr) (cap : Nat) (w : World) (h : IsCfg w c a cap) :
    Calls Try.prog 9 #[c.val a cap] w fun e w' => e = .returned (.bool c.may) ∧ Stp [] w w' := by
  obtain ⟨h⟩ := h
  obtain ⟨nw, ns, nb, nt, xs⟩ := c
  simp only [Cfg.val] at h ⊢
  have hmost := h.most
  have hle := h.le
  unfold maxLen at hmost
  have hn : (⟨nw, ns, nb, nt, xs⟩ : Cfg).numOk = decide (1 ≤ nw ∧ nw ≤ 64 ∧ 1 ≤ ns ∧ ns ≤ 64 ∧ 1 ≤ nb ∧ nb ≤ 64 ∧ 0 ≤ nt ∧ nt ≤ 8 ∧ 1 ≤ xs.length ∧ xs.length ≤ 16) := rfl
  have H := Lib.hid h; clear h
  go_enter Try.func9, Try.ntmps9
  go_upto_region 1 with fail
  go_cut [3] (fun s3 wx => s3 = .bool (decide (1 ≤ nw ∧ nw ≤ 64 ∧ 1 ≤ ns ∧ ns ≤ 64 ∧ 1 ≤ nb ∧ nb ≤ 64 ∧ 0 ≤ nt ∧ nt ≤ 8)) ∧ wx = w.alloc (.cells #[.int .i64 nw, .int .i64 ns, .int .i64 nb, .int .i64 nt, .slice a xs.length cap] 24))
  case first =>
    go_wp2_with fail
    all_goals go_meet
    all_goals (case rel => refine ⟨congrArg Value.bool ?_, rfl⟩; first | exact (decide_eq_true (by omega)).symm | exact (decide_eq_false (by omega)).symm | exact decide_eq_decide.2 (by omega))
  case rest =>
    obtain ⟨rfl, rfl⟩ := hcut
    go_upto_region 2 with fail
    go_cut [3] (fun s3 wx => s3 = .bool (decide (1 ≤ nw ∧ nw ≤ 64 ∧ 1 ≤ ns ∧ ns ≤ 64 ∧ 1 ≤ nb ∧ nb ≤ 64 ∧ 0 ≤ nt ∧ nt ≤ 8 ∧ 1 ≤ xs.length ∧ xs.length ≤ 16)) ∧ wx = w.alloc (.cells #[.int .i64 nw, .int .i64 ns, .int .i64 nb, .int .i64 nt, .slice a xs.length cap] 24))
    case first =>
      by_cases hB : 1 ≤ nw ∧ nw ≤ 64 ∧ 1 ≤ ns ∧ ns ≤ 64 ∧ 1 ≤ nb ∧ nb ≤ 64 ∧ 0 ≤ nt ∧ nt ≤ 8
      · rw [decide_eq_true hB]
        have HB := Lib.hid hB; clear hB
        go_wp2_with fail
        all_goals go_meet
        all_goals (case rel => have hB := HB.out; refine ⟨congrArg Value.bool ?_, rfl⟩; first | exact (decide_eq_true (by omega)).symm | exact (decide_eq_false (by omega)).symm | exact decide_eq_decide.2 (by omega))
      · rw [decide_eq_false hB]
        have HB := Lib.hid hB; clear hB
        go_wp2_with fail
        all_goals go_meet
        all_goals (case rel => have hB := HB.out; refine ⟨congrArg Value.bool ?_, rfl⟩; first | exact (decide_eq_true (by omega)).symm | exact (decide_eq_false (by omega)).symm | exact decide_eq_decide.2 (by omega))
    case rest =>
      obtain ⟨rfl, rfl⟩ := hcut
      rw [← hn]
      clear hn
      go_wp2_with fail
      go_loop [3, 4] (fun vo vi => MayInv ⟨nw, ns, nb, nt, xs⟩ vo vi) (fun _ vi => xs.length - (intOf vi).toNat)
      case atStart => exact ⟨0, Nat.zero_le _, rfl, by simp [mayUpto]⟩
      case round =>
        obtain ⟨k, hk, rfl, rfl⟩ := hrel
        simp only at hk
        by_cases hlt : k < xs.length
        · obtain ⟨b, off, rfl, hb, hcell⟩ := H.out.cell k hlt
          replace hcell := ((Stp.refl [] w).alloc (.cells #[.int .i64 nw, .int .i64 ns, .int .i64 nb, .int .i64 nt, .slice (some ⟨b, off, none⟩) xs.length cap] 24)).cell hcell (by simp)
          have hx : xs.getD k 0 = xs.getD k 0 := rfl
          generalize hxv : xs.getD k 0 = x at hcell
          have hu : mayUpto xs (k + 1) = (mayUpto xs k && mayAt xs k) := rfl
          have hat : mayAt xs k = decide (16 ≤ x ∧ x ≤ 512 ∧ x % 16 = 0 ∧ (k = 0 ∨ xs.getD (k - 1) 0 < x)) := by rw [← hxv]; rfl
          have Hu := Lib.hid hu; clear hu
          have Hat := Lib.hid hat; clear hat
          have Hxv := Lib.hid hxv; clear hxv
          clear hx
          go_upto_block 1 with fail
          go_cut [3] (fun s3 wx => s3 = .bool ((⟨nw, ns, nb, nt, xs⟩ : Cfg).numOk && mayUpto xs (k + 1)) ∧ wx = w.alloc (.cells #[.int .i64 nw, .int .i64 ns, .int .i64 nb, .int .i64 nt, .slice (some ⟨b, off, none⟩) xs.length cap] 24))
          case first =>
            obtain ⟨bb, hbb⟩ : ∃ bb, ((⟨nw, ns, nb, nt, xs⟩ : Cfg).numOk && mayUpto xs k) = bb := ⟨_, rfl⟩
            rw [hbb]
            have Hbb := Lib.hid hbb; clear hbb
            cases bb with
            | false =>
              go_wp2_with fail
              go_meet
              case rel => exact ⟨by rw [Hu.out, ← Bool.and_assoc, Hbb.out]; rfl, rfl⟩
            | true =>
              by_cases hk0 : k = 0
              · subst hk0
                simp only [Nat.add_zero, Int.natCast_zero] at hcell ⊢
                have h0i : (0 : Int) < (xs.length : Int) := by omega
                go_wp2_with fail
                all_goals go_meet
                all_goals (case rel => refine ⟨?_, rfl⟩; rw [Hu.out, ← Bool.and_assoc, Hbb.out, Bool.true_and, Hat.out]; refine congrArg Value.bool ?_; (try simp only [true_or, and_true]); first | exact (decide_eq_true (by omega)).symm | exact (decide_eq_false (by omega)).symm | exact decide_eq_decide.2 (by omega))
              · obtain ⟨b2, off2, he2, hb2, hcell2⟩ := H.out.cell (k - 1) (by omega)
                simp only [Option.some.injEq, Addr.mk.injEq, and_true] at he2
                obtain ⟨rfl, rfl⟩ := he2
                replace hcell2 := ((Stp.refl [] w).alloc (.cells #[.int .i64 nw, .int .i64 ns, .int .i64 nb, .int .i64 nt, .slice (some ⟨b, off, none⟩) xs.length cap] 24)).cell hcell2 (by simp)
                generalize hyv : xs.getD (k - 1) 0 = y at hcell2
                rw [hyv] at Hat
                have hk1 : 1 ≤ k := by omega
                have hk2 : ((k : Int) == 0) = false := by simp; omega
                have Hyv := Lib.hid hyv; clear hyv
                go_wp2_with fail
                all_goals go_meet
                all_goals (case rel => refine ⟨?_, rfl⟩; rw [Hu.out, ← Bool.and_assoc, Hbb.out, Bool.true_and, Hat.out]; refine congrArg Value.bool ?_; (try simp only [true_or, and_true]); first | exact (decide_eq_true (by omega)).symm | exact (decide_eq_false (by omega)).symm | exact decide_eq_decide.2 (by omega))
          case rest =>
            obtain ⟨rfl, rfl⟩ := hcut
            go_wp2_with fail
            go_round
            case rel => exact ⟨k + 1, by simp; omega, by go_num, rfl⟩
            case measure => simp [intOf]; omega
        · obtain rfl : k = xs.length := by omega
          go_wp2_with fail
          go_ret
          refine ⟨?_, (Stp.refl [] w).alloc _⟩
          show _ = Ending.returned (.bool (_ && okC 0 xs))
          rw [← mayUpto_okC]
          rfl
end Go.Proofs.Ytbfokghhnhlfgaa
