/- The walk of MemAdds. -/
import Derived.Test.YtlmoifbklpflaaaW03a
namespace Go.Proofs.Ytlmoifbklpflaaa
open Go.RowKit

/-- MemAdds' loop: what all is. -/
def AdInv (W : World) (len g b : Nat) (va vi : Value) (wr : World) : Prop :=
  ∃ (k : Nat) (t lk la ops : Int), k ≤ len ∧ vi = .int .i64 k ∧ va = .int .u64 t ∧ 0 ≤ ops ∧ ops ≤ k ∧ IsMem wr g b ⟨[0, t, 0], ops, 0, lk, la⟩ ∧ Stp [] W wr

set_option maxHeartbeats 1000000 in
theorem MemAdds_walk (a0 : Option Addr) (len cap : Nat) (W : World) (w0 : Fits W (.slice (.int .u64)) [.slice a0 len cap]) :
    Calls Try.prog 4 #[.slice a0 len cap] W fun e w' => e = .returned (.bool true) ∧ Below W.heap.size W w' := by
  obtain ⟨xs, hx⟩ := w0.ints
  have hmost := hx.most
  have hle := hx.le
  unfold maxLen at hmost
  by_cases h200 : 200 < len
  · go_enter Try.func4, Try.ntmps4
    go_wp2_with fail
    refine (speaks_true W).mono ?_
    rintro e w2 ⟨rfl, hk⟩
    have Hk := Lib.hid hk; clear hk
    go_wp2_with fail
    go_ret
    exact ⟨rfl, Hk.out.blow⟩
  have hlen : len ≤ 200 := by omega
  clear w0
  have Hx := Lib.hid hx; clear hx
  go_enter Try.func4, Try.ntmps4
  go_wp2_with fail
  refine (speaks_true W).mono ?_
  rintro e w2 ⟨rfl, hk2⟩
  have Hk2 := Lib.hid hk2; clear hk2
  go_wp2_with fail
  refine (mem_new 3 w2 (by decide)).mono ?_
  rintro e w3 ⟨g, b, rfl, hm, hk, hg, hb⟩
  have HM := Lib.hid (show IsMem w3 g b ⟨[0, 0, 0], 0, 0, 0, 0⟩ from hm)
  have HK3 := Lib.hid (Hk2.out.trans hk)
  have hs2 := Hk2.out.size
  clear hm hk Hk2
  go_wp2_with fail
  go_loopw [4, 15] (fun va vi wr => AdInv W len g b va vi wr) (fun _ i _ => len - (intOf i).toNat)
  case atStart => exact ⟨0, 0, 0, 0, 0, Nat.zero_le _, rfl, rfl, by omega, by omega, HM.out, HK3.out⟩
  case round =>
    clear HM HK3
    obtain ⟨k, t, lk, la, ops, hk, rfl, rfl, ho0, ho1, hm, hs⟩ := hrel
    have Hm := Lib.hid hm; clear hm
    have Hs := Lib.hid hs; clear hs
    by_cases hlt : k < len
    · obtain ⟨ba, off, rfl, hba, hcell⟩ := Hx.out.cell k hlt
      have hcell := Hs.out.cell hcell (by simp)
      generalize xs.getD k 0 = x at hcell
      go_wp2_with fail
      refine (mem_add g b _ 1 x wr Hm.out ⟨ho0, by show ops < _; omega, by show (0 : Int) ≤ 0; omega, by show (0 : Int) < _; omega⟩).mono ?_
      rintro e w6 ⟨rfl, hm, hk2⟩
      rw [show (⟨[0, t, 0], ops, 0, lk, la⟩ : MemS).get 1 = t from rfl] at hm ⊢
      have Hm6 := Lib.hid (show IsMem w6 g b ⟨[0, IntKind.u64.wrap (t + x), 0], ops + 1, 0, 5, 1⟩ from hm)
      have Hs6 := Lib.hid (Hs.out.trans' hk2 (by simp; omega))
      clear hm hk2
      go_wp2_with fail
      go_ways
      go_roundw
      case rel => exact ⟨k + 1, _, 5, 1, ops + 1, by omega, by go_num, rfl, by omega, by omega, Hm6.out, Hs6.out⟩
      case measure => simp [intOf]; omega
    · go_wp2_with fail
      refine (mem_load g b _ 1 _ Hm.out ⟨ho0, by show ops < _; omega, by show (0 : Int) ≤ 0; omega, by show (0 : Int) < _; omega⟩).mono ?_
      rintro e w6 ⟨rfl, hm, hk2⟩
      rw [show (⟨[0, t, 0], ops, 0, lk, la⟩ : MemS).get 1 = t from rfl]
      have Hm6 := Lib.hid (show IsMem w6 g b ⟨[0, t, 0], ops + 1, 0, 1, 1⟩ from hm)
      have Hs6 := Lib.hid (Hs.out.trans' hk2 (by simp; omega))
      clear hm hk2
      go_wp2_with fail
      refine (mem_load g b _ 0 _ Hm6.out ⟨by show 0 ≤ ops + 1; omega, by show ops + 1 < _; omega, by show (0 : Int) ≤ 0; omega, by show (0 : Int) < _; omega⟩).mono ?_
      rintro e w7 ⟨rfl, hm, hk2⟩
      rw [show (⟨[0, t, 0], ops + 1, 0, 1, 1⟩ : MemS).get 0 = 0 from rfl]
      have Hm7 := Lib.hid (show IsMem w7 g b ⟨[0, t, 0], ops + 1 + 1, 0, 1, 0⟩ from hm)
      have Hs7 := Lib.hid (Hs6.out.trans' hk2 (by simp; omega))
      clear hm hk2
      go_wp2_with fail
      refine (mem_load g b _ 2 _ Hm7.out ⟨by show 0 ≤ ops + 1 + 1; omega, by show ops + 1 + 1 < _; omega, by show (0 : Int) ≤ 0; omega, by show (0 : Int) < _; omega⟩).mono ?_
      rintro e w8 ⟨rfl, hm, hk2⟩
      rw [show (⟨[0, t, 0], ops + 1 + 1, 0, 1, 0⟩ : MemS).get 2 = 0 from rfl]
      have Hs8 := Lib.hid (Hs7.out.trans' hk2 (by simp; omega))
      clear hm hk2
      go_wp2_with fail
      go_ret
      exact ⟨by simp, Hs8.out.blow⟩

end Go.Proofs.Ytlmoifbklpflaaa
