/- The walks of the laws on memories: speaks, MemSwings. -/
import Derived.Test.YtlmoifbklpflaaaMem
import Derived.Test.YtlmoifbklpflaaaOpen
namespace Go.Proofs.Ytlmoifbklpflaaa
open Go.RowKit

/-- The counters lie between 0 and n. -/
structure MemS.Lt (m : MemS) (n : Int) : Prop where
  o0 : 0 ≤ m.ops
  o1 : m.ops ≤ n
  f0 : 0 ≤ m.faults
  f1 : m.faults ≤ n
theorem MemS.Lt.small {m : MemS} {n : Int} (h : m.Lt n) (hn : n < 4611686018427387904) : m.Small := ⟨h.o0, by have := h.o1; omega, h.f0, by have := h.f1; omega⟩
theorem MemS.Lt.touch {m : MemS} {n : Int} (h : m.Lt n) (k a : Int) : (m.touch k a).Lt (n + 1) := by
  obtain ⟨a1, a2, a3, a4⟩ := h
  constructor <;> simp only [MemS.touch] <;> first | omega | (split <;> omega)
theorem MemS.Lt.put {m : MemS} {n : Int} (h : m.Lt n) (a x : Int) : (m.put a x).Lt n := ⟨h.o0, h.o1, h.f0, h.f1⟩
theorem MemS.Lt.swing {m : MemS} {n : Int} (h : m.Lt n) (a o x : Int) : (m.swing a o x).Lt (n + 1) := by
  unfold MemS.swing
  split
  · exact (h.touch _ _).put _ _
  · exact h.touch _ _

def TrueStp (w : World) (e : Ending) (w' : World) : Prop := e = .returned (.bool true) ∧ Stp [] w w'

set_option maxHeartbeats 1000000 in
theorem speaks_true (w : World) : Calls Try.prog 9 #[] w (TrueStp w) := by
  go_enter Try.func9, Try.ntmps9
  go_wp2_with fail
  refine (mem_new 2 w (by decide)).mono ?_
  rintro e w1 ⟨g, b, rfl, hm, hk, hg, hb⟩
  have HM := Lib.hid (show IsMem w1 g b ⟨[0, 0], 0, 0, 0, 0⟩ from hm)
  have HK := Lib.hid hk
  clear hm hk
  go_wp2_with fail
  refine (mem_store g b _ 1 5 _ HM.out ⟨by decide, by decide, by decide, by decide⟩).mono ?_
  rintro e w2 ⟨rfl, hm, hk⟩
  have HM2 := Lib.hid (show IsMem w2 g b ⟨[0, 5], 1, 0, 2, 1⟩ from hm)
  have HK2 := Lib.hid (HK.out.trans' hk (by simp; omega))
  clear hm hk HM HK
  go_wp2_with fail
  refine (mem_swing g b _ 1 5 7 _ HM2.out ⟨by decide, by decide, by decide, by decide⟩).mono ?_
  rintro e w3 ⟨rfl, hm, hk⟩
  have HM3 := Lib.hid (show IsMem w3 g b ⟨[0, 7], 2, 0, 4, 1⟩ from hm)
  have HK3 := Lib.hid (HK2.out.trans' hk (by simp; omega))
  rw [show (decide ((⟨[0, 5], 1, 0, 2, 1⟩ : MemS).inr 1 ∧ (⟨[0, 5], 1, 0, 2, 1⟩ : MemS).get 1 = 5)) = true from rfl]
  clear hm hk HM2 HK2
  go_wp2_with fail
  refine (mem_swing g b _ 1 5 7 _ HM3.out ⟨by decide, by decide, by decide, by decide⟩).mono ?_
  rintro e w4 ⟨rfl, hm, hk⟩
  have HM4 := Lib.hid (show IsMem w4 g b ⟨[0, 7], 3, 0, 4, 1⟩ from hm)
  have HK4 := Lib.hid (HK3.out.trans' hk (by simp; omega))
  rw [show (decide ((⟨[0, 7], 2, 0, 4, 1⟩ : MemS).inr 1 ∧ (⟨[0, 7], 2, 0, 4, 1⟩ : MemS).get 1 = 5)) = false from rfl]
  clear hm hk HM3 HK3
  go_wp2_with fail
  refine (mem_load g b _ 1 _ HM4.out ⟨by decide, by decide, by decide, by decide⟩).mono ?_
  rintro e w5 ⟨rfl, hm, hk⟩
  have HM5 := Lib.hid (show IsMem w5 g b ⟨[0, 7], 4, 0, 1, 1⟩ from hm)
  have HK5 := Lib.hid (HK4.out.trans' hk (by simp; omega))
  rw [show (⟨[0, 7], 3, 0, 4, 1⟩ : MemS).get 1 = 7 from rfl]
  clear hm hk HM4 HK4
  go_wp2_with fail
  refine (mem_ops g b _ _ HM5.out).mono ?_
  rintro e w5' ⟨rfl, rfl⟩
  go_wp2_with fail
  refine (mem_faults g b _ _ HM5.out).mono ?_
  rintro e w5' ⟨rfl, rfl⟩
  go_wp2_with fail
  refine (mem_len g b _ _ HM5.out).mono ?_
  rintro e w5' ⟨rfl, rfl⟩
  go_wp2_with fail
  refine (mem_last g b _ _ HM5.out).mono ?_
  rintro e w6 ⟨rfl, hk⟩
  have HK6 := Lib.hid (HK5.out.trans hk)
  clear hk
  go_wp2_with fail
  go_ret
  exact ⟨rfl, HK6.out⟩

/-- A call of speaks, met in a walk. -/
theorem Stp.blow {w w1 : World} (h : Stp [] w w1) : Below w.heap.size w w1 := h.below0

/-- MemSwings' loop: how many won, what the word is. -/
def SwInv (W : World) (first : Int) (len g b : Nat) (vw vt vi : Value) (wr : World) : Prop :=
  ∃ (k : Nat) (c won lk la ops : Int), k ≤ len ∧ vi = .int .i64 k ∧ vw = .int .i64 won ∧ vt = .int .u64 c ∧ (won = 0 ∧ c = first ∨ won = 1 ∧ c ≠ first) ∧ 0 ≤ ops ∧ ops ≤ 1 + k ∧
    IsMem wr g b ⟨[c], ops, 0, lk, la⟩ ∧ Stp [] W wr

set_option maxHeartbeats 1000000 in
theorem MemSwings_walk (first : Int) (a1 : Option Addr) (len cap : Nat) (W : World) (_w0 : (Lit.int .u64 first).wf = true) (w1 : Fits W (.slice (.int .u64)) [.slice a1 len cap]) :
    Calls Try.prog 3 #[.int .u64 first, .slice a1 len cap] W fun e w' => e = .returned (.bool true) ∧ Below W.heap.size W w' := by
  obtain ⟨xs, hx⟩ := w1.ints
  have hmost := hx.most
  have hle := hx.le
  unfold maxLen at hmost
  by_cases h100 : 100 < len
  · go_enter Try.func3, Try.ntmps3
    go_wp2_with fail
    refine (speaks_true W).mono ?_
    rintro e w2 ⟨rfl, hk⟩
    have HK := Lib.hid hk
    clear hk
    go_wp2_with fail
    go_ret
    exact ⟨rfl, HK.out.blow⟩
  have hlen : len ≤ 100 := by omega
  have HX := Lib.hid hx
  clear hx w1
  go_enter Try.func3, Try.ntmps3
  go_wp2_with fail
  refine (speaks_true W).mono ?_
  rintro e w2 ⟨rfl, hk⟩
  have HK := Lib.hid hk
  clear hk
  go_wp2_with fail
  refine (mem_new 1 w2 (by decide)).mono ?_
  rintro e w3 ⟨g, b, rfl, hm, hk, hg, hb⟩
  have HM := Lib.hid (show IsMem w3 g b ⟨[0], 0, 0, 0, 0⟩ from hm)
  have HK3 := Lib.hid (HK.out.trans hk)
  have hs2 := HK.out.size
  clear hm hk
  go_wp2_with fail
  refine (mem_store g b _ 0 first _ HM.out ⟨by decide, by decide, by decide, by decide⟩).mono ?_
  rintro e w4 ⟨rfl, hm, hk⟩
  have HM4 := Lib.hid (show IsMem w4 g b ⟨[first], 1, 0, 2, 0⟩ from hm)
  have HK4 := Lib.hid (HK3.out.trans' hk (by simp; omega))
  clear hm hk HM HK3 HK
  go_wp2_with fail
  go_loopw [6, 7, 22] (fun vw vt vi wr => SwInv W first len g b vw vt vi wr) (fun _ _ i _ => len - (intOf i).toNat)
  case atStart => exact ⟨0, first, 0, 2, 0, 1, Nat.zero_le _, rfl, rfl, rfl, Or.inl ⟨rfl, rfl⟩, by omega, by omega, HM4.out, HK4.out⟩
  case round =>
    clear HM4 HK4
    obtain ⟨k, c, won, lk, la, ops, hk, rfl, rfl, rfl, hcase, ho0, ho1, hm, hs⟩ := hrel
    have HC := Lib.hid hcase
    have HM := Lib.hid hm
    have HS := Lib.hid hs
    clear hcase hm hs
    by_cases hlt : k < len
    · obtain ⟨ba, off, rfl, hba, hcell⟩ := HX.out.cell k hlt
      have hcell := HS.out.cell hcell (by simp)
      have hko : ops < 4611686018427387904 := by omega
      generalize xs.getD k 0 = x at hcell
      have hsm : (⟨[c], ops, 0, lk, la⟩ : MemS).Small := ⟨ho0, hko, by show (0 : Int) ≤ 0; omega, by show (0 : Int) < _; omega⟩
      have hsw := mem_swing g b ⟨[c], ops, 0, lk, la⟩ 0 first x wr HM.out hsm
      by_cases hcf : c = first
      · have he : (decide ((⟨[c], ops, 0, lk, la⟩ : MemS).inr 0 ∧ (⟨[c], ops, 0, lk, la⟩ : MemS).get 0 = first)) = true := by simp [MemS.inr, MemS.get, hcf]
        have hsv : (⟨[c], ops, 0, lk, la⟩ : MemS).swing 0 first x = ⟨[x], ops + 1, 0, 4, 0⟩ := by simp [MemS.swing, MemS.inr, MemS.get, MemS.put, MemS.touch, hcf]
        have hw0 : won = 0 := by rcases HC.out with h | h; exact h.1; exact absurd hcf h.2
        subst hw0
        rw [he, hsv] at hsw
        have HW := Lib.hid hsw
        clear hsw he hsv hsm HC
        have HF := Lib.hid hcf
        clear hcf
        go_wp2_with (go_at_call 12; refine HW.out.mono ?_; rintro e w6 ⟨rfl, hm, hk2⟩; have HM6 := Lib.hid hm; have HS6 := Lib.hid (HS.out.trans' hk2 (by simp; omega)); clear hm hk2 HM HS HW)
        all_goals go_roundw
        all_goals first | (case measure => simp [intOf]; omega) | skip
        case rel => exact ⟨k + 1, x, 0, 4, 0, ops + 1, by omega, by go_num, rfl, rfl, Or.inl ⟨rfl, by simpa using ‹(x == first) = true›⟩, by omega, by omega, HM6.out, HS6.out⟩
        case rel => exact ⟨k + 1, x, 1, 4, 0, ops + 1, by omega, by go_num, rfl, rfl, Or.inr ⟨rfl, by simpa using ‹(x == first) = false›⟩, by omega, by omega, HM6.out, HS6.out⟩
      · have he : (decide ((⟨[c], ops, 0, lk, la⟩ : MemS).inr 0 ∧ (⟨[c], ops, 0, lk, la⟩ : MemS).get 0 = first)) = false := by simp [MemS.inr, MemS.get, hcf]
        have hsv : (⟨[c], ops, 0, lk, la⟩ : MemS).swing 0 first x = ⟨[c], ops + 1, 0, 4, 0⟩ := by simp [MemS.swing, MemS.inr, MemS.get, MemS.touch, hcf]
        rw [he, hsv] at hsw
        have HW := Lib.hid hsw
        clear hsw he hsv hsm
        have HF := Lib.hid hcf
        clear hcf
        go_wp2_with (go_at_call 12; refine HW.out.mono ?_; rintro e w6 ⟨rfl, hm, hk2⟩; have HM6 := Lib.hid hm; have HS6 := Lib.hid (HS.out.trans' hk2 (by simp; omega)); clear hm hk2 HM HS HW)
        go_roundw
        case rel => exact ⟨k + 1, c, won, 4, 0, ops + 1, by omega, by go_num, rfl, rfl, HC.out, by omega, by omega, HM6.out, HS6.out⟩
        case measure => simp [intOf]; omega
    · have hw1 : won ≤ 1 := by rcases HC.out with h | h <;> omega
      go_wp2_with fail
      refine (mem_load g b _ 0 _ HM.out ⟨ho0, by show ops < _; omega, by show (0 : Int) ≤ 0; omega, by show (0 : Int) < _; omega⟩).mono ?_
      rintro e w6 ⟨rfl, hm, hk2⟩
      rw [show (⟨[c], ops, 0, lk, la⟩ : MemS).get 0 = c from rfl]
      have HS6 := Lib.hid (HS.out.trans' hk2 (by simp; omega))
      clear hm hk2
      go_wp2_with fail
      go_ret
      exact ⟨by simp, HS6.out.blow⟩

end Go.Proofs.Ytlmoifbklpflaaa
