/- The walk of MemOuter. -/
import Derived.Test.YtlmoifbklpflaaaW03a
namespace Go.Proofs.Ytlmoifbklpflaaa
open Go.RowKit

theorem MemS.inr_mk (ws : List Int) (o f q r o' f' q' r' a : Int) : (⟨ws, o, f, q, r⟩ : MemS).inr a ↔ (⟨ws, o', f', q', r'⟩ : MemS).inr a := Iff.rfl
theorem MemS.touch_out {ws : List Int} {o f q r a : Int} (k : Int) (h : ¬ (⟨ws, 0, 0, 0, 0⟩ : MemS).inr a) : (⟨ws, o, f, q, r⟩ : MemS).touch k a = ⟨ws, o + 1, f + 1, k, a⟩ := by
  have h' : ¬ (⟨ws, o, f, q, r⟩ : MemS).inr a := h
  rw [MemS.touch, if_neg h']
theorem MemS.put_out' {ws : List Int} {o f q r a x : Int} (h : ¬ (⟨ws, 0, 0, 0, 0⟩ : MemS).inr a) : (⟨ws, o, f, q, r⟩ : MemS).put a x = ⟨ws, o, f, q, r⟩ := MemS.put_out (m := ⟨ws, o, f, q, r⟩) h
theorem MemS.swing_out {ws : List Int} {o f q r a old x : Int} (h : ¬ (⟨ws, 0, 0, 0, 0⟩ : MemS).inr a) : (⟨ws, o, f, q, r⟩ : MemS).swing a old x = ⟨ws, o + 1, f + 1, 4, a⟩ := by
  have h' : ¬ (⟨ws, o, f, q, r⟩ : MemS).inr a := h
  rw [MemS.swing, if_neg (fun hh => h' hh.1), MemS.touch_out 4 h]
theorem MemS.get_out' {ws : List Int} {o f q r a : Int} (h : ¬ (⟨ws, 0, 0, 0, 0⟩ : MemS).inr a) : (⟨ws, o, f, q, r⟩ : MemS).get a = 0 := MemS.get_out (m := ⟨ws, o, f, q, r⟩) h

/-- MemOuter's loop: all words are looked at. -/
def OuInv (W : World) (n : Nat) (g b : Nat) (lk la : Int) (v : Value) (vi : Value) (wr : World) : Prop :=
  ∃ (k : Nat), k ≤ n ∧ vi = .int .i64 k ∧ IsMem wr g b ⟨List.replicate n 0, 5, 5, lk, la⟩ ∧ wr.ownsRow W.heap.size 22 1 v n ((List.replicate n (0 : Int)).map (Value.int .u64)) ∧ Stp [] W wr

set_option maxHeartbeats 2000000 in
theorem MemOuter_walk (n at_ x : Int) (W : World) (w0 : (Lit.int .u8 n).wf = true) (_w1 : (Lit.int .i64 at_).wf = true) (_w2 : (Lit.int .u64 x).wf = true) :
    Calls Try.prog 8 #[.int .u8 n, .int .i64 at_, .int .u64 x] W fun e w' => e = .returned (.bool true) ∧ Below W.heap.size W w' := by
  have hb0 := bounds_u8 w0
  obtain ⟨n, rfl⟩ : ∃ k : Nat, n = (k : Int) := ⟨n.toNat, by omega⟩
  have hn : n ≤ 255 := by omega
  clear w0 hb0
  by_cases hin : 0 ≤ at_ ∧ at_ < n
  · obtain ⟨h1, h2⟩ := hin
    go_enter Try.func8, Try.ntmps8
    go_wp2_with fail
    refine (speaks_true W).mono ?_
    rintro e w2 ⟨rfl, hk2⟩
    have Hk2 := Lib.hid hk2; clear hk2
    go_wp2_with fail
    refine (mem_new _ w2 (by omega)).mono ?_
    rintro e w3 ⟨g, b, rfl, hm, hk, hg, hb⟩
    have hK3 := Hk2.out.trans hk
    have HK3 := Lib.hid hK3; clear hK3
    clear hm hk
    go_wp2_with fail
    go_ret
    exact ⟨rfl, HK3.out.blow⟩
  have hout : ¬ (⟨List.replicate n 0, 0, 0, 0, 0⟩ : MemS).inr at_ := by unfold MemS.inr; simpa using hin
  have hd : at_ < 0 ∨ (n : Int) ≤ at_ := by omega
  clear hin
  have Hout := Lib.hid hout; clear hout
  rcases hd with hd | hd
  all_goals
    first | have hd0 : 0 ≤ at_ := by omega | skip
    go_enter Try.func8, Try.ntmps8
    go_wp2_with fail
    refine (speaks_true W).mono ?_
    rintro e w2 ⟨rfl, hk2⟩
    have Hk2 := Lib.hid hk2; clear hk2
    go_wp2_with fail
    refine (mem_new _ w2 (by omega)).mono ?_
    rintro e w3 ⟨g, b, rfl, hm, hk, hg, hb⟩
    rw [Int.toNat_natCast] at hm
    have hK3 := Hk2.out.trans hk
    have hs2 := Hk2.out.size
    clear hk Hk2
    have Hm := Lib.hid hm; clear hm
    have HK3 := Lib.hid hK3; clear hK3
    go_wp2_with fail
    refine (mem_store g b _ at_ x _ Hm.out (MemS.small_mk (by omega) (by omega) (by omega) (by omega))).mono ?_
    rintro e w4 ⟨rfl, hm, hk⟩
    rw [MemS.touch_out 2 Hout.out, MemS.put_out' Hout.out] at hm
    have hK4 := HK3.out.trans' hk (by simp; omega)
    clear hk HK3 Hm
    have Hm := Lib.hid hm; clear hm
    have HK4 := Lib.hid hK4; clear hK4
    go_wp2_with fail
    refine (mem_load g b _ at_ _ Hm.out (MemS.small_mk (by omega) (by omega) (by omega) (by omega))).mono ?_
    rintro e w5 ⟨rfl, hm, hk⟩
    rw [MemS.touch_out 1 Hout.out] at hm
    rw [MemS.get_out' Hout.out]
    have hK5 := HK4.out.trans' hk (by simp; omega)
    clear hk HK4 Hm
    have Hm := Lib.hid hm; clear hm
    have HK5 := Lib.hid hK5; clear hK5
    go_wp2_with fail
    refine (mem_swap g b _ at_ x _ Hm.out (MemS.small_mk (by omega) (by omega) (by omega) (by omega))).mono ?_
    rintro e w6 ⟨rfl, hm, hk⟩
    rw [MemS.touch_out 3 Hout.out, MemS.put_out' Hout.out] at hm
    rw [MemS.get_out' Hout.out]
    have hK6 := HK5.out.trans' hk (by simp; omega)
    clear hk HK5 Hm
    have Hm := Lib.hid hm; clear hm
    have HK6 := Lib.hid hK6; clear hK6
    go_wp2_with fail
    refine (mem_swing g b _ at_ 0 x _ Hm.out (MemS.small_mk (by omega) (by omega) (by omega) (by omega))).mono ?_
    rintro e w7 ⟨rfl, hm, hk⟩
    rw [MemS.swing_out Hout.out] at hm
    rw [decide_eq_false (fun hh => Hout.out hh.1)]
    have hK7 := HK6.out.trans' hk (by simp; omega)
    clear hk HK6 Hm
    have Hm := Lib.hid hm; clear hm
    have HK7 := Lib.hid hK7; clear hK7
    go_wp2_with fail
    refine (mem_add g b _ at_ x _ Hm.out (MemS.small_mk (by omega) (by omega) (by omega) (by omega))).mono ?_
    rintro e w8 ⟨rfl, hm, hk⟩
    rw [MemS.touch_out 5 Hout.out, MemS.put_out' Hout.out] at hm
    rw [MemS.get_out' Hout.out]
    have hK8 := HK7.out.trans' hk (by simp; omega)
    have hm8 : IsMem w8 g b ⟨List.replicate n 0, 5, 5, 5, at_⟩ := hm
    clear hk HK7 Hm hm
    have Hm8 := Lib.hid hm8; clear hm8
    have HK8 := Lib.hid hK8; clear hK8
    go_wp2_with fail
    refine (mem_words g b _ _ Hm8.out).mono ?_
    rintro e w9 ⟨v, rfl, ho, hnv, hk9⟩
    have hm9 := Hm8.out.kept hk9 (by simp) (by simp)
    simp only [List.length_map, List.length_replicate] at ho
    have ho' := own_base ho (HK8.out.size)
    obtain ⟨av, cv, rfl, hcv, hcm, hav⟩ := own_slice ho'
    have hK9 := HK8.out.trans hk9
    clear ho hnv Hm8 HK8 hk9
    have Hm9 := Lib.hid hm9; clear hm9
    have Ho' := Lib.hid ho'; clear ho'
    have HK9 := Lib.hid hK9; clear hK9
    have Hav := Lib.hid hav; clear hav
    go_wp2_with fail
    go_loopw [49] (fun vi wr => OuInv W n g b 5 at_ (.slice av n cv) vi wr) (fun i _ => n - (intOf i).toNat)
    case atStart => exact ⟨0, Nat.zero_le _, rfl, Hm9.out, Ho'.out, HK9.out⟩
    case round =>
      clear Hm9 Ho' HK9
      obtain ⟨k, hk, rfl, hm, ho, hs⟩ := hrel
      have Hm := Lib.hid hm; clear hm
      have Ho := Lib.hid ho; clear ho
      have Hs := Lib.hid hs; clear hs
      by_cases hlt : k < n
      · obtain ⟨d, rfl, hd1, hd2⟩ := Hav.out (by omega)
        have hc := own_cell (i := k) Ho.out (by omega)
        rw [show ((List.replicate n (0 : Int)).map (Value.int .u64))[k]? = some (.int .u64 0) by simp [hlt]] at hc
        go_wp2_with fail
        go_roundw
        case rel => exact ⟨k + 1, by omega, by go_num, Hm.out, Ho.out, Hs.out⟩
        case measure => simp [intOf]; omega
      · go_wp2_with fail
        refine (mem_faults g b _ _ Hm.out).mono ?_
        rintro e w10 ⟨rfl, rfl⟩
        go_wp2_with fail
        refine (mem_ops g b _ _ Hm.out).mono ?_
        rintro e w10 ⟨rfl, rfl⟩
        go_wp2_with fail
        refine (mem_peek g b _ at_ _ Hm.out).mono ?_
        rintro e w10 ⟨rfl, rfl⟩
        rw [MemS.get_out' Hout.out]
        go_wp2_with fail
        go_ret
        exact ⟨rfl, Hs.out.blow⟩

end Go.Proofs.Ytlmoifbklpflaaa
