/- The walk of ConfBounds. -/
import Derived.Test.YtbfokghhnhlfgaaW04a
namespace Go.Proofs.Ytbfokghhnhlfgaa
open Go.RowKit

theorem bound_workers {s w t : Int} (ht : 0 ≤ t) : callN s w t < callN s (w + 1) t := by
  have h : attemptN s (w + 1) = attemptN s w + 10 := by unfold attemptN; omega
  unfold callN
  rw [h, Int.mul_add]
  omega
theorem bound_supers {s w t : Int} (ht : 0 ≤ t) : callN (2 * s) w t < callN (2 * (s + 1)) w t := by
  have h : attemptN (2 * (s + 1)) w = attemptN (2 * s) w + 4 := by unfold attemptN; omega
  unfold callN
  rw [h, Int.mul_add]
  omega
theorem bound_tries {s w t : Int} (ha : 0 < attemptN s w) : callN s w t < callN s w (t + 1) := by
  unfold callN
  rw [show t + 1 + 2 = (t + 2) + 1 by omega, Int.add_mul (t + 2) 1]
  omega

/-- A system's cells. -/
def Cfg.cs (c : Cfg) (a : Option Addr) (cap : Nat) : List Value := [.int .i64 c.workers, .int .i64 c.supers, .int .i64 c.batch, .int .i64 c.tries, .slice a c.classes.length cap]

set_option maxRecDepth 100000 in
set_option maxHeartbeats 4000000 in
theorem ConfBounds_walk (c0 : Array Value) (W : World) (w0 : Fits W (.pair (.int .i64) (.pair (.int .i64) (.pair (.int .i64) (.pair (.int .i64) (.pair (.slice (.int .i64)) .unit))))) c0.toList) :
    Calls Try.prog 4 #[.agg c0] W fun e w' => e = .returned (.bool true) ∧ Below W.heap.size W w' := by
  obtain ⟨c, a, cap, he, hc, _⟩ := cfg_of_fits w0
  rw [he]
  clear he w0
  have hspec := fun w => may_spec c a cap w
  have hnum := c.may_num
  obtain ⟨nw, ns, nb, nt, xs⟩ := c
  simp only [Cfg.val] at hspec hnum ⊢
  have Hc := Lib.hid hc; clear hc
  have Hspec := Lib.hid hspec; clear hspec
  cases hm : (⟨nw, ns, nb, nt, xs⟩ : Cfg).may
  · clear hnum
    have Hm := Lib.hid hm; clear hm
    go_enter Try.func4, Try.ntmps4
    go_wp2_with fail
    refine (speaks_true _).mono ?_
    rintro e w2 ⟨rfl, hk⟩
    have hcl := hk.cells
    have hK := ((Stp.refl [] W).alloc _).trans hk
    clear hk
    have HK := Lib.hid hK; clear hK
    go_wp2_with fail
    refine (Hspec.out _ (Hc.out.kept HK.out)).mono ?_
    rintro e w3 ⟨rfl, hk⟩
    have hK3 := HK.out.trans hk
    clear hk
    rw [Hm.out]
    have HK3 := Lib.hid hK3; clear hK3
    go_wp2_with fail
    go_ret
    exact ⟨rfl, HK3.out.below0⟩
  · obtain ⟨⟨q0, q1⟩, ⟨q2, q3⟩, ⟨q4, q5⟩, ⟨q6, q7⟩, _, _⟩ := hnum hm
    clear hnum
    have hat := attempt_bd (a := 2 * ns) (b := nw) (by omega) (by omega) (by omega) (by omega)
    have hb1 := bound_workers (s := 2 * ns) (w := nw) (t := nt) q6
    have hb2 := bound_supers (s := ns) (w := nw) (t := nt) q6
    have hb3 := bound_tries (s := 2 * ns) (w := nw) (t := nt) (by omega)
    have hbs := fun w => bound_spec ⟨nw, ns, nb, nt, xs⟩ a cap w (by simp only; omega) (by simp only; omega) (by simp only; omega) (by simp only; omega) (by simp only; omega) (by simp only; omega)
    have hrb := fun w => refbound_spec ⟨nw, ns, nb, nt, xs⟩ a cap w (by simp only; omega) (by simp only; omega) (by simp only; omega) (by simp only; omega) (by simp only; omega) (by simp only; omega)
    have hst := fun w => state_spec ⟨nw, ns, nb, nt, xs⟩ a cap w (by simp only; omega) (by simp only; omega)
    have hcs := fun w => call_spec (2 * ns) nw nt w (by omega) (by omega) (by omega) (by omega) (by omega) (by omega)
    have hats := fun w => attempt_spec (2 * ns) nw w (by omega) (by omega) (by omega) (by omega)
    have hbd := fun w => bound_spec ⟨nw + 1, ns, nb, nt, xs⟩ a cap w (by simp only; omega) (by simp only; omega) (by simp only; omega) (by simp only; omega) (by simp only; omega) (by simp only; omega)
    have hbe := fun w => bound_spec ⟨nw, ns + 1, nb, nt, xs⟩ a cap w (by simp only; omega) (by simp only; omega) (by simp only; omega) (by simp only; omega) (by simp only; omega) (by simp only; omega)
    have hbf := fun w => bound_spec ⟨nw, ns, nb, nt + 1, xs⟩ a cap w (by simp only; omega) (by simp only; omega) (by simp only; omega) (by simp only; omega) (by simp only; omega) (by simp only; omega)
    have hmd := fun w => may_spec ⟨nw + 1, ns, nb, nt, xs⟩ a cap w
    have hme := fun w => may_spec ⟨nw, ns + 1, nb, nt, xs⟩ a cap w
    have hmf := fun w => may_spec ⟨nw, ns, nb, nt + 1, xs⟩ a cap w
    have hp := mul_bd (a := nt + 2) (A := 1002) (by omega) (by omega) (show 0 ≤ attemptN (2 * ns) nw by omega) hat.2
    have hqp : attemptN (2 * ns) nw < callN (2 * ns) nw nt + 2 ∧ callN (2 * ns) nw nt ≤ 20000000 := by
      unfold callN
      refine ⟨?_, by omega⟩
      have : attemptN (2 * ns) nw * 1 ≤ (nt + 2) * attemptN (2 * ns) nw := by rw [Int.mul_comm]; exact Int.mul_le_mul (by omega) (Int.le_refl _) (by omega) (by omega)
      omega
    simp only [Cfg.val, Cfg.bound] at hbs hrb hst hcs hats hbd hbe hbf hmd hme hmf
    generalize callN (2 * ns) nw nt = p at *
    generalize attemptN (2 * ns) nw = q at *
    generalize callN (2 * ns) (nw + 1) nt = p1 at *
    generalize callN (2 * (ns + 1)) nw nt = p2 at *
    generalize callN (2 * ns) nw (nt + 1) = p3 at *
    obtain ⟨hat0, hat1⟩ := hat
    obtain ⟨hqp, hpm⟩ := hqp
    have hpw : IntKind.i64.wrap (p + 2) = p + 2 := IntWalk.i64_in _ (by omega)
    have hnw : IntKind.i64.wrap (2 * ns) = 2 * ns := IntWalk.i64_in _ (by omega)
    clear hp
    have Hbs := Lib.hid hbs; clear hbs
    have Hrb := Lib.hid hrb; clear hrb
    have Hst := Lib.hid hst; clear hst
    have Hcs := Lib.hid hcs; clear hcs
    have Hats := Lib.hid hats; clear hats
    have Hbd := Lib.hid hbd; clear hbd
    have Hbe := Lib.hid hbe; clear hbe
    have Hbf := Lib.hid hbf; clear hbf
    have Hmd := Lib.hid hmd; clear hmd
    have Hme := Lib.hid hme; clear hme
    have Hmf := Lib.hid hmf; clear hmf
    have Hm := Lib.hid hm; clear hm
    go_enter Try.func4, Try.ntmps4
    go_wp2_with fail
    refine (speaks_true _).mono ?_
    rintro e w2 ⟨rfl, hk⟩
    have hcl := hk.cells
    have hfl := hk.frozens
    have hz := hk.size
    simp only [World.size_alloc] at hz
    have hB := hk.blk (blk_new W (.cells #[.int .i64 nw, .int .i64 ns, .int .i64 nb, .int .i64 nt, .slice a xs.length cap] 24)) (by simp)
    have hK := ((Stp.refl [] W).alloc _).trans hk
    clear hk
    have HK := Lib.hid hK; clear hK
    have HB := Lib.hid hB; clear hB
    go_wp2_with fail
    refine (Hspec.out _ (Hc.out.kept HK.out)).mono ?_
    rintro e w3 ⟨rfl, hk⟩
    rw [Hm.out]
    have hB3 := hk.blk HB.out (by simp)
    clear HB
    have HB3 := Lib.hid hB3; clear hB3
    have hcl3 := hk.cells
    have hz3 := hk.size
    have hz2 : W.heap.size < w2.heap.size := by omega
    have hK3 := HK.out.trans hk
    clear hk
    have HK3 := Lib.hid hK3; clear hK3
    have n0 : W.heap.size < w3.heap.size := by omega
    have n1 : (W.heap.size = w3.heap.size) = False := by simp; omega
    have n2 : (W.heap.size = w3.heap.size + 1) = False := by simp; omega
    have n3 : (W.heap.size = w3.heap.size + 1 + 1) = False := by simp; omega
    have n4 : (W.heap.size = w3.heap.size + 2) = False := by simp; omega
    have n5 : W.heap.size < w3.heap.size + 1 + 1 := by omega
    have n6 : W.heap.size < w3.heap.size + 1 := by omega
    go_wp2_with fail
    clear hcl hcl3 hfl n1 n2 n3 n4 n5 n6
    refine (Hbs.out _).mono ?_
    rintro e w4 ⟨rfl, hk⟩
    have hB4 := hk.blk (blk_alloc (blk_alloc (blk_alloc HB3.out _) _) _) (by simp)
    have hD4 := hk.blk (blk_alloc (blk_alloc (blk_new w3 _) _) _) (by simp)
    have hE4 := hk.blk (g := w3.heap.size + 1) (blk_alloc (blk_new' _ (by simp)) _) (by simp)
    have hF4 := hk.blk (g := w3.heap.size + 1 + 1) (blk_new' _ (by simp)) (by simp)
    have hK4 := (((HK3.out.alloc _).alloc _).alloc _).trans hk
    have hz4 := hk.size
    simp only [World.size_alloc] at hz4
    have b0 := blk_cell hB4 0
    have b1 := blk_cell hB4 1
    have b2 := blk_cell hB4 2
    have b3 := blk_cell hB4 3
    have b4 := blk_cell hB4 4
    simp at b0 b1 b2 b3 b4
    have z4 : W.heap.size < w4.heap.size := by omega
    clear hk HK3 HB3
    have HB4 := Lib.hid hB4; clear hB4
    have HD4 := Lib.hid hD4; clear hD4
    have HE4 := Lib.hid hE4; clear hE4
    have HF4 := Lib.hid hF4; clear hF4
    have HK4 := Lib.hid hK4; clear hK4
    go_upto_region 12 with fail
    go_cut [46] (fun s wx => s = .bool false ∧ Stp [] w4 wx)
    case first =>
      have hS := Stp.refl [] w4
      have HS := Lib.hid hS; clear hS
      go_region_held3 (fun w' => w'.cell? ⟨W.heap.size, 0, none⟩ = some (.int .i64 nw) ∧ w'.cell? ⟨W.heap.size, 1, none⟩ = some (.int .i64 ns) ∧ w'.cell? ⟨W.heap.size, 2, none⟩ = some (.int .i64 nb) ∧ w'.cell? ⟨W.heap.size, 3, none⟩ = some (.int .i64 nt) ∧ w'.cell? ⟨W.heap.size, 4, none⟩ = some (.slice a xs.length cap)) (go_keep)
        ((first
          | (go_at_call 12; refine (Hrb.out _).mono ?_; rintro e w5 ⟨rfl, hk⟩; have hb5 := hk.blk HB4.out (by simp); have k0 := blk_cell hb5 0; have k1 := blk_cell hb5 1; have k2 := blk_cell hb5 2; have k3 := blk_cell hb5 3; have k4 := blk_cell hb5 4; simp at k0 k1 k2 k3 k4; have HB4 := Lib.hid hb5; clear hb5; have hS5 : Stp [] w4 w5 := (by first | exact HS.out.trans hk | exact HS.out.drew.trans hk); have HS := Lib.hid hS5; clear hS5; clear hk)
          | (go_at_call 14; refine (Hst.out _).mono ?_; rintro e w5 ⟨rfl, hk⟩; have hb5 := hk.blk HB4.out (by simp); have k0 := blk_cell hb5 0; have k1 := blk_cell hb5 1; have k2 := blk_cell hb5 2; have k3 := blk_cell hb5 3; have k4 := blk_cell hb5 4; simp at k0 k1 k2 k3 k4; have HB4 := Lib.hid hb5; clear hb5; have hS5 : Stp [] w4 w5 := (by first | exact HS.out.trans hk | exact HS.out.drew.trans hk); have HS := Lib.hid hS5; clear hS5; clear hk)
          | (go_at_call 13; refine (Hcs.out _).mono ?_; rintro e w5 ⟨rfl, rfl⟩)))
      all_goals (go_wp2_with fail; go_meet; case rel => exact ⟨by simp, HS.out⟩)
    case rest =>
      obtain ⟨rfl, hcut⟩ := hcut
      have hB5 := hcut.blk HB4.out (by simp)
      have hD5 := hcut.blk HD4.out (by simp)
      have hE5 := hcut.blk HE4.out (by simp)
      have hF5 := hcut.blk HF4.out (by simp)
      have hK5 := HK4.out.trans hcut
      have hz5 := hcut.size
      clear b0 b1 b2 b3 b4 hcut HK4 HB4 HD4 HE4 HF4
      have d0 := blk_cell hD5 0
      have d1 := blk_cell hD5 1
      have d2 := blk_cell hD5 2
      have d3 := blk_cell hD5 3
      have d4 := blk_cell hD5 4
      have e0 := blk_cell hE5 0
      have e1 := blk_cell hE5 1
      have e2 := blk_cell hE5 2
      have e3 := blk_cell hE5 3
      have e4 := blk_cell hE5 4
      have f0 := blk_cell hF5 0
      have f1 := blk_cell hF5 1
      have f2 := blk_cell hF5 2
      have f3 := blk_cell hF5 3
      have f4 := blk_cell hF5 4
      simp at d0 d1 d2 d3 d4 e0 e1 e2 e3 e4 f0 f1 f2 f3 f4
      have HB5 := Lib.hid hB5; clear hB5
      have HD5 := Lib.hid hD5; clear hD5
      have HE5 := Lib.hid hE5; clear hE5
      have HF5 := Lib.hid hF5; clear hF5
      have HK5 := Lib.hid hK5; clear hK5
      go_wp2_with fail
      clear d0 d1 d2 d3 d4 e0 e1 e2 e3 e4 f0 f1 f2 f3 f4
      have hsl := blk_new wc (.cells #[.int .i64 (nw + 1), .int .i64 ns, .int .i64 nb, .int .i64 nt, .slice a xs.length cap, .int .i64 nw, .int .i64 (ns + 1), .int .i64 nb, .int .i64 nt, .slice a xs.length cap, .int .i64 nw, .int .i64 ns, .int .i64 nb, .int .i64 (nt + 1), .slice a xs.length cap] 24)
      have hB6 := blk_alloc HB5.out (.cells #[.int .i64 (nw + 1), .int .i64 ns, .int .i64 nb, .int .i64 nt, .slice a xs.length cap, .int .i64 nw, .int .i64 (ns + 1), .int .i64 nb, .int .i64 nt, .slice a xs.length cap, .int .i64 nw, .int .i64 ns, .int .i64 nb, .int .i64 (nt + 1), .slice a xs.length cap] 24)
      have hK6 := HK5.out.alloc (.cells #[.int .i64 (nw + 1), .int .i64 ns, .int .i64 nb, .int .i64 nt, .slice a xs.length cap, .int .i64 nw, .int .i64 (ns + 1), .int .i64 nb, .int .i64 nt, .slice a xs.length cap, .int .i64 nw, .int .i64 ns, .int .i64 nb, .int .i64 (nt + 1), .slice a xs.length cap] 24)
      clear HB5 HK5 HD5 HE5 HF5
      have hzz : wc.heap.size < (wc.alloc (.cells #[.int .i64 (nw + 1), .int .i64 ns, .int .i64 nb, .int .i64 nt, .slice a xs.length cap, .int .i64 nw, .int .i64 (ns + 1), .int .i64 nb, .int .i64 nt, .slice a xs.length cap, .int .i64 nw, .int .i64 ns, .int .i64 nb, .int .i64 (nt + 1), .slice a xs.length cap] 24)).heap.size := by simp
      generalize wc.alloc (.cells #[.int .i64 (nw + 1), .int .i64 ns, .int .i64 nb, .int .i64 nt, .slice a xs.length cap, .int .i64 nw, .int .i64 (ns + 1), .int .i64 nb, .int .i64 nt, .slice a xs.length cap, .int .i64 nw, .int .i64 ns, .int .i64 nb, .int .i64 (nt + 1), .slice a xs.length cap] 24) = wy at hsl hB6 hK6 hzz ⊢
      generalize wc.heap.size = gs at hsl hzz ⊢
      clear hz hz2 hz3 hz4 hz5 z4
      have Hsl := Lib.hid hsl; clear hsl
      have HB6 := Lib.hid hB6; clear hB6
      have HK6 := Lib.hid hK6; clear hK6
      go_loopw [52] (fun vi wr => ∃ k : Nat, k ≤ 3 ∧ vi = .int .i64 k ∧ Stp [] wy wr) (fun vi _ => 3 - (intOf vi).toNat)
      case atStart => exact ⟨0, by omega, rfl, Stp.refl _ _⟩
      case round =>
        obtain ⟨k, hk, rfl, hs⟩ := hrel
        have hS1 := hs.blk Hsl.out (by simp)
        have hB7 := hs.blk HB6.out (by simp)
        have hK7 := HK6.out.trans hs
        have c0 := blk_cell hS1 0
        have c1 := blk_cell hS1 1
        have c2 := blk_cell hS1 2
        have c3 := blk_cell hS1 3
        have c4 := blk_cell hS1 4
        have c5 := blk_cell hS1 5
        have c6 := blk_cell hS1 6
        have c7 := blk_cell hS1 7
        have c8 := blk_cell hS1 8
        have c9 := blk_cell hS1 9
        have c10 := blk_cell hS1 10
        have c11 := blk_cell hS1 11
        have c12 := blk_cell hS1 12
        have c13 := blk_cell hS1 13
        have c14 := blk_cell hS1 14
        simp at c0 c1 c2 c3 c4 c5 c6 c7 c8 c9 c10 c11 c12 c13 c14
        have hzr : gs < wr.heap.size := Nat.lt_of_lt_of_le hzz hs.size
        have Hs := Lib.hid hs; clear hs
        have HB7 := Lib.hid hB7; clear hB7
        have HK7 := Lib.hid hK7; clear hK7
        clear hS1
        rcases (show k = 0 ∨ k = 1 ∨ k = 2 ∨ k = 3 by omega) with rfl | rfl | rfl | rfl
        · go_wp2_with fail
          refine (Hmd.out _ ⟨(Hc.out.rd.kept HK7.out (by simp)).kept ((Stp.refl [] wr).alloc _) (by simp)⟩).mono ?_
          rintro e w7 ⟨rfl, hk⟩
          have hX := hk.blk (blk_new wr _) (by simp)
          have x0 := blk_cell hX 0
          have x1 := blk_cell hX 1
          have x2 := blk_cell hX 2
          have x3 := blk_cell hX 3
          have x4 := blk_cell hX 4
          simp at x0 x1 x2 x3 x4
          have hs7 := (Hs.out.alloc _).trans hk
          clear hX hk HK7 HB7 c0 c1 c2 c3 c4 c5 c6 c7 c8 c9 c10 c11 c12 c13 c14 hzr
          have Hs7 := Lib.hid hs7; clear hs7
          cases hme' : (⟨nw + 1, ns, nb, nt, xs⟩ : Cfg).may
          · go_wp2_with fail
            go_roundw
            case rel => exact ⟨0 + 1, by omega, by go_num, Hs7.out⟩
            case measure => simp [intOf]
          · go_wp2_with fail
            refine (Hbd.out _).mono ?_
            rintro e w8 ⟨rfl, hk⟩
            have hs8 := Hs7.out.trans hk
            clear hk x0 x1 x2 x3 x4
            have Hs8 := Lib.hid hs8; clear hs8
            go_wp2_with fail
            go_roundw
            case rel => exact ⟨0 + 1, by omega, by go_num, Hs8.out⟩
            case measure => simp [intOf]
        · go_wp2_with fail
          refine (Hme.out _ ⟨(Hc.out.rd.kept HK7.out (by simp)).kept ((Stp.refl [] wr).alloc _) (by simp)⟩).mono ?_
          rintro e w7 ⟨rfl, hk⟩
          have hX := hk.blk (blk_new wr _) (by simp)
          have x0 := blk_cell hX 0
          have x1 := blk_cell hX 1
          have x2 := blk_cell hX 2
          have x3 := blk_cell hX 3
          have x4 := blk_cell hX 4
          simp at x0 x1 x2 x3 x4
          have hs7 := (Hs.out.alloc _).trans hk
          clear hX hk HK7 HB7 c0 c1 c2 c3 c4 c5 c6 c7 c8 c9 c10 c11 c12 c13 c14 hzr
          have Hs7 := Lib.hid hs7; clear hs7
          cases hme' : (⟨nw, ns + 1, nb, nt, xs⟩ : Cfg).may
          · go_wp2_with fail
            go_roundw
            case rel => exact ⟨1 + 1, by omega, by go_num, Hs7.out⟩
            case measure => simp [intOf]
          · go_wp2_with fail
            refine (Hbe.out _).mono ?_
            rintro e w8 ⟨rfl, hk⟩
            have hs8 := Hs7.out.trans hk
            clear hk x0 x1 x2 x3 x4
            have Hs8 := Lib.hid hs8; clear hs8
            go_wp2_with fail
            go_roundw
            case rel => exact ⟨1 + 1, by omega, by go_num, Hs8.out⟩
            case measure => simp [intOf]
        · go_wp2_with fail
          refine (Hmf.out _ ⟨(Hc.out.rd.kept HK7.out (by simp)).kept ((Stp.refl [] wr).alloc _) (by simp)⟩).mono ?_
          rintro e w7 ⟨rfl, hk⟩
          have hX := hk.blk (blk_new wr _) (by simp)
          have x0 := blk_cell hX 0
          have x1 := blk_cell hX 1
          have x2 := blk_cell hX 2
          have x3 := blk_cell hX 3
          have x4 := blk_cell hX 4
          simp at x0 x1 x2 x3 x4
          have hs7 := (Hs.out.alloc _).trans hk
          clear hX hk HK7 HB7 c0 c1 c2 c3 c4 c5 c6 c7 c8 c9 c10 c11 c12 c13 c14 hzr
          have Hs7 := Lib.hid hs7; clear hs7
          cases hme' : (⟨nw, ns, nb, nt + 1, xs⟩ : Cfg).may
          · go_wp2_with fail
            go_roundw
            case rel => exact ⟨2 + 1, by omega, by go_num, Hs7.out⟩
            case measure => simp [intOf]
          · go_wp2_with fail
            refine (Hbf.out _).mono ?_
            rintro e w8 ⟨rfl, hk⟩
            have hs8 := Hs7.out.trans hk
            clear hk x0 x1 x2 x3 x4
            have Hs8 := Lib.hid hs8; clear hs8
            go_wp2_with fail
            go_roundw
            case rel => exact ⟨2 + 1, by omega, by go_num, Hs8.out⟩
            case measure => simp [intOf]
        · clear c0 c1 c2 c3 c4 c5 c6 c7 c8 c9 c10 c11 c12 c13 c14 hzr
          have b0 := blk_cell HB7.out 0
          have b1 := blk_cell HB7.out 1
          have b2 := blk_cell HB7.out 2
          have b3 := blk_cell HB7.out 3
          have b4 := blk_cell HB7.out 4
          simp at b0 b1 b2 b3 b4
          clear Hs
          go_wp2_with fail
          go_region_held3 (fun w' => w'.cell? ⟨W.heap.size, 0, none⟩ = some (.int .i64 nw) ∧ w'.cell? ⟨W.heap.size, 1, none⟩ = some (.int .i64 ns) ∧ w'.cell? ⟨W.heap.size, 2, none⟩ = some (.int .i64 nb) ∧ w'.cell? ⟨W.heap.size, 3, none⟩ = some (.int .i64 nt) ∧ w'.cell? ⟨W.heap.size, 4, none⟩ = some (.slice a xs.length cap)) (go_keep)
            ((first
              | (go_at_call 14; refine (Hst.out _).mono ?_; rintro e w5 ⟨rfl, hk⟩; have hb5 := hk.blk HB7.out (by simp); have k0 := blk_cell hb5 0; have k1 := blk_cell hb5 1; have k2 := blk_cell hb5 2; have k3 := blk_cell hb5 3; have k4 := blk_cell hb5 4; simp at k0 k1 k2 k3 k4; have HB7 := Lib.hid hb5; clear hb5; have hS5 : Stp [] W w5 := (by first | exact HK7.out.trans hk | exact HK7.out.drew.trans hk); have HK7 := Lib.hid hS5; clear hS5; clear hk)
              | (go_at_call 15; refine (Hats.out _).mono ?_; rintro e w5 ⟨rfl, rfl⟩)))
          all_goals (go_wp2_with fail; go_ret; exact ⟨rfl, HK7.out.below0⟩)

end Go.Proofs.Ytbfokghhnhlfgaa
