/- The walk of ConfOwn. -/
import Derived.Test.YtbfokghhnhlfgaaW04a
import Derived.Test.YtbfokghhnhlfgaaConfCopy
namespace Go.Proofs.Ytbfokghhnhlfgaa
open Go.RowKit

/-- The first loop: the copy's classes are added to, one by one. -/
def OwnA (W : World) (box dbox : Obj) (xs : List Int) (gd : Nat) (ao : Option Addr) (co : Nat) (ad : Option Addr) (cd : Nat) (vi : Value) (wr : World) : Prop :=
  ∃ (k : Nat) (ys : List Int), k ≤ xs.length ∧ vi = .int .i64 k ∧ ys.length = xs.length ∧ (∀ i, k ≤ i → ys.getD i 0 = xs.getD i 0) ∧
    wr.ownsRow W.heap.size 3 1 (.slice ao xs.length co) xs.length (xs.map (Value.int .i64)) ∧ wr.ownsRow W.heap.size 3 1 (.slice ad xs.length cd) xs.length (ys.map (Value.int .i64)) ∧
    wr.heap[W.heap.size]? = some box ∧ wr.heap[gd]? = some dbox ∧ Stp [] W wr
def OwnB (W : World) (box : Obj) (xs : List Int) (ao : Option Addr) (co : Nat) (vi : Value) (wr : World) : Prop :=
  ∃ (k : Nat), k ≤ xs.length ∧ vi = .int .i64 k ∧
    wr.ownsRow W.heap.size 3 1 (.slice ao xs.length co) xs.length (xs.map (Value.int .i64)) ∧
    wr.heap[W.heap.size]? = some box ∧ Stp [] W wr
theorem getD_map_int {xs : List Int} {k : IntKind} {i : Nat} (h : i < xs.length) : (xs.map (Value.int k))[i]? = some (.int k (xs.getD i 0)) := by simp [List.getD, h]
theorem getD_set_ne {xs : List Int} {i j : Nat} (u : Int) (h : i ≠ j) : (xs.set i u).getD j 0 = xs.getD j 0 := by simp [List.getD, h]

set_option maxRecDepth 100000 in
set_option maxHeartbeats 4000000 in
theorem ConfOwn_walk (c0 : Array Value) (by_ : Int) (W : World) (w0 : Fits W (.pair (.int .i64) (.pair (.int .i64) (.pair (.int .i64) (.pair (.int .i64) (.pair (.slice (.int .i64)) .unit))))) c0.toList) (_ : (Lit.int .i64 by_).wf = true) :
    Calls Try.prog 6 #[.agg c0, .int .i64 by_] W fun e w' => e = .returned (.bool true) ∧ Below W.heap.size W w' := by
  obtain ⟨i0, hi, hz0, hz1, hz2⟩ := info_parts info_int
  obtain ⟨c, a, cap, he, hc, _⟩ := cfg_of_fits w0
  rw [he]
  clear he w0
  have hcp := fun w => copy_spec c a cap w
  obtain ⟨nw, ns, nb, nt, xs⟩ := c
  obtain ⟨hc⟩ := hc
  have hmost := hc.most
  have hle := hc.le
  unfold maxLen at hmost
  simp only [Cfg.val] at hcp hc hle ⊢
  have Hc := Lib.hid hc; clear hc
  have Hcp := Lib.hid hcp; clear hcp
  go_enter Try.func6, Try.ntmps6
  go_wp2_with fail
  refine (speaks_true _).mono ?_
  rintro e w2 ⟨rfl, hk⟩
  have hB := hk.blk (blk_new W (.cells #[.int .i64 nw, .int .i64 ns, .int .i64 nb, .int .i64 nt, .slice a xs.length cap] 24)) (by simp)
  have hK := ((Stp.refl [] W).alloc _).trans hk
  have hz := hk.size
  simp only [World.size_alloc] at hz
  have b0 := blk_cell hB 0
  have b1 := blk_cell hB 1
  have b2 := blk_cell hB 2
  have b3 := blk_cell hB 3
  have b4 := blk_cell hB 4
  simp at b0 b1 b2 b3 b4
  clear hk
  have n0 : W.heap.size < w2.heap.size := by omega
  have n1 : (W.heap.size = w2.heap.size) = False := by simp; omega
  have HB := Lib.hid hB; clear hB
  have HK := Lib.hid hK; clear hK
  by_cases hl : 100 < xs.length
  · go_wp2_with fail
    go_ret
    exact ⟨rfl, HK.out.below0⟩
  have hs := Src.rd (Hc.out.kept (HK.out.alloc (.cells #[] 3)) (by simp))
  have hb := blk_new w2 (.cells #[] 3)
  have Hs := Lib.hid hs; clear hs
  have Hb := Lib.hid hb; clear hb
  go_wp2_with (at_builtin; refine wpList_app rfl _ _ rfl Try.underlying22 hi hz0 hz1 hz2 rfl (by decide) rfl rfl (own_empty Hb.out (Nat.le_refl _)) Hs.out (by unfold maxLen; omega) (by omega) (by simp) ?_)
  rintro v' w3 ⟨hown, hstp, _, _⟩
  simp only [Nat.zero_add, List.nil_append] at hown
  obtain ⟨ao, co, rfl, hco0, hco1, hao⟩ := own_slice hown
  have hk3 := ((Stp.refl [] w2).alloc (.cells #[] 3)).trans' hstp (by simp [Value.ownBlock])
  have hB3 := hk3.blk HB.out (by simp)
  have hK3 := HK.out.trans hk3
  have hz3 := hk3.size
  have hown3 := own_base hown (show W.heap.size + 1 ≤ w2.heap.size by omega)
  clear hk3 hstp hown Hb Hs HB HK b0 b1 b2 b3 b4
  have b0 := blk_cell hB3 0
  have b1 := blk_cell hB3 1
  have b2 := blk_cell hB3 2
  have b3 := blk_cell hB3 3
  have b4 := blk_cell hB3 4
  simp at b0 b1 b2 b3 b4
  have HB3 := Lib.hid hB3; clear hB3
  have HK3 := Lib.hid hK3; clear hK3
  have Hown3 := Lib.hid hown3; clear hown3
  have Hao := Lib.hid hao; clear hao
  go_wp2_with fail
  refine (Hcp.out w3 ⟨Hc.out.kept HK3.out (by simp)⟩ (by omega)).mono ?_
  rintro e w4 ⟨ad, cd, he, hd, hk4⟩
  simp only [Cfg.val] at he hd
  subst he
  clear b0 b1 b2 b3 b4
  have hB4 := hk4.blk HB3.out (by simp)
  have hK4 := HK3.out.trans hk4
  have hown4 := own_kept Hown3.out hk4 (by simp)
  obtain ⟨_, _, hdv, hcd0, hcd1, had⟩ := own_slice hd
  cases hdv
  have hz4 := hk4.size
  have hne : ∀ g, (Value.slice ao xs.length co).ownBlock = some g → W.heap.size < g ∧ g < w3.heap.size := fun g hg => Hown3.out.lt g hg
  have hnd : ∀ g, (Value.slice ad xs.length cd).ownBlock = some g → w3.heap.size ≤ g ∧ g < w4.heap.size := fun g hg => hd.lt g hg
  clear hk4 HB3 HK3 Hown3
  have b0 := blk_cell hB4 0
  have b1 := blk_cell hB4 1
  have b2 := blk_cell hB4 2
  have b3 := blk_cell hB4 3
  have b4 := blk_cell hB4 4
  simp at b0 b1 b2 b3 b4
  have z5 : W.heap.size < w4.heap.size := by omega
  have z6 : (W.heap.size = w4.heap.size) = False := by simp; omega
  have HB4 := Lib.hid hB4; clear hB4
  have HK4 := Lib.hid hK4; clear hK4
  have Hown4 := Lib.hid hown4; clear hown4
  have Hd := Lib.hid hd; clear hd
  have Had := Lib.hid had; clear had
  have Hne := Lib.hid hne; clear hne
  have Hnd := Lib.hid hnd; clear hnd
  go_wp2_with fail
  clear b0 b1 b2 b3 b4
  have hd5 := blk_new w4 (.cells #[.int .i64 nw, .int .i64 ns, .int .i64 nb, .int .i64 nt, .slice ad xs.length cd] 24)
  go_loopw [59] (fun vi wr => OwnA W (.cells #[.int .i64 nw, .int .i64 ns, .int .i64 nb, .int .i64 nt, .slice a xs.length cap] 24) (.cells #[.int .i64 nw, .int .i64 ns, .int .i64 nb, .int .i64 nt, .slice ad xs.length cd] 24) xs w4.heap.size ao co ad cd vi wr) (fun vi _ => xs.length - (intOf vi).toNat)
  case atStart =>
    exact ⟨0, xs, Nat.zero_le _, rfl, rfl, fun _ _ => rfl, own_base (own_kept Hown4.out ((Stp.refl [] w4).alloc _) (by simp)) (by omega), own_base (own_kept Hd.out ((Stp.refl [] w4).alloc _) (by simp)) (by omega), blk_alloc HB4.out _, hd5, HK4.out.alloc _⟩
  case round =>
    obtain ⟨k, ys, hk, rfl, hyl, hys, ho, hd, hb, hdb, hs⟩ := hrel
    have hdb4 := blk_cell hdb 4
    simp at hdb4
    have hsz := hs.size
    clear hd5 HB4 HK4 Hown4 Hd
    have Hys := Lib.hid hys; clear hys
    have Ho := Lib.hid ho; clear ho
    have Hd := Lib.hid hd; clear hd
    have Hb := Lib.hid hb; clear hb
    have Hdb := Lib.hid hdb; clear hdb
    have Hs := Lib.hid hs; clear hs
    by_cases hlt : k < xs.length
    · have hxk := getD_map_int (k := .i64) hlt
      obtain ⟨o, rfl, ho1, ho2⟩ := Hao.out (by omega)
      obtain ⟨d, rfl, hd1, hd2⟩ := Had.out (by omega)
      have hcO := own_cell (i := k) Ho.out (by omega)
      have hcD := own_cell (i := k) Hd.out (by omega)
      have hfD := own_frozen Hd.out k
      rw [getD_map_int (by omega)] at hcO hcD
      rw [Hys.out k (Nat.le_refl _)] at hcD
      generalize hxv : xs.getD k 0 = x at hcO hcD
      clear hxk
      have Hxv := Lib.hid hxv; clear hxv
      go_wp2_with fail
      go_roundw
      case rel =>
        have h1 := (Hne.out o rfl)
        have h2 := (Hnd.out d rfl)
        refine ⟨k + 1, ys.set k (wrap64 (x + by_)), by omega, by go_num, by simpa using hyl, fun i hi => ?_, own_kept Ho.out ((Stp.refl [d] _).setCell _ _ (by simp)) (by simp [Value.ownBlock]; omega), ?_, blk_far Hb.out (by simp; omega) _, blk_far Hdb.out (by simp; omega) _, Hs.out.setCell _ _ (.inr (by show W.heap.size ≤ d; omega))⟩
        · rw [getD_set_ne _ (by omega)]; exact Hys.out i (by omega)
        · have := own_set Hd.out k (.int .i64 (wrap64 (x + by_)))
          rw [← List.map_set] at this
          exact this
      case measure => simp [intOf]; omega
    · obtain rfl : k = xs.length := by omega
      go_wp2_with fail
      clear hdb4 Hd Hdb Hys Had Hnd
      go_loopw [82] (fun vi wr => OwnB W (.cells #[.int .i64 nw, .int .i64 ns, .int .i64 nb, .int .i64 nt, .slice a xs.length cap] 24) xs ao co vi wr) (fun vi _ => xs.length - (intOf vi).toNat)
      case atStart => exact ⟨0, Nat.zero_le _, rfl, Ho.out, Hb.out, Hs.out⟩
      case round =>
        clear Ho Hb Hs hsz
        obtain ⟨k, hk, rfl, ho, hb, hs⟩ := hrel
        have hb4 := blk_cell hb 4
        simp at hb4
        have Ho := Lib.hid ho; clear ho
        have Hb := Lib.hid hb; clear hb
        have Hs := Lib.hid hs; clear hs
        by_cases hlt : k < xs.length
        · obtain ⟨o, rfl, ho1, ho2⟩ := Hao.out (by omega)
          obtain ⟨ba, off, rfl, hba, hcell⟩ := Hc.out.cell k hlt
          replace hcell := Hs.out.cell hcell (by simp)
          have hcO := own_cell (i := k) Ho.out (by omega)
          rw [getD_map_int (by omega)] at hcO
          generalize xs.getD k 0 = x at hcO hcell
          go_wp2_with fail
          go_roundw
          case rel => exact ⟨k + 1, by omega, by go_num, Ho.out, Hb.out, Hs.out⟩
          case measure => simp [intOf]; omega
        · go_wp2_with fail
          go_ret
          exact ⟨rfl, Hs.out.below0⟩

end Go.Proofs.Ytbfokghhnhlfgaa
