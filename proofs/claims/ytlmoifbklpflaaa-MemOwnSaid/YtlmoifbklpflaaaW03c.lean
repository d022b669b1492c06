/- The walk of MemOwn. -/
import Derived.Test.YtlmoifbklpflaaaW03a
namespace Go.Proofs.Ytlmoifbklpflaaa
open Go.RowKit

/-- A memory's words, the first k of which are those of xs. -/
def firstK (xs : List Int) (k : Nat) : List Int := xs.take k ++ List.replicate (xs.length - k) 0
theorem firstK_length (xs : List Int) (k : Nat) (h : k ≤ xs.length) : (firstK xs k).length = xs.length := by simp [firstK]; omega
theorem firstK_zero (xs : List Int) : firstK xs 0 = List.replicate xs.length 0 := by simp [firstK]
theorem firstK_all (xs : List Int) : firstK xs xs.length = xs := by simp [firstK]
theorem firstK_set (xs : List Int) (k : Nat) (h : k < xs.length) : (firstK xs k).set k (xs.getD k 0) = firstK xs (k + 1) := by
  apply List.ext_getElem?
  intro i
  unfold firstK
  have hg : xs[k]? = some (xs.getD k 0) := by simp [List.getD, h]
  grind
theorem MemS.put_firstK (xs : List Int) (k : Nat) (h : k < xs.length) (o f q r : Int) : ((⟨firstK xs k, o, f, q, r⟩ : MemS).touch 2 k).put k (xs.getD k 0) = ⟨firstK xs (k + 1), o + 1, f, 2, k⟩ := by
  have hin : (⟨firstK xs k, o, f, q, r⟩ : MemS).inr k := by unfold MemS.inr; rw [firstK_length xs k (by omega)]; omega
  have hin2 : ((⟨firstK xs k, o, f, q, r⟩ : MemS).touch 2 k).inr k := hin
  rw [MemS.put, if_pos hin2, MemS.touch, if_pos hin]
  simp only [Int.toNat_natCast, firstK_set xs k h]

/-- MemOwn's first loop: words are stored. -/
def OwInv1 (W : World) (xs : List Int) (g b : Nat) (vi : Value) (wr : World) : Prop :=
  ∃ (k : Nat) (lk la : Int), k ≤ xs.length ∧ vi = .int .i64 k ∧ IsMem wr g b ⟨firstK xs k, k, 0, lk, la⟩ ∧ Stp [] W wr
/-- The second: what was answered is changed. -/
def OwInv2 (W : World) (xs : List Int) (g b : Nat) (n : Nat) (lk la : Int) (v : Value) (vi : Value) (wr : World) : Prop :=
  ∃ (k : Nat) (ys : List Int), k ≤ xs.length ∧ vi = .int .i64 k ∧ IsMem wr g b ⟨xs, n, 0, lk, la⟩ ∧ wr.ownsRow W.heap.size 22 1 v xs.length (ys.map (Value.int .u64)) ∧ Stp [] W wr
/-- The third: the memory's words are looked at. -/
def OwInv1' (W : World) (xs : List Int) (g b : Nat) (n : Nat) (lk la : Int) (vi : Value) (wr : World) : Prop :=
  ∃ (k : Nat), k ≤ xs.length ∧ vi = .int .i64 k ∧ IsMem wr g b ⟨xs, n, 0, lk, la⟩ ∧ Stp [] W wr

set_option maxHeartbeats 1000000 in
theorem MemOwn_walk (n : Int) (a1 : Option Addr) (len cap : Nat) (W : World) (_w0 : (Lit.int .i64 n).wf = true) (w1 : Fits W (.slice (.int .u64)) [.slice a1 len cap]) :
    Calls Try.prog 5 #[.int .i64 n, .slice a1 len cap] W fun e w' => e = .returned (.bool true) ∧ Below W.heap.size W w' := by
  obtain ⟨xs, hx⟩ := w1.ints
  have hmost := hx.most
  have hle := hx.le
  unfold maxLen at hmost
  by_cases h200 : 200 < len
  · go_enter Try.func5, Try.ntmps5
    go_wp2_with fail
    refine (speaks_true W).mono ?_
    rintro e w2 ⟨rfl, hk⟩
    have Hk := Lib.hid hk; clear hk
    go_wp2_with fail
    go_ret
    exact ⟨rfl, Hk.out.blow⟩
  have hlen : len ≤ 200 := by omega
  clear w1
  obtain rfl := hx.n
  have Hx := Lib.hid hx; clear hx
  go_enter Try.func5, Try.ntmps5
  go_wp2_with fail
  refine (speaks_true W).mono ?_
  rintro e w2 ⟨rfl, hk2⟩
  have Hk2 := Lib.hid hk2; clear hk2
  go_wp2_with fail
  refine (mem_new _ w2 (by omega)).mono ?_
  rintro e w3 ⟨g, b, rfl, hm, hk, hg, hb⟩
  rw [Int.toNat_natCast] at hm
  rw [← firstK_zero] at hm
  have hK3 := Hk2.out.trans hk
  have hs2 := Hk2.out.size
  clear hk Hk2
  have Hm := Lib.hid hm; clear hm
  have HK3 := Lib.hid hK3; clear hK3
  go_wp2_with fail
  go_loopw [22] (fun vi wr => OwInv1 W xs g b vi wr) (fun i _ => xs.length - (intOf i).toNat)
  case atStart => exact ⟨0, 0, 0, Nat.zero_le _, rfl, Hm.out, HK3.out⟩
  case round =>
    clear Hm HK3
    obtain ⟨k, lk, la, hk, rfl, hm, hs⟩ := hrel
    have Hm := Lib.hid hm; clear hm
    have Hs := Lib.hid hs; clear hs
    by_cases hlt : k < xs.length
    · obtain ⟨ba, off, rfl, hba, hcell⟩ := Hx.out.cell k hlt
      have hcell := Hs.out.cell hcell (by simp)
      have hput := MemS.put_firstK xs k hlt k 0 lk la
      have Hput := Lib.hid hput; clear hput
      generalize hxv : xs.getD k 0 = x at hcell
      have Hxv := Lib.hid hxv; clear hxv
      go_wp2_with fail
      refine (mem_store g b _ k x wr Hm.out ⟨by show (0 : Int) ≤ k; omega, by show (k : Int) < _; omega, by show (0 : Int) ≤ 0; omega, by show (0 : Int) < _; omega⟩).mono ?_
      rintro e w6 ⟨rfl, hm, hk2⟩
      rw [← Hxv.out, Hput.out] at hm
      have Hs6 := Lib.hid (Hs.out.trans' hk2 (by simp; omega))
      clear hk2
      have Hm := Lib.hid hm; clear hm
      go_wp2_with fail
      go_roundw
      case rel => exact ⟨k + 1, 2, k, by omega, by go_num, by simpa using Hm.out, Hs6.out⟩
      case measure => simp [intOf]; omega
    · obtain rfl : k = xs.length := by omega
      go_wp2_with fail
      refine (mem_words g b _ _ Hm.out).mono ?_
      rintro e w7 ⟨v, rfl, ho, hnv, hk7⟩
      have hm7 := Hm.out.kept hk7 (by simp) (by simp)
      simp only [firstK_all, List.length_map] at hm7 ho
      have ho' := own_base ho (Hs.out.size)
      obtain ⟨av, cv, rfl, hcv, hcm, hav⟩ := own_slice ho'
      have hs7 := Hs.out.trans hk7
      have hgl := blk_lt Hm.out.hs
      have hbl := blk_lt Hm.out.hw
      have hne : ∀ d, (Value.slice av xs.length cv).ownBlock = some d → W.heap.size ≤ d := fun d hd => (ho'.lt d hd).1
      have hgd : ∀ d, (Value.slice av xs.length cv).ownBlock = some d → d ≠ g ∧ d ≠ b := fun d hd => by have := (ho.lt d hd).1; omega
      clear ho hnv Hm Hs hgl hbl
      have Hm7 := Lib.hid hm7; clear hm7
      have Ho' := Lib.hid ho'; clear ho'
      have Hs7 := Lib.hid hs7; clear hs7
      have Hav := Lib.hid hav; clear hav
      have Hk7 := Lib.hid hk7; clear hk7
      have Hgd := Lib.hid hgd; clear hgd
      have Hne := Lib.hid hne; clear hne
      go_wp2_with fail
      go_loopw [36] (fun vi wr => OwInv2 W xs g b xs.length lk la (.slice av xs.length cv) vi wr) (fun i _ => xs.length - (intOf i).toNat)
      case atStart => exact ⟨0, xs, Nat.zero_le _, rfl, Hm7.out, Ho'.out, Hs7.out⟩
      case round =>
        clear Hm7 Ho' Hs7
        obtain ⟨k, ys, hk, rfl, hm, ho, hs⟩ := hrel
        have Hm := Lib.hid hm; clear hm
        have Ho := Lib.hid ho; clear ho
        have Hs := Lib.hid hs; clear hs
        by_cases hlt : k < xs.length
        · obtain ⟨d, rfl, hd1, hd2⟩ := Hav.out (by omega)
          have hyl := own_length Ho.out
          simp only [List.length_map, Nat.mul_one] at hyl
          have hc := own_cell (i := k) Ho.out (by omega)
          have hfz := own_frozen Ho.out k
          rw [show (ys.map (Value.int .u64))[k]? = some (.int .u64 (ys.getD k 0)) by simp [List.getD, show k < ys.length by omega]] at hc
          generalize ys.getD k 0 = y at hc
          have Hyl := Lib.hid hyl; clear hyl
          go_wp2_with fail
          go_roundw
          case rel =>
            have hgdd := Hgd.out d rfl
            refine ⟨k + 1, ys.set k (IntKind.u64.wrap (y + 1)), by omega, by go_num, Hm.out.kept ((Stp.refl [d] _).setCell _ _ (by simp)) (by simp; omega) (by simp; omega), ?_, Hs.out.setCell _ _ (.inr hd1)⟩
            have := own_set Ho.out k (.int .u64 (IntKind.u64.wrap (y + 1)))
            rw [← List.map_set] at this
            exact this
          case measure => simp [intOf]; omega
        · obtain rfl : k = xs.length := by omega
          go_wp2_with fail
          go_loopw [48] (fun vi wr => OwInv1' W xs g b xs.length lk la vi wr) (fun i _ => xs.length - (intOf i).toNat)
          case atStart => exact ⟨0, Nat.zero_le _, rfl, Hm.out, Hs.out⟩
          case round =>
            clear Hm Ho Hs
            obtain ⟨k, hk, rfl, hm, hs⟩ := hrel
            have Hm := Lib.hid hm; clear hm
            have Hs := Lib.hid hs; clear hs
            by_cases hlt : k < xs.length
            · obtain ⟨ba, off, rfl, hba, hcell⟩ := Hx.out.cell k hlt
              have hcell := Hs.out.cell hcell (by simp)
              have hget : (⟨xs, xs.length, 0, lk, la⟩ : MemS).get k = xs.getD k 0 := by simp [MemS.get, MemS.inr, hlt]
              have Hget := Lib.hid hget; clear hget
              generalize hxv : xs.getD k 0 = x at hcell
              have Hxv := Lib.hid hxv; clear hxv
              go_wp2_with fail
              refine (mem_peek g b _ k _ Hm.out).mono ?_
              rintro e w9 ⟨rfl, rfl⟩
              rw [Hget.out, Hxv.out]
              go_wp2_with fail
              go_roundw
              case rel => exact ⟨k + 1, by omega, by go_num, Hm.out, Hs.out⟩
              case measure => simp [intOf]; omega
            · by_cases hn : 65536 < n
              · go_wp2_with fail
                go_ret
                exact ⟨rfl, Hs.out.blow⟩
              · go_wp2_with fail
                refine (mem_new _ _ (by omega)).mono ?_
                rintro e w9 ⟨g9, b9, rfl, hm9, hk9, hg9, hb9⟩
                have hs9 := Hs.out.trans hk9
                have Hm9 := Lib.hid hm9; clear hm9
                have Hs9 := Lib.hid hs9; clear hs9
                clear hk9
                go_wp2_with fail
                refine (mem_len g9 b9 _ _ Hm9.out).mono ?_
                rintro e w10 ⟨rfl, rfl⟩
                simp only [List.length_replicate]
                by_cases hn0 : n < 0
                · have e : n.toNat = 0 := by omega
                  rw [e]
                  go_wp2_with fail
                  go_ret
                  exact ⟨rfl, Hs9.out.blow⟩
                · have e : ((n.toNat : Nat) : Int) = n := by omega
                  rw [e]
                  clear e
                  go_wp2_with fail
                  go_ret
                  exact ⟨by simp, Hs9.out.blow⟩

end Go.Proofs.Ytlmoifbklpflaaa
