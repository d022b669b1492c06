/- WordTiles: the law's contract. -/
import Derived.Test.YtlabfkllndmjhaaDoorL01d
namespace Go.Proofs.YtlabfkllndmjhaaDoor.E
open Go
set_option maxRecDepth 100000

theorem tile_put (w at_ n : Nat) (hw : w < 18446744073709551616) (h : at_ + n ≤ 64) : putN (w % 2 ^ at_) (getN w at_ n) at_ n = w % 2 ^ (at_ + n) := by
  refine nat_eq (putN_lt _ _ _ _) (Nat.lt_of_le_of_lt (Nat.mod_le _ _) hw) fun i hi => ?_
  rw [putN_bit _ _ _ _ _ hi (getN_lt w at_ (b := n)), getN_bit, Nat.testBit_mod_two_pow, Nat.testBit_mod_two_pow]
  by_cases c : at_ ≤ i ∧ i < at_ + n
  · rw [if_pos c, show at_ + (i - at_) = i by omega]; simp [show i - at_ < n by omega, c.2]
  · rw [if_neg c]
    by_cases c2 : i < at_
    · simp [c2, show i < at_ + n by omega]
    · simp [c2, show ¬ i < at_ + n by omega]
noncomputable abbrev gTiles (xs : List Int) : Frm := ⟨En, 7, Tryd.f7.ntmps, [.tab false (.int .u8) xs], .bl true, gones 1⟩
set_option maxHeartbeats 1000000 in
theorem tiles_0 (w : Nat) (xs : List Int) (hw : w < 18446744073709551616) (hx : ∀ i, 0 ≤ xs.getD i 0 ∧ xs.getD i 0 ≤ 255) : ∀ (j at_ i : Nat), at_ + j = 64 → i ≤ at_ → Goods (gTiles xs) ⟨.none, lp Tryd.f7 0, [(0, .int .u64 w), (1, .slice 0 0 xs.length), (5, .int .u64 (w % 2 ^ at_ : Nat)), (6, .int .i64 at_), (7, .int .i64 i)], hp [.tab false (.int .u8) xs]⟩
  | 0, at_, i, h, hi => by
    obtain rfl : at_ = 64 := by omega
    have e : w % 2 ^ 64 = w := Nat.mod_eq_of_lt (by rw [pow64]; exact hw)
    rw [e]
    refine Goods.fin 2000 [.b false] mixed Tryd.func7 ?_
    show Yes _
    repeat' apply And.intro
    (all_goals first | rfl | assumption | trivial | omega | (simp [-List.getD_eq_getElem?_getD] <;> omega) | (simp (disch := omega) only [w64, wu64] <;> omega) | (simp (disch := omega) [-List.getD_eq_getElem?_getD, List.getD_cons_zero, List.getD_cons_succ, kCast_self, dfl_pair, dfl_int, w64, wu64] <;> omega) | (rw [Bool.eq_iff_iff]; simp (disch := omega) [-List.getD_eq_getElem?_getD, List.getD_cons_zero, List.getD_cons_succ, kCast_self, dfl_pair, dfl_int, w64, wu64] <;> omega) | (simp_all [-List.getD_eq_getElem?_getD] <;> omega))
  | j + 1, at_, i, h, hi => by
    have step : ∀ n : Nat, 1 ≤ n → at_ + n ≤ 64 → FldOk (at_ : Int) (n : Int) ∧ Tri En 12 [fldA at_ n, .int .u64 (w % 2 ^ at_ : Nat), .int .u64 (getN w at_ n)] [] (.tuple [.int .u64 (w % 2 ^ (at_ + n) : Nat), .bl true]) [] := by
      intro n h1 h2
      have hf : FldOk (at_ : Int) (n : Int) := ⟨by omega, by omega, by omega, by omega⟩
      have := put_yes (w % 2 ^ at_) (getN w at_ n) at_ n (Nat.lt_of_le_of_lt (Nat.mod_le _ _) hw) hf (getN_lt w at_ (b := n))
      rw [tile_put w at_ n hw h2] at this
      exact ⟨hf, this⟩
    by_cases hl : i < xs.length
    · obtain ⟨x, hxe⟩ : ∃ x : Nat, xs.getD i 0 = x := ⟨(xs.getD i 0).toNat, by have := hx i; omega⟩
      have hx8 : x ≤ 255 := by have := hx i; omega
      obtain ⟨n, hn⟩ : ∃ n : Nat, n = min (64 - at_) (1 + x % 64) := ⟨_, rfl⟩
      obtain ⟨hf, hp'⟩ := step n (by omega) (by omega)
      have hg := get_yes w at_ n hw hf
      have ih := tiles_0 w xs hw hx (64 - (at_ + n)) (at_ + n) (i + 1) (by omega) (by omega)
      have e1 : IntKind.i64.wrap (64 - (at_ : Int)) = 64 - at_ := w64 (by omega) (by omega)
      have e2 : IntKind.i64.wrap (x : Int) = x := w64 (by omega) (by omega)
      have e3 : Int.tmod (x : Int) 64 = (x % 64 : Nat) := by rw [Int.tmod_eq_emod_of_nonneg (by omega)]; rfl
      have e4 : IntKind.i64.wrap (1 + ((x % 64 : Nat) : Int)) = 1 + ((x % 64 : Nat) : Int) := w64 (by omega) (by omega)
      have e5 : min (64 - (at_ : Int)) (1 + ((x % 64 : Nat) : Int)) = n := by omega
      have e6 : IntKind.i64.wrap ((at_ : Int) + n) = (at_ + n : Nat) := by rw [w64 (by omega) (by omega)]; omega
      have e7 : IntKind.i64.wrap ((i : Int) + 1) = (i + 1 : Nat) := by rw [w64 (by omega) (by omega)]; omega
      refine Goods.to 2000 [.b true, .b true, .c (.of hg), .c (.of hp'), .l, .stop] mixed (ih) (by kernel_rfl) ?_
      show Yes _
      repeat' apply And.intro
      all_goals (try simp only [Int.toNat_natCast, Nat.add_zero, dfl_int, hxe, e1, e2, e3, e4, e5, e6, e7])
      (all_goals first | rfl | assumption | trivial | omega | (simp [-List.getD_eq_getElem?_getD] <;> omega) | (simp (disch := omega) only [w64, wu64] <;> omega) | (simp (disch := omega) [-List.getD_eq_getElem?_getD, List.getD_cons_zero, List.getD_cons_succ, kCast_self, dfl_pair, dfl_int, w64, wu64] <;> omega) | (rw [Bool.eq_iff_iff]; simp (disch := omega) [-List.getD_eq_getElem?_getD, List.getD_cons_zero, List.getD_cons_succ, kCast_self, dfl_pair, dfl_int, w64, wu64] <;> omega) | (simp_all [-List.getD_eq_getElem?_getD] <;> omega))
    · obtain ⟨hf, hp'⟩ := step (64 - at_) (by omega) (by omega)
      have hg := get_yes w at_ (64 - at_) hw hf
      have ih := tiles_0 w xs hw hx 0 (at_ + (64 - at_)) (i + 1) (by omega) (by omega)
      have e1 : IntKind.i64.wrap (64 - (at_ : Int)) = (64 - at_ : Nat) := by rw [w64 (by omega) (by omega)]; omega
      have e6 : IntKind.i64.wrap ((at_ : Int) + (64 - at_ : Nat)) = (at_ + (64 - at_) : Nat) := by rw [w64 (by omega) (by omega)]; omega
      have e7 : IntKind.i64.wrap ((i : Int) + 1) = (i + 1 : Nat) := by rw [w64 (by omega) (by omega)]; omega
      refine Goods.to 2000 [.b true, .b false, .c (.of hg), .c (.of hp'), .l, .stop] mixed (ih) (by kernel_rfl) ?_
      show Yes _
      repeat' apply And.intro
      all_goals (try simp only [e1, e6, e7])
      (all_goals first | rfl | assumption | trivial | omega | (simp [-List.getD_eq_getElem?_getD] <;> omega) | (simp (disch := omega) only [w64, wu64] <;> omega) | (simp (disch := omega) [-List.getD_eq_getElem?_getD, List.getD_cons_zero, List.getD_cons_succ, kCast_self, dfl_pair, dfl_int, w64, wu64] <;> omega) | (rw [Bool.eq_iff_iff]; simp (disch := omega) [-List.getD_eq_getElem?_getD, List.getD_cons_zero, List.getD_cons_succ, kCast_self, dfl_pair, dfl_int, w64, wu64] <;> omega) | (simp_all [-List.getD_eq_getElem?_getD] <;> omega))
  termination_by j => j
  decreasing_by all_goals omega
theorem WordTiles_tri (w : Nat) (xs : List Int) (hw : w < 18446744073709551616) (hx : ∀ i, 0 ≤ xs.getD i 0 ∧ xs.getD i 0 ≤ 255) : Tri En 7 [.int .u64 w, .slice 0 0 xs.length] [.tab false (.int .u8) xs] (.bl true) (gones 1) := by
  have ih := tiles_0 w xs hw hx 64 0 0 (by omega) (by omega)
  rw [show w % 2 ^ 0 = 0 by omega] at ih
  refine Tri.of Tryd.func7 rfl Tryd.call7 rfl ?_
  refine Goods.to 2000 [.c (.of speaks_tri), .l, .stop] mixed (ih) (by kernel_rfl) ?_
  show Yes _
  repeat' apply And.intro
  (all_goals first | rfl | assumption | trivial | omega | (simp [-List.getD_eq_getElem?_getD] <;> omega) | (simp (disch := omega) only [w64, wu64] <;> omega) | (simp (disch := omega) [-List.getD_eq_getElem?_getD, List.getD_cons_zero, List.getD_cons_succ, kCast_self, dfl_pair, dfl_int, w64, wu64] <;> omega) | (rw [Bool.eq_iff_iff]; simp (disch := omega) [-List.getD_eq_getElem?_getD, List.getD_cons_zero, List.getD_cons_succ, kCast_self, dfl_pair, dfl_int, w64, wu64] <;> omega) | (simp_all [-List.getD_eq_getElem?_getD] <;> omega))
theorem u8s_ok {xs : List Int} (h : ∀ y, y ∈ xs → (Lit.int .u8 y).wf = true) (i : Nat) : 0 ≤ xs.getD i 0 ∧ xs.getD i 0 ≤ 255 := by
  by_cases hi : i < xs.length
  · obtain ⟨n, hn, hle⟩ := wf_u8 (h (xs.getD i 0) (by simp [List.getD, hi]))
    omega
  · simp [List.getD, List.getElem?_eq_none (Nat.le_of_not_lt hi)]
theorem WordTiles_law (d : dats ([(false, (.int .u64)), (false, (.slice (.int .u8)))] : List (Bool × Sh))) (hd : datsOk ([(false, (.int .u64)), (false, (.slice (.int .u8)))] : List (Bool × Sh)) d) : Tri En 7 (argsOf ([(false, (.int .u64)), (false, (.slice (.int .u8)))] : List (Bool × Sh)) d 0) (objsOf ([(false, (.int .u64)), (false, (.slice (.int .u8)))] : List (Bool × Sh)) d) (.bl true) (gones (cnts ([(false, (.int .u64)), (false, (.slice (.int .u8)))] : List (Bool × Sh)))) := by
  obtain ⟨w, xs, _⟩ := d
  obtain ⟨h0, ⟨h1, h2⟩, _⟩ := hd
  obtain ⟨w, rfl, hw⟩ := u64_nat h0
  exact WordTiles_tri w xs hw (u8s_ok h2)
end Go.Proofs.YtlabfkllndmjhaaDoor.E
