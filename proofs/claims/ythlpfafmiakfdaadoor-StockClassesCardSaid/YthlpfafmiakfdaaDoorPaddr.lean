/- Where a block lies: arena.Address, and the document's. -/
import Derived.Test.YthlpfafmiakfdaaDoorPcap
namespace Go.Proofs.YthlpfafmiakfdaaDoor.E
set_option linter.unusedSimpArgs false
set_option linter.unusedVariables false
open Go
set_option maxRecDepth 100000
abbrev Blk := Int × Int
def inB (c : Cnf) (k : Int) (b : Blk) : Prop := 0 ≤ b.1 ∧ b.1 < c.s ∧ 0 ≤ b.2 ∧ b.2 < capN c k
instance (c : Cnf) (k : Int) (b : Blk) : Decidable (inB c k b) := by unfold inB; infer_instance
def adrN (c : Cnf) (k : Int) (b : Blk) : Int := if inB c k b then 65536 + 1024 * b.1 + c.cl.getD k.toNat 0 * b.2 else 0
def blkA (b : Blk) : AV := .agg [.int .i64 b.1, .int .i64 b.2]
theorem inB_nat {c : Cnf} (h : c.Ok) {k : Int} {b : Blk} (hb : inB c k b) : ∃ (i s x z : Nat), k = i ∧ i < c.cl.length ∧ b = ((s : Int), (x : Int)) ∧ (s : Int) < c.s ∧ c.cl.getD i 0 = z ∧ 16 ≤ z ∧ z ≤ 512 ∧ capN c i = 1024 / z ∧ x < 1024 / z ∧ x * z ≤ 1024 := by
  obtain ⟨h1, h2, h3, h4⟩ := hb
  have hk : 0 ≤ k ∧ k < c.cl.length := by
    apply Classical.byContradiction; intro hn
    unfold capN at h4; rw [if_neg hn] at h4; omega
  obtain ⟨i, rfl⟩ : ∃ i : Nat, k = i := ⟨k.toNat, by omega⟩
  obtain ⟨z, z1, z2, z3, z4, z5, z6, z7⟩ := cap_eq h (k := i) (by omega)
  obtain ⟨b1, b2⟩ := b
  simp only at h1 h2 h3 h4
  rw [z5] at h4
  have hx : b2.toNat < 1024 / z := by omega
  refine ⟨i, b1.toNat, b2.toNat, z, rfl, by omega, by rw [Int.toNat_of_nonneg h1, Int.toNat_of_nonneg h3], by omega, z1, z2, z3, z5, hx, ?_⟩
  exact Nat.le_trans (Nat.mul_le_mul_right z (Nat.le_of_lt hx)) (Nat.div_mul_le_self ..)
theorem adrN_pos {c : Cnf} (h : c.Ok) {k : Int} {b : Blk} (hb : inB c k b) : 65536 ≤ adrN c k b ∧ adrN c k b ≤ 1000000 := by
  obtain ⟨i, s, x, z, rfl, h1, rfl, h2, h3, h4, h5, h6, h7, h8⟩ := inB_nat h hb
  unfold adrN
  rw [if_pos hb, Int.toNat_natCast, h3]
  have : (z : Int) * (x : Int) = ((x * z : Nat) : Int) := by simp [Int.mul_comm]
  rw [this]
  have := h.s1
  simp only
  omega
theorem adrN_zero {c : Cnf} (h : c.Ok) {k : Int} {b : Blk} : adrN c k b = 0 ↔ ¬ inB c k b := by
  constructor
  · intro h0 hb; have := adrN_pos h hb; omega
  · intro hb; unfold adrN; rw [if_neg hb]
theorem aadr_tri (own : Bool) (c : Cnf) (h : c.Ok) (k : Int) (b : Blk) : Tri En 30 [cnfA 0 c, .int .i64 k, blkA b] [.tab own (.int .i64) c.cl] (.int .i64 (adrN c k b)) [.tab own (.int .i64) c.cl] := by
  have l1 := h.l1
  have s1 := h.s1
  have h1 := cap_tri own c h k
  refine Tri.of Tryd.func30 rfl Tryd.call30 rfl ?_
  by_cases hb : inB c k b
  · obtain ⟨i, s, x, z, rfl, h1', rfl, h2, h3, h4, h5, h6, h7, h8⟩ := inB_nat h hb
    have e : adrN c i ((s : Int), (x : Int)) = ((65536 + 1024 * s + x * z : Nat) : Int) := by
      unfold adrN
      rw [if_pos hb, Int.toNat_natCast, h3]
      have : (z : Int) * (x : Int) = ((x * z : Nat) : Int) := by simp [Int.mul_comm]
      rw [this]; omega
    rw [e]
    rw [h6] at h1
    have g0 : IntKind.i64.wrap ((x : Int) * c.cl.getD i 0) = ((x * z : Nat) : Int) := by
      rw [h3, show (x : Int) * (z : Int) = ((x * z : Nat) : Int) by simp]
      exact w64 (by omega) (by omega)
    have g0' : IntKind.i64.wrap (c.cl.getD i 0 * (x : Int)) = ((x * z : Nat) : Int) := by rw [Int.mul_comm]; exact g0
    have g1 : IntKind.i64.wrap (IntKind.i64.wrap (65536 + IntKind.i64.wrap ((s : Int) * 1024)) + IntKind.i64.wrap ((x : Int) * c.cl.getD i 0)) = ((65536 + 1024 * s + x * z : Nat) : Int) := by
      rw [g0]
      generalize x * z = y at *
      rw [w64 (x := (s : Int) * 1024) (by omega) (by omega), w64 (x := 65536 + (s : Int) * 1024) (by omega) (by omega), w64 (by omega) (by omega)]
      omega
    have g2 : IntKind.i64.wrap (IntKind.i64.wrap (65536 + IntKind.i64.wrap (1024 * (s : Int))) + IntKind.i64.wrap (c.cl.getD i 0 * (x : Int))) = ((65536 + 1024 * s + x * z : Nat) : Int) := by
      rw [g0']
      generalize x * z = y at *
      rw [w64 (x := 1024 * (s : Int)) (by omega) (by omega), w64 (x := 65536 + 1024 * (s : Int)) (by omega) (by omega), w64 (by omega) (by omega)]
      omega
    have g3 : decide ((((s : Int), (x : Int)) : Blk).2 ≥ ((1024 / z : Nat) : Int)) = false := decide_eq_false (by show ¬ ((x : Int) ≥ ((1024 / z : Nat) : Int)); omega)
    clear e g0 g0'
    refine Goods.fin 2000 [.s 9 (some false) true true, .s 15 (some false) true true, .s 20 (some false) true true, .c (.of h1), .b false] mixed Tryd.func30 ?_
    show Yes _
    repeat' apply And.intro
    all_goals try first | exact g1 | exact g2 | exact g3
    (all_goals first | rfl | assumption | trivial | omega | (simp [-List.getD_eq_getElem?_getD] <;> omega) | (simp (disch := omega) only [w64, wu64] <;> omega) | (simp (disch := omega) [-List.getD_eq_getElem?_getD, List.getD_cons_zero, List.getD_cons_succ, kCast_self, dfl_pair, dfl_int, w64, wu64] <;> omega) | (rw [Bool.eq_iff_iff]; simp (disch := omega) [-List.getD_eq_getElem?_getD, List.getD_cons_zero, List.getD_cons_succ, kCast_self, dfl_pair, dfl_int, w64, wu64] <;> omega) | (simp_all [-List.getD_eq_getElem?_getD] <;> omega))
  · have e : adrN c k b = 0 := by unfold adrN; rw [if_neg hb]
    rw [e]
    unfold inB at hb
    obtain ⟨b1, b2⟩ := b
    simp only at hb
    have hcl := cap_le h k
    generalize capN c k = m at *
    by_cases c1 : b1 < 0
    · refine Goods.fin 2000 [.s 9 (some true) true true] mixed Tryd.func30 ?_
      show Yes _
      repeat' apply And.intro
      (all_goals first | rfl | assumption | trivial | omega | (simp [-List.getD_eq_getElem?_getD] <;> omega) | (simp (disch := omega) only [w64, wu64] <;> omega) | (simp (disch := omega) [-List.getD_eq_getElem?_getD, List.getD_cons_zero, List.getD_cons_succ, kCast_self, dfl_pair, dfl_int, w64, wu64] <;> omega) | (rw [Bool.eq_iff_iff]; simp (disch := omega) [-List.getD_eq_getElem?_getD, List.getD_cons_zero, List.getD_cons_succ, kCast_self, dfl_pair, dfl_int, w64, wu64] <;> omega) | (simp_all [-List.getD_eq_getElem?_getD] <;> omega))
    · by_cases c2 : c.s ≤ b1
      · refine Goods.fin 2000 [.s 9 (some false) true true, .s 15 (some true) true true] mixed Tryd.func30 ?_
        show Yes _
        repeat' apply And.intro
        (all_goals first | rfl | assumption | trivial | omega | (simp [-List.getD_eq_getElem?_getD] <;> omega) | (simp (disch := omega) only [w64, wu64] <;> omega) | (simp (disch := omega) [-List.getD_eq_getElem?_getD, List.getD_cons_zero, List.getD_cons_succ, kCast_self, dfl_pair, dfl_int, w64, wu64] <;> omega) | (rw [Bool.eq_iff_iff]; simp (disch := omega) [-List.getD_eq_getElem?_getD, List.getD_cons_zero, List.getD_cons_succ, kCast_self, dfl_pair, dfl_int, w64, wu64] <;> omega) | (simp_all [-List.getD_eq_getElem?_getD] <;> omega))
      · by_cases c3 : b2 < 0
        · refine Goods.fin 2000 [.s 9 (some false) true true, .s 15 (some false) true true, .s 20 (some true) true true] mixed Tryd.func30 ?_
          show Yes _
          repeat' apply And.intro
          (all_goals first | rfl | assumption | trivial | omega | (simp [-List.getD_eq_getElem?_getD] <;> omega) | (simp (disch := omega) only [w64, wu64] <;> omega) | (simp (disch := omega) [-List.getD_eq_getElem?_getD, List.getD_cons_zero, List.getD_cons_succ, kCast_self, dfl_pair, dfl_int, w64, wu64] <;> omega) | (rw [Bool.eq_iff_iff]; simp (disch := omega) [-List.getD_eq_getElem?_getD, List.getD_cons_zero, List.getD_cons_succ, kCast_self, dfl_pair, dfl_int, w64, wu64] <;> omega) | (simp_all [-List.getD_eq_getElem?_getD] <;> omega))
        · refine Goods.fin 2000 [.s 9 (some false) true true, .s 15 (some false) true true, .s 20 (some false) true true, .c (.of h1), .b true] mixed Tryd.func30 ?_
          show Yes _
          repeat' apply And.intro
          (all_goals first | rfl | assumption | trivial | omega | (simp [-List.getD_eq_getElem?_getD] <;> omega) | (simp (disch := omega) only [w64, wu64] <;> omega) | (simp (disch := omega) [-List.getD_eq_getElem?_getD, List.getD_cons_zero, List.getD_cons_succ, kCast_self, dfl_pair, dfl_int, w64, wu64] <;> omega) | (rw [Bool.eq_iff_iff]; simp (disch := omega) [-List.getD_eq_getElem?_getD, List.getD_cons_zero, List.getD_cons_succ, kCast_self, dfl_pair, dfl_int, w64, wu64] <;> omega) | (simp_all [-List.getD_eq_getElem?_getD] <;> omega))
theorem radr_tri (own : Bool) (c : Cnf) (h : c.Ok) (k : Int) (b : Blk) : Tri En 37 [cnfA 0 c, .int .i64 k, blkA b] [.tab own (.int .i64) c.cl] (.int .i64 (adrN c k b)) [.tab own (.int .i64) c.cl] := by
  have l1 := h.l1
  have s1 := h.s1
  have h1 := rcap_tri own c h k
  refine Tri.of Tryd.func37 rfl Tryd.call37 rfl ?_
  by_cases hb : inB c k b
  · obtain ⟨i, s, x, z, rfl, h1', rfl, h2, h3, h4, h5, h6, h7, h8⟩ := inB_nat h hb
    have e : adrN c i ((s : Int), (x : Int)) = ((65536 + 1024 * s + x * z : Nat) : Int) := by
      unfold adrN
      rw [if_pos hb, Int.toNat_natCast, h3]
      have : (z : Int) * (x : Int) = ((x * z : Nat) : Int) := by simp [Int.mul_comm]
      rw [this]; omega
    rw [e]
    rw [h6] at h1
    have g0 : IntKind.i64.wrap ((x : Int) * c.cl.getD i 0) = ((x * z : Nat) : Int) := by
      rw [h3, show (x : Int) * (z : Int) = ((x * z : Nat) : Int) by simp]
      exact w64 (by omega) (by omega)
    have g0' : IntKind.i64.wrap (c.cl.getD i 0 * (x : Int)) = ((x * z : Nat) : Int) := by rw [Int.mul_comm]; exact g0
    have g1 : IntKind.i64.wrap (IntKind.i64.wrap (65536 + IntKind.i64.wrap ((s : Int) * 1024)) + IntKind.i64.wrap ((x : Int) * c.cl.getD i 0)) = ((65536 + 1024 * s + x * z : Nat) : Int) := by
      rw [g0]
      generalize x * z = y at *
      rw [w64 (x := (s : Int) * 1024) (by omega) (by omega), w64 (x := 65536 + (s : Int) * 1024) (by omega) (by omega), w64 (by omega) (by omega)]
      omega
    have g2 : IntKind.i64.wrap (IntKind.i64.wrap (65536 + IntKind.i64.wrap (1024 * (s : Int))) + IntKind.i64.wrap (c.cl.getD i 0 * (x : Int))) = ((65536 + 1024 * s + x * z : Nat) : Int) := by
      rw [g0']
      generalize x * z = y at *
      rw [w64 (x := 1024 * (s : Int)) (by omega) (by omega), w64 (x := 65536 + 1024 * (s : Int)) (by omega) (by omega), w64 (by omega) (by omega)]
      omega
    have g3 : decide ((((s : Int), (x : Int)) : Blk).2 ≥ ((1024 / z : Nat) : Int)) = false := decide_eq_false (by show ¬ ((x : Int) ≥ ((1024 / z : Nat) : Int)); omega)
    clear e g0 g0'
    refine Goods.fin 2000 [.s 9 (some false) true true, .s 15 (some false) true true, .s 20 (some false) true true, .c (.of h1), .b false] mixed Tryd.func37 ?_
    show Yes _
    repeat' apply And.intro
    all_goals try first | exact g1 | exact g2 | exact g3
    (all_goals first | rfl | assumption | trivial | omega | (simp [-List.getD_eq_getElem?_getD] <;> omega) | (simp (disch := omega) only [w64, wu64] <;> omega) | (simp (disch := omega) [-List.getD_eq_getElem?_getD, List.getD_cons_zero, List.getD_cons_succ, kCast_self, dfl_pair, dfl_int, w64, wu64] <;> omega) | (rw [Bool.eq_iff_iff]; simp (disch := omega) [-List.getD_eq_getElem?_getD, List.getD_cons_zero, List.getD_cons_succ, kCast_self, dfl_pair, dfl_int, w64, wu64] <;> omega) | (simp_all [-List.getD_eq_getElem?_getD] <;> omega))
  · have e : adrN c k b = 0 := by unfold adrN; rw [if_neg hb]
    rw [e]
    unfold inB at hb
    obtain ⟨b1, b2⟩ := b
    simp only at hb
    have hcl := cap_le h k
    generalize capN c k = m at *
    by_cases c1 : b1 < 0
    · refine Goods.fin 2000 [.s 9 (some true) true true] mixed Tryd.func37 ?_
      show Yes _
      repeat' apply And.intro
      (all_goals first | rfl | assumption | trivial | omega | (simp [-List.getD_eq_getElem?_getD] <;> omega) | (simp (disch := omega) only [w64, wu64] <;> omega) | (simp (disch := omega) [-List.getD_eq_getElem?_getD, List.getD_cons_zero, List.getD_cons_succ, kCast_self, dfl_pair, dfl_int, w64, wu64] <;> omega) | (rw [Bool.eq_iff_iff]; simp (disch := omega) [-List.getD_eq_getElem?_getD, List.getD_cons_zero, List.getD_cons_succ, kCast_self, dfl_pair, dfl_int, w64, wu64] <;> omega) | (simp_all [-List.getD_eq_getElem?_getD] <;> omega))
    · by_cases c2 : c.s ≤ b1
      · refine Goods.fin 2000 [.s 9 (some false) true true, .s 15 (some true) true true] mixed Tryd.func37 ?_
        show Yes _
        repeat' apply And.intro
        (all_goals first | rfl | assumption | trivial | omega | (simp [-List.getD_eq_getElem?_getD] <;> omega) | (simp (disch := omega) only [w64, wu64] <;> omega) | (simp (disch := omega) [-List.getD_eq_getElem?_getD, List.getD_cons_zero, List.getD_cons_succ, kCast_self, dfl_pair, dfl_int, w64, wu64] <;> omega) | (rw [Bool.eq_iff_iff]; simp (disch := omega) [-List.getD_eq_getElem?_getD, List.getD_cons_zero, List.getD_cons_succ, kCast_self, dfl_pair, dfl_int, w64, wu64] <;> omega) | (simp_all [-List.getD_eq_getElem?_getD] <;> omega))
      · by_cases c3 : b2 < 0
        · refine Goods.fin 2000 [.s 9 (some false) true true, .s 15 (some false) true true, .s 20 (some true) true true] mixed Tryd.func37 ?_
          show Yes _
          repeat' apply And.intro
          (all_goals first | rfl | assumption | trivial | omega | (simp [-List.getD_eq_getElem?_getD] <;> omega) | (simp (disch := omega) only [w64, wu64] <;> omega) | (simp (disch := omega) [-List.getD_eq_getElem?_getD, List.getD_cons_zero, List.getD_cons_succ, kCast_self, dfl_pair, dfl_int, w64, wu64] <;> omega) | (rw [Bool.eq_iff_iff]; simp (disch := omega) [-List.getD_eq_getElem?_getD, List.getD_cons_zero, List.getD_cons_succ, kCast_self, dfl_pair, dfl_int, w64, wu64] <;> omega) | (simp_all [-List.getD_eq_getElem?_getD] <;> omega))
        · refine Goods.fin 2000 [.s 9 (some false) true true, .s 15 (some false) true true, .s 20 (some false) true true, .c (.of h1), .b true] mixed Tryd.func37 ?_
          show Yes _
          repeat' apply And.intro
          (all_goals first | rfl | assumption | trivial | omega | (simp [-List.getD_eq_getElem?_getD] <;> omega) | (simp (disch := omega) only [w64, wu64] <;> omega) | (simp (disch := omega) [-List.getD_eq_getElem?_getD, List.getD_cons_zero, List.getD_cons_succ, kCast_self, dfl_pair, dfl_int, w64, wu64] <;> omega) | (rw [Bool.eq_iff_iff]; simp (disch := omega) [-List.getD_eq_getElem?_getD, List.getD_cons_zero, List.getD_cons_succ, kCast_self, dfl_pair, dfl_int, w64, wu64] <;> omega) | (simp_all [-List.getD_eq_getElem?_getD] <;> omega))
end Go.Proofs.YthlpfafmiakfdaaDoor.E
