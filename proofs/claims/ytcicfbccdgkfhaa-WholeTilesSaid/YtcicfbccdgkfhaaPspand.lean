/- slices.Delete of the one interval that there is. -/
import Derived.Test.YtcicfbccdgkfhaaPspan
import Derived.Lib.SliceRun
import Derived.Shelf.RegionOpenPlain
import Derived.Deep.RegionLaw
import Derived.WalkKit
namespace Go.Proofs.Ytcicfbccdgkfhaa.E
set_option linter.unusedSimpArgs false
set_option linter.unusedVariables false
open Go Go.RowKit
set_option maxRecDepth 100000

theorem info_iv : (Try.prog.info? 52).map (fun i => (i.zero, i.size, i.bytes)) = some (some (.agg #[.int .i64 0, .int .i64 0]), 2, 16) := by kernel_rfl
/-- clear, of the one interval behind a row. -/
theorem run_clear_one (w : World) (ty : TypeId) (b o c : Nat) (hc : ∀ j, j < 2 → (w.cell? ⟨b, o + j, none⟩).isSome = true) (hf : ∀ j, j < 2 → w.frozen? ⟨b, o + j, none⟩ = false) :
    (Builtin.clear_ #[47] ty #[.slice (some ⟨b, o, none⟩) 1 c]).run Try.prog w = .ok (.tuple #[]) (w.setCells b o [.int .i64 0, .int .i64 0]) := by
  obtain ⟨i0, hi, hz0, hz1, hz2⟩ := info_parts info_iv
  have hst := run_storeCells_cells (P := Try.prog) b o [.int .i64 0, .int .i64 0] 0 w (by simpa using hc) (by simpa using hf) (by simp [Value.oneCell'])
  have hv : (zeroValue 52).run Try.prog w = .ok (.agg #[.int .i64 0, .int .i64 0]) w := by simp [zeroValue, typeInfo, hi, hz0]
  have hz : (Builtin.zeroCells (Value.agg #[.int .i64 0, .int .i64 0]).cells 1).toList = [.int .i64 0, .int .i64 0] := by
    simp [Builtin.zeroCells, Value.cells, List.range_succ]
  simp only [Nat.add_zero] at hst
  simp [Builtin.clear_, run_underlying Try.underlying47, hv, hz, hst]
theorem delete_calls (blk base cap : Nat) (w : World) (bc : Array Value) (t : TypeId) (hh : w.heap[blk]? = some (.cells bc t (0, 0))) (hs : base + 2 ≤ bc.size) (hc : 1 ≤ cap) :
    Calls Try.prog 40 #[.slice (some ⟨blk, base, none⟩) 1 cap, .int .i64 0, .int .i64 1] w fun e w' => e = .returned (.slice (some ⟨blk, base, none⟩) 0 cap) ∧ w' = w.drew.setCells blk base [.int .i64 0, .int .i64 0] := by
  obtain ⟨i0, hi, hz0, hz1, hz2⟩ := info_parts info_iv
  obtain ⟨A, hA⟩ : ∃ A : Addr, (if cap = 1 then some (⟨blk, base, none⟩ : Addr) else some ⟨blk, base + 2, none⟩) = some A := by
    by_cases h : cap = 1
    · exact ⟨_, by rw [if_pos h]⟩
    · exact ⟨_, by rw [if_neg h]⟩
  have mixed : Try.prog.follows .mixedOrders = true := by kernel_rfl
  obtain ⟨W1, hW1⟩ : ∃ W1, W1 = w.drew.setCells blk (base + 0 * 2) [] := ⟨_, rfl⟩
  have hW2 : W1 = w.drew := hW1
  have hcl : ∀ ty, (Builtin.clear_ #[47] ty #[.slice (some ⟨blk, base, none⟩) 1 cap]).run Try.prog W1 = .ok (.tuple #[]) (W1.setCells blk base [.int .i64 0, .int .i64 0]) := fun ty =>
    run_clear_one W1 ty blk base cap (fun j hj => by
      rw [hW2, World.cell?_drew, blk_cell hh]
      simp [show base + j < bc.size by omega]) (fun j hj => by rw [hW2]; exact blk_frozen hh _)
  have X : Aside (W1 = w.drew) := hW2
  have hW : Hid (W1 = w.drew.setCells blk (base + 0 * 2) []) := hW1
  clear hW1 hW2
  go_enter Try.func40, Try.ntmps40
  go_wp2_with fail
  go_region_law_o (refine step_append_room rfl (.tmp 22) (.tmp 25) 47 rfl 52 i0 2 Try.underlying47 hi hz1 blk base 0 cap (by simp [Act.eval, Act.put]) A 0 (cap - 1) [] (by simp [Act.eval, Act.put]) rfl (by simp) (by simp) (by omega) (by simp) ?_; rw [← hW.out])
  go_wp2
  go_ret
  exact ⟨rfl, by rw [← X.out]⟩
theorem hp1_get (o : AObj) (i : Nat) (h : (hp [o]).get i ≠ .gone) : i = 0 ∧ (hp [o]).get 0 = o := by
  cases i with
  | zero => exact ⟨rfl, rfl⟩
  | succ i => exact absurd rfl h
theorem delete_one (x : IvT) : Tri En 40 [.slice 0 0 1, .int .i64 0, .int .i64 1] [.tab true IvK [x]] (.slice 0 0 0) [.tab true IvK []] := by
  refine ⟨Try.call40, fun B ρ w vs hH _ hd => ?_⟩
  obtain ⟨v0, vs1, rfl, ⟨l, a, cap, hl, rfl, h1, h2, h3⟩, v1, vs2, rfl, rfl, v2, vs3, rfl, rfl, rfl⟩ := hd
  obtain rfl := h3 h1
  obtain ⟨l', hl', hsz, hlen, _, hown⟩ : ∃ l, ρ 0 = some l ∧ ObjRel B ρ w l (.tab true IvK [x]) := hH.obj 0 (by intro h; cases h)
  rw [hl] at hl'; cases hl'
  simp only [if_true] at hown
  have hroom : 0 < l.room := by omega
  obtain ⟨hB, bc, t, hh, hbs⟩ := hown hroom
  have hsz2 : l.sz = 2 := hsz
  rw [hsz2] at hbs
  have hc := delete_calls l.blk l.base cap w bc t hh (by omega) h1
  rw [Nat.zero_mul, Nat.add_zero]
  refine hc.mono ?_
  rintro e w' ⟨rfl, rfl⟩
  have hbk : Blks ρ (hp [.tab true IvK [x]]) l.blk := ⟨0, l, hl, ⟨rfl, hroom⟩, rfl⟩
  refine ⟨ρ, _, rfl, ⟨l, _, cap, hl, rfl, Nat.zero_le _, h2, fun _ => by rw [Nat.zero_mul, Nat.add_zero]⟩, ⟨fun i hi => ?_, fun i j li lj hij hi hj oi oj => ?_, fun i hi => ?_, ?_⟩, ?_, fun b hb => .inl ?_, fun i l _ h => h⟩
  · obtain ⟨rfl, he⟩ := hp1_get _ i hi
    rw [he]
    refine ⟨l, hl, hsz, Nat.zero_le _, fun j x hx => by simp at hx, ?_⟩
    simp only [if_true]
    intro _
    refine ⟨hB, _, t, blk_set (blk_set (show w.drew.heap[l.blk]? = _ from hh) _ _) _ _, ?_⟩
    simp [hbs, hsz2]
  · have hg : ∀ k lk, Owned lk ((hp [.tab true IvK []]).get k) → k = 0 := by
      intro k lk hk
      cases k with
      | zero => rfl
      | succ k => exact hk.elim
    rw [hg i li oi, hg j lj oj] at hij
    exact absurd rfl hij
  · refine ⟨(hH.fresh i hi).1, ?_⟩
    cases i with
    | zero => exact absurd hi (by decide)
    | succ i => rfl
  · have := hH.bound
    simpa [World.setCells] using this
  · refine ⟨rfl, rfl, rfl, ?_, fun b hb hn => ?_⟩
    · simp [World.setCells]
    · have hne : b ≠ l.blk := fun h => hn (h ▸ hbk)
      show ((w.drew.setCell ⟨l.blk, l.base, none⟩ _).setCell ⟨l.blk, l.base + 1, none⟩ _).heap[b]? = _
      rw [Below.heap_setCell _ _ _ _ hne, Below.heap_setCell _ _ _ _ hne]
      rfl
  · obtain ⟨i, li, hi, ho, rfl⟩ := hb
    cases i with
    | zero => rw [hl] at hi; cases hi; exact hbk
    | succ i => exact ho.elim
end Go.Proofs.Ytcicfbccdgkfhaa.E
