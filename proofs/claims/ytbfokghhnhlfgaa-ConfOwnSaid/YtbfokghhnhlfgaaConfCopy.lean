/- Slices of int: append's source out of an argument, Clone's contract; conf.Copy's. -/
import Derived.Test.YtbfokghhnhlfgaaConfA
import Derived.Test.YtbfokghhnhlfgaaAppend
namespace Go.Proofs.Ytbfokghhnhlfgaa
open Go.RowKit

theorem Src.rd {w : World} {k : IntKind} {a : Option Addr} {n c : Nat} {xs : List Int} (h : RdInts w k a n c xs) : Src w a n c 1 (xs.map (Value.int k)) := by
  refine ⟨by simpa using h.n, h.nil, fun ad had j u hu => ?_, oneCell_ints _ _⟩
  have hj : j < n := by have h1 := (List.getElem?_eq_some_iff.1 hu).1; rw [List.length_map] at h1; have := h.n; omega
  obtain ⟨b, off, ha, hb, hc⟩ := h.cell j hj
  rw [ha] at had
  cases had
  have e : (⟨b, off, none⟩ : Addr).add j = ⟨b, off + j, none⟩ := by simp [Addr.add]
  rw [e, hc, ← hu]
  simp [List.getD, show j < xs.length by have := h.n; omega]
theorem rd_own {w : World} {base n cap : Nat} {e : TypeId} {k : IntKind} {a : Option Addr} {xs : List Int} (h : w.ownsRow base e 1 (.slice a n cap) n (xs.map (Value.int k))) (hw : ∀ x, x ∈ xs → (Lit.int k x).wf = true) : RdInts w k a n cap xs := by
  have hl := own_length h
  simp only [List.length_map, Nat.mul_one] at hl
  obtain ⟨a', cap', hv, h1, h2, h3⟩ := own_slice h
  simp only [Value.slice.injEq] at hv
  obtain ⟨rfl, _, rfl⟩ := hv
  refine ⟨hl, h1, h2, fun ha => ⟨?_, own_nil_cap h ha⟩, fun i hi => ?_, hw⟩
  · rcases Nat.eq_zero_or_pos n with h0 | h0
    · exact h0
    · obtain ⟨d, hd, _⟩ := h3 h0
      rw [ha] at hd; cases hd
  · obtain ⟨d, rfl, _, hd⟩ := h3 (by omega)
    refine ⟨d, 0, rfl, hd, ?_⟩
    rw [Nat.zero_add, own_cell h (by omega)]
    simp [List.getD, show i < xs.length by omega]

theorem info_int : (Try.prog.info? 3).map (fun i => (i.zero, i.size, i.bytes)) = some (some (.int .i64 0), 1, 8) := by kernel_rfl
/-- What Clone leaves: a slice of the same cells in a new block. -/
def ClonedI (w : World) (xs : List Int) (e : Ending) (w' : World) : Prop := ∃ a cap, e = .returned (.slice a xs.length cap) ∧ w'.ownsRow w.heap.size 3 1 (.slice a xs.length cap) xs.length (xs.map (Value.int .i64)) ∧ Stp [] w w'
set_option maxHeartbeats 400000 in
theorem clone_int (a : Option Addr) (n c : Nat) (xs : List Int) (w : World) (hx : RdInts w .i64 a n c xs) (hl : xs.length ≤ 1000000) :
    Calls Try.prog 19 #[.slice a n c] w (ClonedI w xs) := by
  obtain ⟨i0, hi, hz0, hz1, hz2⟩ := info_parts info_int
  have ke := fun (w : World) (a : Option Addr) (n c : Nat) => Lib.run_eql_slice_nil (P := Try.prog) w 22 3 a n c 0 0 Try.underlying22
  obtain rfl := hx.n
  cases a with
  | none =>
    obtain ⟨hn, hc⟩ := hx.nil rfl
    go_enter Try.func19, Try.ntmps19
    go_wp2_with fail
    go_ret
    have : xs = [] := List.eq_nil_of_length_eq_zero hn
    subst this
    exact ⟨none, 0, rfl, own_nil0 _ _ _ _, Stp.refl _ _⟩
  | some ad =>
    have hs := Src.rd (hx.kept ((Stp.refl [] w).alloc (.cells #[] 3)) (by simp))
    have hb := blk_new w (.cells #[] 3)
    have Hs := Lib.hid hs; clear hs
    have Hb := Lib.hid hb; clear hb
    have Hx := Lib.hid hx; clear hx
    go_enter Try.func19, Try.ntmps19
    go_wp2_with (at_builtin; refine wpList_app rfl _ _ rfl Try.underlying22 hi hz0 hz1 hz2 rfl (by decide) rfl rfl (own_empty Hb.out (Nat.le_refl _)) Hs.out (by unfold maxLen; omega) (by omega) (by simp) ?_)
    rintro v' w' ⟨hown, hstp, _, _⟩
    simp only [Nat.zero_add, List.nil_append] at hown
    obtain ⟨a', cap', rfl, _, _, _⟩ := own_slice hown
    have hK := ((Stp.refl [] w).alloc (.cells #[] 3)).trans' hstp (by simp [Value.ownBlock])
    clear hstp
    have Hown := Lib.hid hown; clear hown
    have HK := Lib.hid hK; clear hK
    go_wp2
    go_ret
    exact ⟨a', cap', rfl, Hown.out, HK.out⟩

/-- What Copy leaves. -/
def CopiedC (w : World) (c : Cfg) (e : Ending) (w' : World) : Prop := ∃ a cap, e = .returned (c.val a cap) ∧ w'.ownsRow w.heap.size 3 1 (.slice a c.classes.length cap) c.classes.length (c.classes.map (Value.int .i64)) ∧ Stp [] w w'
set_option maxHeartbeats 400000 in
theorem copy_spec (c : Cfg) (a : Option Addr) (cap : Nat) (w : World) (h : IsCfg w c a cap) (hl : c.classes.length ≤ 1000000) :
    Calls Try.prog 17 #[c.val a cap] w (CopiedC w c) := by
  have hcl := fun W hk => clone_int a c.classes.length cap c.classes W (h.kept (w1 := W) hk).rd hl
  obtain ⟨nw, ns, nb, nt, xs⟩ := c
  simp only [Cfg.val] at hcl ⊢
  clear h
  have Hcl := Lib.hid hcl; clear hcl
  go_enter Try.func17, Try.ntmps17
  go_wp2_with fail
  refine (Hcl.out _ (((Stp.refl [] w).alloc _).alloc _)).mono ?_
  rintro e w1 ⟨a', cap', rfl, ho, hk⟩
  have hb := hk.blk (blk_alloc (blk_new w (.cells #[.int .i64 nw, .int .i64 ns, .int .i64 nb, .int .i64 nt, .slice a xs.length cap] 24)) _) (by simp)
  have hz := hk.blk (blk_new' (n := w.heap.size + 1) _ (by simp)) (by simp)
  have k0 := blk_cell hb 0
  have k1 := blk_cell hb 1
  have k2 := blk_cell hb 2
  have k3 := blk_cell hb 3
  have k4 := blk_cell hb 4
  have f0 := blk_frozen hb 4
  have z0 := blk_cell hz 0
  have z1 := blk_cell hz 1
  have z2 := blk_cell hz 2
  have z3 := blk_cell hz 3
  have z4 := blk_cell hz 4
  have fz := fun i => blk_frozen hz i
  simp at k0 k1 k2 k3 k4 z0 z1 z2 z3 z4
  have hsz := hk.size
  simp only [World.size_alloc] at hsz
  have hK := (((Stp.refl [] w).alloc _).alloc _).trans hk
  have Hb := Lib.hid hb; clear hb
  have Hz := Lib.hid hz; clear hz
  have HK := Lib.hid hK; clear hK
  have Ho := Lib.hid ho; clear ho
  clear hk
  go_wp2_with fail
  refine bodyPost_ret (v := .agg #[.int .i64 nw, .int .i64 ns, .int .i64 nb, .int .i64 nt, .slice a' xs.length cap']) (by simp [results, Try.results17, go_sem, z0, z1, z2, z3, z4, k0, k1, k2, k3, k4]) rfl ⟨a', cap', rfl, ?_, ?_⟩
  · refine own_base (own_kept Ho.out (S := [w.heap.size, w.heap.size + 1]) (((((((Stp.refl _ w1).setCell _ _ (by simp)).setCell _ _ (by simp)).setCell _ _ (by simp)).setCell _ _ (by simp)).setCell _ _ (by simp)).setCell _ _ (by simp)) (fun d hd => ?_)) (by simp; omega)
    have := (Ho.out.lt d hd).1
    simp at this ⊢
    omega
  · exact ((((((HK.out.setCell _ _ (by simp)).setCell _ _ (by simp)).setCell _ _ (by simp)).setCell _ _ (by simp)).setCell _ _ (by simp)).setCell _ _ (by simp))

end Go.Proofs.Ytbfokghhnhlfgaa
