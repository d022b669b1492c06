/- StockFew: the law's contract. -/
import Derived.Test.YthlpfafmiakfdaaDoorL12f
namespace Go.Proofs.YthlpfafmiakfdaaDoor.E
set_option linter.unusedSimpArgs false
set_option linter.unusedVariables false
open Go
set_option maxRecDepth 100000
theorem SInv.push {c : Cnf} {k : Nat} {bs : List Blk} {i : Nat} {s : PS} (h : SInv c k bs i s) (hi : i < bs.length) : SInv c k bs (i + 1) (pushS c k s (bAt bs i)) := by
  obtain ⟨g1, g2⟩ := pushS_good (c := c) (k := k) h.good (bAt bs i)
  have hs : ∀ b ∈ s.pile, b ∈ bs.take (i + 1) := fun b hb => by rw [List.take_add_one]; exact List.mem_append_left _ (h.sub b hb)
  refine ⟨g1, ?_, ?_, ?_⟩ <;> rw [g2] <;> unfold pushP <;> split
  · rename_i hb
    refine List.nodup_append.2 ⟨h.nodup, by simp, fun a ha x hx => ?_⟩
    simp at hx; subst hx
    rintro rfl; exact hb.2 ha
  · exact h.nodup
  · rename_i hb
    intro b hbm
    rcases List.mem_append.1 hbm with h1 | h1
    · exact h.inb b h1
    · simp only [List.mem_singleton] at h1; rw [h1]; exact hb.1
  · exact h.inb
  · rename_i hb
    intro b hbm
    rcases List.mem_append.1 hbm with h1 | h1
    · exact hs b h1
    · simp only [List.mem_singleton] at h1
      rw [h1, takeB_snoc hi]; simp
  · exact hs
theorem SInv.spill {c : Cnf} {k : Nat} {bs : List Blk} {i : Nat} {s : PS} (h : SInv c k bs i s) (sup : Int) : SInv c k bs i (spillS s sup) := by
  have hs : ∀ b ∈ keepL sup s.pile, b ∈ s.pile := fun b hb => (List.mem_filter.1 hb).1
  refine ⟨spill_good h.good sup, ?_, ?_, ?_⟩ <;> rw [spill_pile]
  · exact h.nodup.sublist List.filter_sublist
  · exact fun b hb => h.inb b (hs b hb)
  · exact fun b hb => h.sub b (hs b hb)
theorem spill_list {s : PS} {sup : Int} {j : Nat} (hj : j < (intsL (bitsL (spillM s sup))).length) : ((sup, (intsL (bitsL (spillM s sup))).getD j 0) : Blk) ∈ s.pile := by
  rw [intsL_len] at hj
  obtain ⟨x, hx⟩ : ∃ x, (bitsL (spillM s sup))[j]? = some x := ⟨_, List.getElem?_eq_getElem hj⟩
  have hm := List.mem_of_getElem? hx
  obtain ⟨h1, h2⟩ := mem_bitsL.1 hm
  have e : (intsL (bitsL (spillM s sup))).getD j 0 = (x : Int) := by
    simp [intsL, List.getD, hx]
  rw [e]
  exact (spillM_bit s sup h1).1 h2
theorem fw_1 (own own2 : Bool) (c : Cnf) (h : c.Ok) (k : Nat) (hk : k < c.cl.length) (bs : List Blk) (hbs : bs.length ≤ 200) : ∀ (r i : Nat) (s : PS) (gcl : Nat) (gm : GMap), i + r = bs.length → SInv c k bs i s → (s.m : Int) ≤ 2 * c.b → GInv bs i gcl gm → Goods (gFw own own2 c bs) (fw1 own own2 c k bs s gcl gm i)
  | 0, i, s, gcl, gm, hi, hS, hm, hG => by
    have := hG.len
    refine Goods.fin 2000 [.b false, .s 100 (some true) true true] mixed Tryd.func4 ?_
    show Yes _
    repeat' apply And.intro
    (all_goals first | rfl | assumption | trivial | omega | (simp [-List.getD_eq_getElem?_getD] <;> omega) | (simp (disch := omega) only [w64, wu64] <;> omega) | (simp (disch := omega) [-List.getD_eq_getElem?_getD, List.getD_cons_zero, List.getD_cons_succ, kCast_self, dfl_pair, dfl_int, w64, wu64] <;> omega) | (rw [Bool.eq_iff_iff]; simp (disch := omega) [-List.getD_eq_getElem?_getD, List.getD_cons_zero, List.getD_cons_succ, kCast_self, dfl_pair, dfl_int, w64, wu64] <;> omega) | (simp_all [-List.getD_eq_getElem?_getD] <;> omega))
  | r + 1, i, s, gcl, gm, hi, hS, hm, hG => by
    have l1 := h.l1
    have b1 := h.b1
    have b0 := h.b0
    have hS2 := hS.push (show i < bs.length by omega)
    have hmm := pushS_m (c := c) (k := k) (s := s) (b := bAt bs i)
    have h1 := push_tri c h k rawT rawT s (bAt bs i) hk hS.good.le (by omega)
    generalize pushOk c k s (bAt bs i) = ok at *
    generalize pushS c k s (bAt bs i) = s2 at *
    generalize hB : bAt bs i = b at *
    have hlen := hS2.good.len
    have hm2 : s2.m ≤ 130 := by omega
    by_cases h2 : (s2.m : Int) ≤ 2 * c.b
    · have h3 := spill_no c h k hk rawT rawT s2 (by omega) h2
      have next := fw_1 own own2 c h k hk bs hbs r (i + 1) s2 gcl gm (by omega) hS2 h2 hG.mono
      have ih := fw_3 own own2 c h k bs hbs s2 gcl gm i (by omega) s2.pile s2.m hlen hS2.nodup h2 next s2.m 0 (by omega)
      have h4 := blocks_tri c l1 k rawT rawT s2 hk hS2.good.le (by omega)
      generalize hP : s2.pile = p at *
      have hP' : s2.zs.take s2.m = p := hP
      rw [hP'] at h4
      refine Goods.to 2000 [.b true, .c (.of h1), .c (.of h3), .c (.of h4), .l, .stop] mixed (ih) (by kernel_rfl) ?_
      show Yes _
      repeat' apply And.intro
      (all_goals first | rfl | assumption | trivial | omega | (simp [-List.getD_eq_getElem?_getD, hB] <;> omega) | (simp (disch := omega) only [w64, wu64] <;> omega) | (simp (disch := omega) [-List.getD_eq_getElem?_getD, List.getD_cons_zero, List.getD_cons_succ, kCast_self, dfl_pair, dfl_int, w64, wu64, hB] <;> omega) | (rw [Bool.eq_iff_iff]; simp (disch := omega) [-List.getD_eq_getElem?_getD, List.getD_cons_zero, List.getD_cons_succ, kCast_self, dfl_pair, dfl_int, w64, wu64, hB] <;> omega) | (simp_all [-List.getD_eq_getElem?_getD] <;> omega))
    · have hne : s2.pile ≠ [] := fun h0 => by rw [h0] at hlen; simp at hlen; omega
      obtain ⟨sup, hsup⟩ := best_ex hne
      have h3 := spill_yes c h k hk rawT rawT s2 sup hS2.good.le (by omega) (by omega) hsup (fun b hb => (hS2.inb b hb).1)
      have hS3 := hS2.spill sup
      have hless := keep_less hsup.some
      have hlen3 := hS3.good.len
      rw [spill_pile] at hlen3
      have h5 : ((spillS s2 sup).m : Int) ≤ 2 * c.b := by omega
      have h4 := list_tri (spillM s2 sup) (spillM_lt s2 sup)
      have hl : ∀ j, j < (intsL (bitsL (spillM s2 sup))).length → ((sup, (intsL (bitsL (spillM s2 sup))).getD j 0) : Blk) ∈ bs.take (i + 1) := fun j hj => hS2.sub _ (spill_list hj)
      have hl64 : (intsL (bitsL (spillM s2 sup))).length ≤ 64 := by rw [intsL_len]; exact L_le _
      generalize intsL (bitsL (spillM s2 sup)) = l at *
      generalize spillM s2 sup = M at *
      generalize spillS s2 sup = s3 at *
      have ih := fw_2 own own2 c h k hk bs hbs s3 i hS3.good (by omega) sup l hl hl64 (fun gcl gm hG => by
        have next := fw_1 own own2 c h k hk bs hbs r (i + 1) s3 gcl gm (by omega) hS3 h5 hG
        exact fw_3 own own2 c h k bs hbs s3 gcl gm i (by omega) s3.pile s3.m hS3.good.len hS3.nodup h5 next s3.m 0 (by omega)) l.length 0 gcl gm (by omega) hG.mono
      refine Goods.to 2000 [.b true, .c (.of h1), .c (.of h3), .c (.of h4), .l, .stop] mixed (ih) (by kernel_rfl) ?_
      show Yes _
      repeat' apply And.intro
      (all_goals first | rfl | assumption | trivial | omega | (simp [-List.getD_eq_getElem?_getD, hB] <;> omega) | (simp (disch := omega) only [w64, wu64] <;> omega) | (simp (disch := omega) [-List.getD_eq_getElem?_getD, List.getD_cons_zero, List.getD_cons_succ, kCast_self, dfl_pair, dfl_int, w64, wu64, hB] <;> omega) | (rw [Bool.eq_iff_iff]; simp (disch := omega) [-List.getD_eq_getElem?_getD, List.getD_cons_zero, List.getD_cons_succ, kCast_self, dfl_pair, dfl_int, w64, wu64, hB] <;> omega) | (simp_all [-List.getD_eq_getElem?_getD] <;> omega))
theorem StockFew_tri (own own2 : Bool) (c : Cnf) (hcl : c.cl.length ≤ 9223372036854775807) (u : Nat) (hu : u < 256) (bs : List Blk) (hbl : bs.length ≤ 9223372036854775807) : Tri En 4 [cnfA 0 c, .int .u8 u, .slice 1 0 bs.length] [.tab own (.int .i64) c.cl, .tab own2 BlkK bs] (.bl true) [.gone, .gone] := by
  refine Tri.of Tryd.func4 rfl Tryd.call4 rfl ?_
  by_cases h : c.Ok
  · have hy := may_yes own c h
    by_cases hb : 200 < bs.length
    · refine Goods.fin 2000 [.c (.of speaks_tri), .c (.of hy), .s 28 (some true) true true] mixed Tryd.func4 ?_
      show Yes _
      repeat' apply And.intro
      (all_goals first | rfl | assumption | trivial | omega | (simp [-List.getD_eq_getElem?_getD] <;> omega) | (simp (disch := omega) only [w64, wu64] <;> omega) | (simp (disch := omega) [-List.getD_eq_getElem?_getD, List.getD_cons_zero, List.getD_cons_succ, kCast_self, dfl_pair, dfl_int, w64, wu64] <;> omega) | (rw [Bool.eq_iff_iff]; simp (disch := omega) [-List.getD_eq_getElem?_getD, List.getD_cons_zero, List.getD_cons_succ, kCast_self, dfl_pair, dfl_int, w64, wu64] <;> omega) | (simp_all [-List.getD_eq_getElem?_getD] <;> omega))
    · have l1 := h.l1
      have l0 := h.l0
      have b0 := h.b0
      obtain ⟨k, hk⟩ : ∃ k, k = u % c.cl.length := ⟨_, rfl⟩
      have hkl : k < c.cl.length := by rw [hk]; exact Nat.mod_lt _ (by omega)
      have g0 : Int.tmod (IntKind.i64.wrap (u : Int)) (c.cl.length : Int) = (k : Int) := by rw [w64 (by omega) (by omega), hk]; rfl
      have hn := new_tri own c h k hkl
      have ih := fw_1 own own2 c h k hkl bs (by omega) bs.length 0 ps0 0 [] (by omega) ⟨ps0_good, List.nodup_nil, (fun b hb => by cases hb), (fun b hb => by cases hb)⟩ (by show (0 : Int) ≤ 2 * c.b; omega) ⟨bornOk_nil _, List.nodup_nil, (fun x hx => by cases hx)⟩
      refine Goods.to 2000 [.c (.of speaks_tri), .c (.of hy), .s 28 (some false) true true, .k 31 (.of hn), .l, .stop] mixed (ih) (by kernel_rfl) ?_
      show Yes _
      repeat' apply And.intro
      all_goals try exact g0
      (all_goals first | rfl | assumption | trivial | omega | (simp [-List.getD_eq_getElem?_getD] <;> omega) | (simp (disch := omega) only [w64, wu64] <;> omega) | (simp (disch := omega) [-List.getD_eq_getElem?_getD, List.getD_cons_zero, List.getD_cons_succ, kCast_self, dfl_pair, dfl_int, w64, wu64] <;> omega) | (rw [Bool.eq_iff_iff]; simp (disch := omega) [-List.getD_eq_getElem?_getD, List.getD_cons_zero, List.getD_cons_succ, kCast_self, dfl_pair, dfl_int, w64, wu64] <;> omega) | (simp_all [-List.getD_eq_getElem?_getD] <;> omega))
  · have hy := may_no own c hcl h
    refine Goods.fin 2000 [.c (.of speaks_tri), .c (.of hy)] mixed Tryd.func4 ?_
    show Yes _
    repeat' apply And.intro
    (all_goals first | rfl | assumption | trivial | omega | (simp [-List.getD_eq_getElem?_getD] <;> omega) | (simp (disch := omega) only [w64, wu64] <;> omega) | (simp (disch := omega) [-List.getD_eq_getElem?_getD, List.getD_cons_zero, List.getD_cons_succ, kCast_self, dfl_pair, dfl_int, w64, wu64] <;> omega) | (rw [Bool.eq_iff_iff]; simp (disch := omega) [-List.getD_eq_getElem?_getD, List.getD_cons_zero, List.getD_cons_succ, kCast_self, dfl_pair, dfl_int, w64, wu64] <;> omega) | (simp_all [-List.getD_eq_getElem?_getD] <;> omega))
theorem StockFew_law (d : dats ([(true, (.pair (.int .i64) (.pair (.int .i64) (.pair (.int .i64) (.pair (.int .i64) (.pair (.slice (.int .i64)) .unit)))))), (false, (.int .u8)), (false, (.slice (.pair (.int .i64) (.pair (.int .i64) .unit))))] : List (Bool × Sh))) (hd : datsOk ([(true, (.pair (.int .i64) (.pair (.int .i64) (.pair (.int .i64) (.pair (.int .i64) (.pair (.slice (.int .i64)) .unit)))))), (false, (.int .u8)), (false, (.slice (.pair (.int .i64) (.pair (.int .i64) .unit))))] : List (Bool × Sh)) d) : Tri En 4 (argsOf ([(true, (.pair (.int .i64) (.pair (.int .i64) (.pair (.int .i64) (.pair (.int .i64) (.pair (.slice (.int .i64)) .unit)))))), (false, (.int .u8)), (false, (.slice (.pair (.int .i64) (.pair (.int .i64) .unit))))] : List (Bool × Sh)) d 0) (objsOf ([(true, (.pair (.int .i64) (.pair (.int .i64) (.pair (.int .i64) (.pair (.int .i64) (.pair (.slice (.int .i64)) .unit)))))), (false, (.int .u8)), (false, (.slice (.pair (.int .i64) (.pair (.int .i64) .unit))))] : List (Bool × Sh)) d) (.bl true) (gones (cnts ([(true, (.pair (.int .i64) (.pair (.int .i64) (.pair (.int .i64) (.pair (.int .i64) (.pair (.slice (.int .i64)) .unit)))))), (false, (.int .u8)), (false, (.slice (.pair (.int .i64) (.pair (.int .i64) .unit))))] : List (Bool × Sh)))) := by
  obtain ⟨⟨w, s, b, t, cl, _⟩, u, bs, _⟩ := d
  obtain ⟨⟨h0, h1, h2, h3, ⟨h4, _⟩, _⟩, h5, ⟨h6, h7⟩, _⟩ := hd
  obtain ⟨u, rfl, hu⟩ := wf_u8 h5
  exact StockFew_tri false false ⟨w, s, b, t, cl⟩ (maxLen_le h4) u (Nat.lt_succ_of_le hu) bs (maxLen_le h6)
end Go.Proofs.YthlpfafmiakfdaaDoor.E
