/- The stock's laws: do, as a function; same. -/
import Derived.Test.YthlpfafmiakfdaaDoorL12i
namespace Go.Proofs.YthlpfafmiakfdaaDoor.E
set_option linter.unusedSimpArgs false
set_option linter.unusedVariables false
open Go
set_option maxRecDepth 100000
def stepS (c : Cnf) (S k : Nat) (kd b1 b2 : Int) (m : Nat) (s : PS) : PS := if kd = 0 then pushS c k s (b1, b2) else if kd = 1 then (if s.m = 0 then s else popS s) else if kd = 2 then fillS c k s b1 (intsL (bitsL m)) else if kd = 3 then (if (s.m : Int) ≤ 2 * c.b then s else spillS s (bestB s.pile S : Nat)) else s
def stepL (c : Cnf) (S k : Nat) (kd b1 b2 : Int) (m : Nat) (l : LP) : LP := if kd = 0 then pushL c k l (b1, b2) else if kd = 1 then (if l.m = 0 then l else ⟨l.xs, l.m - 1⟩) else if kd = 2 then fillLP c k b1 m 64 l else if kd = 3 then (if (l.m : Int) ≤ 2 * c.b then l else ⟨keepL (bestB l.pile S : Nat) l.pile, (keepL (bestB l.pile S : Nat) l.pile).length⟩) else l
structure AgrN (c : Cnf) (k lim : Nat) (s : PS) (l : LP) : Prop extends Agr c k lim s l where
  nodup : s.pile.Nodup
theorem Agr.more {c : Cnf} {k lim lim' : Nat} {s : PS} {l : LP} (h : Agr c k lim s l) (hl : lim ≤ lim') : Agr c k lim' s l := ⟨h.good, h.lm, h.lle, h.pile, h.inb, Nat.le_trans h.few hl⟩
theorem nodup_push {c : Cnf} {k : Nat} {s : PS} (h : s.Good) (hn : s.pile.Nodup) (b : Blk) : (pushS c k s b).pile.Nodup := by
  rw [(pushS_good (c := c) (k := k) h b).2]
  unfold pushP
  split
  · rename_i hb
    refine List.nodup_append.2 ⟨hn, by simp, fun a ha x hx => ?_⟩
    simp only [List.mem_singleton] at hx
    rintro rfl
    rw [hx] at ha
    exact hb.2 ha
  · exact hn
theorem nodup_fold {c : Cnf} {k : Nat} : ∀ (bs : List Blk) {s : PS}, s.Good → s.pile.Nodup → (bs.foldl (pushS c k) s).pile.Nodup
  | [], _, _, h => h
  | b :: bs, _, hg, h => nodup_fold bs (pushS_good (c := c) (k := k) hg b).1 (nodup_push hg h b)
theorem popS_good {s : PS} (h : s.Good) (hn : s.pile.Nodup) (h0 : 0 < s.m) : (popS s).Good ∧ s.pile = (popS s).pile ++ [bAt s.zs (s.m - 1)] := by
  obtain ⟨zs, m, cl, es⟩ := s
  obtain ⟨q, rfl⟩ : ∃ q, m = q + 1 := ⟨m - 1, by simp only at h0; omega⟩
  have hle : q + 1 ≤ zs.length := h.le
  have e : (⟨zs, q + 1, cl, es⟩ : PS).pile = zs.take q ++ [bAt zs q] := takeB_snoc (l := zs) (by omega)
  refine ⟨⟨by show q ≤ zs.length; omega, ?_⟩, e⟩
  refine (h.there.filter (bAt zs q)).same fun b => ?_
  show b ∈ List.filter _ (PS.pile ⟨zs, q + 1, cl, es⟩) ↔ b ∈ zs.take q
  rw [e] at hn ⊢
  have hd := (List.nodup_append.1 hn).2.2
  simp only [List.mem_filter, List.mem_append, List.mem_singleton, decide_eq_true_eq]
  constructor
  · rintro ⟨h1 | h1, h2⟩
    · exact h1
    · exact absurd h1 h2
  · intro h1
    exact ⟨.inl h1, fun hh => hd b h1 (bAt zs q) (by simp) hh⟩
theorem AgrN.step {c : Cnf} {S k lim : Nat} {s : PS} {l : LP} (h : AgrN c k lim s l) (kd b1 b2 : Int) (m : Nat) : AgrN c k (lim + 64) (stepS c S k kd b1 b2 m s) (stepL c S k kd b1 b2 m l) := by
  unfold stepS stepL
  by_cases h0 : kd = 0
  · rw [if_pos h0, if_pos h0]
    exact ⟨(h.toAgr.push (b1, b2)).more (by omega), nodup_push h.good h.nodup _⟩
  rw [if_neg h0, if_neg h0]
  by_cases h1 : kd = 1
  · rw [if_pos h1, if_pos h1, h.lm]
    by_cases hm : s.m = 0
    · rw [if_pos hm, if_pos hm]; exact ⟨h.toAgr.more (by omega), h.nodup⟩
    · rw [if_neg hm, if_neg hm]
      obtain ⟨g1, g2⟩ := popS_good h.good h.nodup (by omega)
      have hsub : ∀ b ∈ (popS s).pile, b ∈ s.pile := fun b hb => by rw [g2]; exact List.mem_append_left _ hb
      have hp : (⟨l.xs, s.m - 1⟩ : LP).pile = (popS s).pile := by
        have e1 : (⟨l.xs, s.m - 1⟩ : LP).pile = l.pile.take (s.m - 1) := by
          show l.xs.take (s.m - 1) = (l.xs.take l.m).take (s.m - 1)
          rw [List.take_take, h.lm, Nat.min_eq_left (by omega)]
        have e2 : (popS s).pile = s.pile.take (s.m - 1) := by
          show s.zs.take (s.m - 1) = (s.zs.take s.m).take (s.m - 1)
          rw [List.take_take, Nat.min_eq_left (by omega)]
        rw [e1, e2, h.pile]
      refine ⟨⟨g1, rfl, by have := h.lle; have := h.lm; show s.m - 1 ≤ l.xs.length; omega, hp, fun b hb => h.inb b (hsub b hb), by have := h.few; show s.m - 1 ≤ _; omega⟩, ?_⟩
      have := h.nodup
      rw [g2] at this
      exact (List.nodup_append.1 this).1
  rw [if_neg h1, if_neg h1]
  by_cases h2 : kd = 2
  · rw [if_pos h2, if_pos h2]
    exact ⟨h.toAgr.fill b1 m, nodup_fold _ h.good h.nodup⟩
  rw [if_neg h2, if_neg h2]
  by_cases h3 : kd = 3
  · rw [if_pos h3, if_pos h3, h.lm]
    by_cases hm : (s.m : Int) ≤ 2 * c.b
    · rw [if_pos hm, if_pos hm]; exact ⟨h.toAgr.more (by omega), h.nodup⟩
    · rw [if_neg hm, if_neg hm, h.pile]
      have hk := spill_pile s (bestB s.pile S : Nat)
      have hg := spill_good h.good (bestB s.pile S : Nat)
      have hsub : ∀ b ∈ keepL (bestB s.pile S : Nat) s.pile, b ∈ s.pile := fun b hb => (List.mem_filter.1 hb).1
      have hle : (keepL (bestB s.pile S : Nat) s.pile).length ≤ s.pile.length := List.length_filter_le ..
      rw [h.good.len] at hle
      refine ⟨⟨hg, rfl, Nat.le_refl _, ?_, fun b hb => h.inb b (hsub b (hk ▸ hb)), by have := h.few; show (keepL (bestB s.pile S : Nat) s.pile).length ≤ _; omega⟩, ?_⟩
      · rw [hk]; exact List.take_length
      · rw [hk]; exact h.nodup.sublist List.filter_sublist
  · rw [if_neg h3, if_neg h3]; exact ⟨h.toAgr.more (by omega), h.nodup⟩
theorem do_any (own : Bool) (c : Cnf) (h : c.Ok) (S : Nat) (hS : (S : Int) = c.s) (pl : List PS) (hpl : pl.length = c.cl.length) (lps : List LP) (k : Nat) (s : PS) (hs : pl[k]? = some s) (l : LP) (x : List Value × List Value) (kd b1 b2 : Int) (m : Nat) (hm : m < 18446744073709551616) (hA : AgrN c k 20000 s l) :
    Tri En 11 [cnfA 0 c, .ptr 1 0 0, .slice 2 0 c.cl.length, actA kd k b1 b2 m] (doP own c pl lps k x l) (.bl true) (doQ own c (pl.set k (stepS c S k kd b1 b2 m s)) lps k x (stepL c S k kd b1 b2 m l)) := by
  unfold stepS stepL
  have hA' := hA.toAgr
  by_cases h0 : kd = 0
  · rw [if_pos h0, if_pos h0, h0]; exact do_0 own c h pl hpl lps k s hs l x b1 b2 m hA'
  rw [if_neg h0, if_neg h0]
  by_cases h1 : kd = 1
  · rw [if_pos h1, if_pos h1, h1, hA.lm]
    by_cases hm0 : s.m = 0
    · rw [if_pos hm0, if_pos hm0, set_id hs]; exact do_1a own c h pl hpl lps k s hs l x b1 b2 m hA' hm0
    · rw [if_neg hm0, if_neg hm0]
      have := do_1b own c h pl hpl lps k s hs l x b1 b2 m hA' (by omega)
      rw [hA.lm] at this
      exact this
  rw [if_neg h1, if_neg h1]
  by_cases h2 : kd = 2
  · rw [if_pos h2, if_pos h2, h2]; exact do_2 own c h pl hpl lps k s hs l x b1 b2 m hm hA'
  rw [if_neg h2, if_neg h2]
  by_cases h3 : kd = 3
  · rw [if_pos h3, if_pos h3, h3, hA.lm]
    by_cases hm0 : (s.m : Int) ≤ 2 * c.b
    · rw [if_pos hm0, if_pos hm0, set_id hs]; exact do_3a own c h pl hpl lps k s hs l x b1 b2 m hA' hm0
    · rw [if_neg hm0, if_neg hm0, hA.pile]; exact do_3b own c h S hS pl hpl lps k s hs l x b1 b2 m hA' hm0
  · rw [if_neg h3, if_neg h3, set_id hs]; exact do_4 own c h pl hpl lps k s hs l x kd b1 b2 m hA' (by omega)
abbrev doB (own : Bool) (c : Cnf) (pl : List PS) (lps : List LP) : List AObj := [.tab own (.int .i64) c.cl, stkC 3 c, .link 6, clsO c, .link 7, .link 8, .big (FQ (lps.map lpX)), .big (FQ (pl.map pileX)), .big (FQ (pl.map mapX))]
abbrev doR (own : Bool) (c : Cnf) (pl : List PS) (lps : List LP) : List AObj := [.tab own (.int .i64) c.cl, stkC 3 c, .link 14, clsO c, .link 12, .link 13, .gone, .gone, .gone, .gone, .gone, .gone, .big (FQ (pl.map pileX)), .big (FQ (pl.map mapX)), .big (FQ (lps.map lpX))]
theorem do_B (own : Bool) (c : Cnf) (h : c.Ok) (S : Nat) (hS : (S : Int) = c.s) (pl : List PS) (hpl : pl.length = c.cl.length) (lps : List LP) (k : Nat) (s : PS) (hs : pl[k]? = some s) (l : LP) (hl : lps[k]? = some l) (kd b1 b2 : Int) (m : Nat) (hm : m < 18446744073709551616) (hA : AgrN c k 20000 s l) :
    Tri En 11 [cnfA 0 c, .ptr 1 0 0, .slice 2 0 c.cl.length, actA kd k b1 b2 m] (doB own c pl lps) (.bl true) (doR own c (pl.set k (stepS c S k kd b1 b2 m s)) (lps.set k (stepL c S k kd b1 b2 m l))) := by
  have T := fun x => do_any own c h S hS pl hpl lps k s hs l x kd b1 b2 m hm hA
  have hk : k < lps.length := (List.getElem?_eq_some_iff.1 hl).1
  generalize pl.set k (stepS c S k kd b1 b2 m s) = pl' at *
  generalize stepL c S k kd b1 b2 m l = l' at *
  refine Tri.ghost (os2 := fun x => doP own c pl lps k x l) (os2' := fun x => doQ own c pl' lps k x l') (v2 := fun _ => .bl true) (T ([], [])).enters (fun B ρ w hH => ?_) (fun _ => by simp) T (fun x B ρ w hH => ?_)
  · have e1 : (lps.map lpX)[k]? = some (.tab true BlkK l.xs, .slice 0 0 l.m) := by rw [List.getElem?_map, hl]; rfl
    obtain ⟨us, ws, ρ1, _, r1, m1, c1⟩ := hH.openF (i := 2) (j := 6) rfl rfl e1
    obtain ⟨r2, c2⟩ := hp_eq (os := doP own c pl lps k (us, ws) l) rfl (fun i hi => match i, hi with
      | 0, _ => rfl | 1, _ => rfl | 2, _ => rfl | 3, _ => rfl | 4, _ => rfl | 5, _ => rfl | 6, _ => rfl | 7, _ => rfl | 8, _ => rfl | 9, _ => rfl | 10, _ => rfl | n + 11, h => absurd h (by simp)) r1
    exact ⟨(us, ws), ρ1, r2, m1, fun b hb => c1 b (c2 b hb)⟩
  · obtain ⟨ρ1, r1, m1, c1⟩ := hH.closeF (i := 2) (j := 11) (r := 10) (k := k) (o := .tab true BlkK l'.xs) (av := .slice 0 0 l'.m) rfl rfl rfl (by simpa using hk) rfl (by simp) fun l u hl hd => den_slice0 hl hd
    obtain ⟨r2, c2⟩ := hp_eq (os := doR own c pl' (lps.set k l')) rfl (fun i hi => match i, hi with
      | 0, _ => rfl | 1, _ => rfl | 2, _ => rfl | 3, _ => rfl | 4, _ => rfl | 5, _ => rfl | 6, _ => rfl | 7, _ => rfl | 8, _ => rfl | 9, _ => rfl | 10, _ => rfl | 11, _ => rfl | 12, _ => rfl | 13, _ => rfl | 14, _ => by show _ = AObj.big (FQ ((lps.set k l').map lpX)); rw [List.map_set]; rfl | n + 15, h => absurd h (by simp)) r1
    exact ⟨ρ1, r2, m1, fun b hb => c1 b (c2 b hb), fun u hu => hu⟩
set_option maxHeartbeats 4000000 in
theorem do_N (own : Bool) (c : Cnf) (h : c.Ok) (pl : List PS) (lps : List LP) (k : Int) (hk : ¬ (0 ≤ k ∧ k < c.cl.length)) (kd b1 b2 : Int) (m : Nat) (hm : m < 18446744073709551616) :
    Tri En 11 [cnfA 0 c, .ptr 1 0 0, .slice 2 0 c.cl.length, actA kd k b1 b2 m] (doB own c pl lps) (.bl true) (doR own c pl lps) := by
  have l1 := h.l1
  have h1 := pop_N c l1 pl k hk
  have h2 := spill_N c h pl k hk
  have h3 := fill_N c h pl k hk b1 m hm
  have h4 := push_N c h pl k hk (b1, b2)
  have h5 := len_N c l1 pl k hk
  have h6 := blocks_N c l1 pl k hk
  refine Tri.of Tryd.func11 rfl Tryd.call11 rfl ?_
  by_cases h0 : k < 0
  · refine Goods.fin 2000 [.s 30 (some true) true true, .c (.of h1), .c (.of h2), .c (.of h3), .c (.of h4), .c (.of h5), .s 76 (some true) true true, .c (.of h6), .s 83 (some true) true true] mixed Tryd.func11 ?_
    show Yes _
    repeat' apply And.intro
    (all_goals first | rfl | assumption | trivial | omega | (simp [-List.getD_eq_getElem?_getD] <;> omega) | (simp (disch := omega) only [w64, wu64] <;> omega) | (simp (disch := omega) [-List.getD_eq_getElem?_getD, List.getD_cons_zero, List.getD_cons_succ, kCast_self, dfl_pair, dfl_int, w64, wu64] <;> omega) | (rw [Bool.eq_iff_iff]; simp (disch := omega) [-List.getD_eq_getElem?_getD, List.getD_cons_zero, List.getD_cons_succ, kCast_self, dfl_pair, dfl_int, w64, wu64] <;> omega) | (simp_all [-List.getD_eq_getElem?_getD] <;> omega))
  · refine Goods.fin 2000 [.s 30 (some false) true true, .s 35 (some true) true true, .c (.of h1), .c (.of h2), .c (.of h3), .c (.of h4), .c (.of h5), .s 76 (some true) true true, .c (.of h6), .s 83 (some true) true true] mixed Tryd.func11 ?_
    show Yes _
    repeat' apply And.intro
    (all_goals first | rfl | assumption | trivial | omega | (simp [-List.getD_eq_getElem?_getD] <;> omega) | (simp (disch := omega) only [w64, wu64] <;> omega) | (simp (disch := omega) [-List.getD_eq_getElem?_getD, List.getD_cons_zero, List.getD_cons_succ, kCast_self, dfl_pair, dfl_int, w64, wu64] <;> omega) | (rw [Bool.eq_iff_iff]; simp (disch := omega) [-List.getD_eq_getElem?_getD, List.getD_cons_zero, List.getD_cons_succ, kCast_self, dfl_pair, dfl_int, w64, wu64] <;> omega) | (simp_all [-List.getD_eq_getElem?_getD] <;> omega))
end Go.Proofs.YthlpfafmiakfdaaDoor.E
