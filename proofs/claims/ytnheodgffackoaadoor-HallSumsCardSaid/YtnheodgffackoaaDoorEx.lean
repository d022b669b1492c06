/- The engine: boxes: many small heaps, each with a pointer to it, that look at two objects from outside; one is opened, and closed. -/
import Derived.Test.YtnheodgffackoaaDoorEs
namespace Go.Proofs.YtnheodgffackoaaDoor.E
set_option linter.unusedSimpArgs false
set_option linter.unusedVariables false
open Go
def plainO : AObj → Bool
  | .gone => true
  | .cells _ => true
  | .tab own _ _ => own
  | _ => false
def plainL : List AObj → Bool
  | [] => true
  | o :: os => match plainO o with
    | true => plainL os
    | false => false
theorem plainL_mem : ∀ {os : List AObj} {i : Nat} {o : AObj}, plainL os = true → os[i]? = some o → plainO o = true
  | [], i, o, _, h => by simp at h
  | x :: os, i, o, hp, h => by
    simp only [plainL] at hp
    split at hp
    · rename_i hx
      cases i with
      | zero => cases h; exact hx
      | succ i => exact plainL_mem hp h
    · cases hp
/-- A small heap behind the two objects that it looks at. -/
def subO (os : List AObj) : List AObj := .gone :: .gone :: os
abbrev BMem := Value × List AObj
section
variable {ρ ρ' : Rho} {w w' : World} {B : Nat} {H : Hp}
theorem ObjRel.rebase {l : Loc} {o : AObj} (hn : plainO o = true) (h : ObjRel B ρ w l o) {B' : Nat} (hB : ∀ b, Foot l o b → B' ≤ b) : ObjRel B' ρ w l o := by
  cases o <;> try (cases hn; done)
  case gone => trivial
  case cells cs =>
    obtain ⟨_, h5⟩ := h
    exact ⟨hB _ (.inl ⟨trivial, rfl⟩), h5⟩
  case tab own k xs =>
    cases own
    · cases hn
    · obtain ⟨h1, h2, h3, h4⟩ := h
      refine ⟨h1, h2, h3, fun hr => ?_⟩
      obtain ⟨_, h5⟩ := h4 hr
      exact ⟨hB _ (.inl ⟨⟨rfl, hr⟩, rfl⟩), h5⟩
theorem plain_big {o : AObj} (hn : plainO o = true) : isBig o = false := by cases o <;> first | rfl | cases hn
theorem RelH.kept0 (h : RelH 0 ρ H w) {X : Nat → Prop} (hk : Kept X w w') (hX : ∀ b, Blks ρ H b → ¬ X b) : RelH 0 ρ H w' := by
  refine ⟨fun i hi => ?_, h.sepF, h.fresh, Nat.zero_le _⟩
  obtain ⟨l, h1, h2⟩ := h.obj i hi
  exact ⟨l, h1, h2.kept (fun _ _ h => h) hk (fun b hb => hX b ⟨i, l, h1, hb⟩) fun _ _ => Nat.zero_le _⟩
/-- One small heap. -/
def BAt (w : World) (lh lm : Loc) (m : BMem) (F : Nat → Prop) : Prop :=
  plainL m.2 = true ∧ ∃ ρ, ρ 0 = some lh ∧ ρ 1 = some lm ∧ RelH 0 ρ (hp (subO m.2)) w ∧ Den ρ (.ptr 2 0 0) m.1 ∧ ∀ b, F b ↔ Blks ρ (hp (subO m.2)) b
theorem BAt.kept {lh lm : Loc} {m : BMem} {F : Nat → Prop} (h : BAt w lh lm m F) {X : Nat → Prop} (hk : Kept X w w') (hX : ∀ b, F b → ¬ X b) : BAt w' lh lm m F := by
  obtain ⟨h0, ρ, h1, h2, h3, h4, h5⟩ := h
  exact ⟨h0, ρ, h1, h2, h3.kept0 hk (fun b hb => hX b ((h5 b).2 hb)), h4, h5⟩
/-- The members; one without objects is not there. -/
structure BFam (w : World) (lh lm : Loc) (ms : List BMem) (Fs : Nat → Nat → Prop) : Prop where
  at_ : ∀ i m, ms[i]? = some m → m.2 ≠ [] → BAt w lh lm m (Fs i)
  none_ : ∀ i, (∀ m, ms[i]? = some m → m.2 = []) → ∀ b, ¬ Fs i b
  apart : ∀ i j b, i ≠ j → Fs i b → Fs j b → False
def BoxP (ms : List BMem) (ls : List Loc) (w : World) (sz : Nat) : Prop := ∃ lh lm Fs, ls = [lh, lm] ∧ BFam w lh lm ms Fs ∧ ∀ b, sz.testBit b = true ↔ ∃ i, Fs i b
theorem BFam.kept {lh lm : Loc} {ms : List BMem} {Fs : Nat → Nat → Prop} (h : BFam w lh lm ms Fs) {X : Nat → Prop} (hk : Kept X w w') (hX : ∀ i b, Fs i b → ¬ X b) : BFam w' lh lm ms Fs :=
  ⟨fun i m hi hm => (h.at_ i m hi hm).kept hk (hX i), h.none_, h.apart⟩
/-- A box, by what is in it. -/
theorem box_rel {lh lm : Loc} {ms : List BMem} {Fs : Nat → Nat → Prop} {l : Loc} {T a b : Nat} (h : BFam w lh lm ms Fs) (hz : ∀ q, l.sz.testBit q = true ↔ ∃ i, Fs i q) (hb : ∀ i q, Fs i q → B ≤ q ∧ q < w.heap.size) (ha : ρ a = some lh) (hb2 : ρ b = some lm) : ObjRel B ρ w l (.box T [a, b] (BoxP ms)) :=
  ⟨fun q hq => (let ⟨i, hi⟩ := (hz q).1 hq; hb i q hi), [lh, lm], ⟨ha, hb2, trivial⟩, ⟨lh, lm, Fs, rfl, h, hz⟩, fun w' hk => ⟨lh, lm, Fs, rfl, h.kept hk fun i q hq hx => hx.2 ((hz q).2 ⟨i, hq⟩), hz⟩⟩
/-- Where a small heap's objects come to lie. -/
def sh (N : Nat) : Nat → Nat
  | 0 => 1
  | 1 => 2
  | i + 2 => N + 2 + i
theorem getD_app_lt {β : Type _} {a b : List β} {d : β} {i : Nat} (h : i < a.length) : (a ++ b).getD i d = a.getD i d := by simp [List.getD, List.getElem?_append_left h]
theorem getD_app_ge {β : Type _} {a b : List β} {d : β} {i : Nat} (h : a.length ≤ i) : (a ++ b).getD i d = b.getD (i - a.length) d := by simp [List.getD, List.getElem?_append_right h]
/-- A box is opened at one of its members. -/
theorem RelH.openB {T i : Nat} {os subs : List AObj} {ms : List BMem} {u : Value} (h : RelH B ρ (hp (.box T [1, 2] (BoxP ms) :: os)) w) (hos : 2 ≤ os.length) (hi : ms[i]? = some (u, subs)) (hne : subs ≠ []) :
    ∃ ρ2, RelH B ρ2 (hp ((.gone :: os) ++ .box T [1, 2] (BoxP (ms.set i (u, []))) :: subs.map (renO (sh os.length)))) w ∧ Den ρ2 (.ptr (os.length + 2) 0 0) u ∧ (∀ q l, ρ q = some l → ρ2 q = some l) ∧
      ∀ b, Blks ρ2 (hp ((.gone :: os) ++ .box T [1, 2] (BoxP (ms.set i (u, []))) :: subs.map (renO (sh os.length)))) b → Blks ρ (hp (.box T [1, 2] (BoxP ms) :: os)) b := by
  obtain ⟨l0, hl0, hbox⟩ := h.obj 0 (by rw [hp_get]; simp)
  rw [hp_get] at hbox
  obtain ⟨hfar, ls, hls, ⟨lh, lm, Fs, rfl, hF, hz⟩, _⟩ := (hbox : ObjRel B ρ w l0 (.box T [1, 2] (BoxP ms)))
  have h1 : ρ 1 = some lh := hls.1
  have h2 : ρ 2 = some lm := hls.2.1
  obtain ⟨hpl, ρs, s0, s1, hR, hD, hFi⟩ := hF.at_ i _ hi hne
  simp only at hpl hR hD hFi
  have hil := (List.getElem?_eq_some_iff.1 hi).1
  generalize hN : os.length = N at *
  have hlen : (.box T [1, 2] (BoxP ms) :: os).length = N + 1 := by simp [hN]
  have fr : ∀ q l, ρ q = some l → q < N + 1 := fun q l hq => by
    by_cases hq2 : q < N + 1
    · exact hq2
    · rw [(h.fresh q (by rw [hp_n, hlen]; omega)).1] at hq; cases hq
  have frs : ∀ q l, ρs q = some l → q < subs.length + 2 := fun q l hq => by
    by_cases hq2 : q < subs.length + 2
    · exact hq2
    · rw [(hR.fresh q (by rw [hp_n]; simp [subO]; omega)).1] at hq; cases hq
  obtain ⟨sz', hsz'⟩ := bits_ex (fun b => ∃ j, j ≠ i ∧ Fs j b) w.heap.size
  have hbnd : ∀ j b, Fs j b → B ≤ b ∧ b < w.heap.size := fun j b hb => hfar b ((hz b).2 ⟨j, hb⟩)
  have hz' : ∀ b, sz'.testBit b = true ↔ ∃ j, (j ≠ i ∧ Fs j b) := fun b => (hsz' b).trans ⟨fun h => h.2, fun ⟨j, h⟩ => ⟨(hbnd j b h.2).2, j, h⟩⟩
  have hF' : BFam w lh lm (ms.set i (u, [])) fun j b => j ≠ i ∧ Fs j b := by
    refine ⟨fun j m hj hm => ?_, fun j hj b hb => ?_, fun j k b hjk h1 h2 => hF.apart j k b hjk h1.2 h2.2⟩
    · by_cases e : j = i
      · subst e
        rw [List.getElem?_set_self hil] at hj
        cases hj
        exact absurd rfl hm
      · rw [List.getElem?_set_ne (Ne.symm e)] at hj
        obtain ⟨b0, ρ3, b1, b2, b3, b4, b5⟩ := hF.at_ j m hj hm
        exact ⟨b0, ρ3, b1, b2, b3, b4, fun b => ⟨fun h => (b5 b).1 h.2, fun h => ⟨e, (b5 b).2 h⟩⟩⟩
    · refine hF.none_ j (fun m hm => ?_) b hb.2
      rw [← List.getElem?_set_ne (Ne.symm hb.1) (a := (u, ([] : List AObj)))] at hm
      exact hj m hm
  let ρ2 : Rho := fun q => if q < N + 1 then ρ q else if q = N + 1 then some ⟨0, 0, sz', 0⟩ else ρs (q - (N + 2) + 2)
  have m2 : ∀ q l, ρ q = some l → ρ2 q = some l := fun q l hq => by show (if _ then _ else _) = _; rw [if_pos (fr q l hq)]; exact hq
  have ms' : ∀ q l, ρs q = some l → ρ2 (sh N q) = some l := fun q l hq => by
    match q with
    | 0 => rw [s0] at hq; cases hq; exact m2 1 lh h1
    | 1 => rw [s1] at hq; cases hq; exact m2 2 lm h2
    | q + 2 =>
      have e1 : sh N (q + 2) = N + 2 + q := rfl
      have e2 : ρ2 (N + 2 + q) = ρs (N + 2 + q - (N + 2) + 2) := by show (if _ then _ else _) = _; rw [if_neg (by omega), if_neg (by omega)]
      rw [e1, e2, show N + 2 + q - (N + 2) + 2 = q + 2 by omega]
      exact hq
  let OS2 := (.gone :: os) ++ .box T [1, 2] (BoxP (ms.set i (u, []))) :: subs.map (renO (sh N))
  have g1 : ∀ q, q < N + 1 → q ≠ 0 → OS2.getD q .gone = (.box T [1, 2] (BoxP ms) :: os).getD q .gone := fun q hq hq0 => by
    show ((.gone :: os) ++ _).getD q .gone = _
    rw [getD_app_lt (by simp [hN]; omega)]
    obtain ⟨k, rfl⟩ : ∃ k, q = k + 1 := ⟨q - 1, by omega⟩
    rfl
  have g0 : OS2.getD 0 .gone = .gone := rfl
  have gb : OS2.getD (N + 1) .gone = .box T [1, 2] (BoxP (ms.set i (u, []))) := by
    show ((.gone :: os) ++ _).getD (N + 1) .gone = _
    rw [getD_app_ge (by simp [hN])]
    simp [hN]
  have gs : ∀ q, OS2.getD (N + 2 + q) .gone = renO (sh N) (subs.getD q .gone) := fun q => by
    show ((.gone :: os) ++ _).getD (N + 2 + q) .gone = _
    rw [getD_app_ge (by simp [hN]; omega)]
    rw [show N + 2 + q - (AObj.gone :: os).length = q + 1 by simp [hN]; omega]
    simp only [List.getD, List.getElem?_cons_succ, List.getElem?_map]
    cases subs[q]? <;> rfl
  have gsub : ∀ q, (hp (subO subs)).get (q + 2) = subs.getD q .gone := fun q => by rw [hp_get]; rfl
  have hge : ∀ q, N + 2 ≤ q → ρ2 q = ρs (q - (N + 2) + 2) := fun q hq => by show (if _ then _ else _) = _; rw [if_neg (by omega), if_neg (by omega)]
  have hlt : ∀ q, q < N + 1 → ρ2 q = ρ q := fun q hq => if_pos hq
  have hmid : ρ2 (N + 1) = some ⟨0, 0, sz', 0⟩ := by show (if _ then _ else _) = _; rw [if_neg (by omega), if_pos rfl]
  -- whose footprint it is
  have foot : ∀ q l b, ρ2 q = some l → Foot l ((hp OS2).get q) b → (q < N + 1 ∧ q ≠ 0 ∧ ρ q = some l ∧ Foot l ((hp (.box T [1, 2] (BoxP ms) :: os)).get q) b) ∨ (q = N + 1 ∧ ∃ j, j ≠ i ∧ Fs j b) ∨ (∃ k, q = N + 2 + k ∧ ρs (k + 2) = some l ∧ Foot l ((hp (subO subs)).get (k + 2)) b) := by
    intro q l b hq hf
    rw [hp_get] at hf
    rcases Nat.lt_trichotomy q (N + 1) with h3 | rfl | h3
    · by_cases h4 : q = 0
      · subst h4; rw [g0] at hf; exact absurd rfl hf.ne
      · rw [g1 q h3 h4] at hf
        rw [hlt q h3] at hq
        exact .inl ⟨h3, h4, hq, by rw [hp_get]; exact hf⟩
    · rw [hmid] at hq; cases hq
      rw [gb] at hf
      rcases hf with ⟨hf, _⟩ | ⟨_, hf⟩
      · exact hf.elim
      · exact .inr (.inl ⟨rfl, (hz' b).1 hf⟩)
    · obtain ⟨k, rfl⟩ : ∃ k, q = N + 2 + k := ⟨q - (N + 2), by omega⟩
      rw [gs k] at hf
      rw [hge _ (by omega), show N + 2 + k - (N + 2) + 2 = k + 2 by omega] at hq
      exact .inr (.inr ⟨k, rfl, hq, by rw [gsub]; exact foot_ren.1 hf⟩)
  have far0 : ∀ j b, Fs j b → Foot l0 ((hp (.box T [1, 2] (BoxP ms) :: os)).get 0) b := fun j b hb => .inr ⟨by rw [hp_get]; rfl, (hz b).2 ⟨j, hb⟩⟩
  refine ⟨ρ2, ⟨fun q hq => ?_, fun p q lp lq b hpq hp' hq' hf1 hf2 => ?_, fun q hq => ?_, h.bound⟩, ?_, m2, fun b hb => ?_⟩
  · rw [hp_get] at hq ⊢
    rcases Nat.lt_trichotomy q (N + 1) with h3 | rfl | h3
    · by_cases h4 : q = 0
      · subst h4; exact absurd g0 hq
      · have hq2 := hq
        rw [show ((.gone :: os) ++ .box T [1, 2] (BoxP (ms.set i (u, []))) :: subs.map (renO (sh N))).getD q .gone = _ from g1 q h3 h4] at hq ⊢
        obtain ⟨l, h5, h6⟩ := h.obj q (by rw [hp_get]; exact hq)
        rw [hp_get] at h6
        exact ⟨l, m2 q l h5, h6.kept m2 (Kept.refl (fun _ => False) w) (fun _ _ h => h) fun _ h => h.elim⟩
    · rw [show ((.gone :: os) ++ .box T [1, 2] (BoxP (ms.set i (u, []))) :: subs.map (renO (sh N))).getD (N + 1) .gone = _ from gb]
      exact ⟨_, hmid, box_rel hF' hz' (fun j b hb => hbnd j b hb.2) (m2 1 lh h1) (m2 2 lm h2)⟩
    · obtain ⟨k, rfl⟩ : ∃ k, q = N + 2 + k := ⟨q - (N + 2), by omega⟩
      rw [show ((.gone :: os) ++ .box T [1, 2] (BoxP (ms.set i (u, []))) :: subs.map (renO (sh N))).getD (N + 2 + k) .gone = _ from gs k] at hq ⊢
      have hne2 : subs.getD k .gone ≠ .gone := fun e => hq (by rw [e]; rfl)
      obtain ⟨o, ho, he⟩ := getD_some hne2
      obtain ⟨l, h5, h6⟩ := hR.obj (k + 2) (by rw [gsub]; exact hne2)
      rw [gsub, he] at h6
      refine ⟨l, by rw [hge _ (by omega), show N + 2 + k - (N + 2) + 2 = k + 2 by omega]; exact h5, ?_⟩
      rw [he]
      refine objRel_ren (fun j l hj => ms' j l hj) (h6.rebase (plainL_mem hpl ho) fun b hb => ?_)
      exact (hbnd i b ((hFi b).2 ⟨k + 2, l, h5, by rw [gsub, he]; exact hb⟩)).1
  · rcases foot p lp b hp' hf1 with ⟨a1, a2, a3, a4⟩ | ⟨rfl, j, a2, a3⟩ | ⟨k, rfl, a2, a3⟩
    · rcases foot q lq b hq' hf2 with ⟨b1, b2, b3, b4⟩ | ⟨rfl, j, b2, b3⟩ | ⟨k, rfl, b2, b3⟩
      · exact h.sepF p q lp lq b hpq a3 b3 a4 b4
      · exact h.sepF p 0 lp l0 b a2 a3 hl0 a4 (far0 j b b3)
      · exact h.sepF p 0 lp l0 b a2 a3 hl0 a4 (far0 i b ((hFi b).2 ⟨_, _, b2, b3⟩))
    · rcases foot q lq b hq' hf2 with ⟨b1, b2, b3, b4⟩ | ⟨rfl, j, b2, b3⟩ | ⟨k, rfl, b2, b3⟩
      · exact h.sepF q 0 lq l0 b b2 b3 hl0 b4 (far0 j b a3)
      · exact hpq rfl
      · exact hF.apart j i b a2 a3 ((hFi b).2 ⟨_, _, b2, b3⟩)
    · rcases foot q lq b hq' hf2 with ⟨b1, b2, b3, b4⟩ | ⟨rfl, j, b2, b3⟩ | ⟨k', rfl, b2, b3⟩
      · exact h.sepF q 0 lq l0 b b2 b3 hl0 b4 (far0 i b ((hFi b).2 ⟨_, _, a2, a3⟩))
      · exact hF.apart j i b b2 b3 ((hFi b).2 ⟨_, _, a2, a3⟩)
      · exact hR.sepF (k + 2) (k' + 2) lp lq b (by omega) a2 b2 a3 b3
  · rw [hp_n] at hq
    have hq2 : N + 2 + subs.length ≤ q := by simp [hN] at hq; omega
    refine ⟨?_, ?_⟩
    · rw [hge q (by omega)]
      exact (hR.fresh _ (by rw [hp_n]; simp [subO]; omega)).1
    · rw [hp_get]; simp only [List.getD]; rw [List.getElem?_eq_none hq]; rfl
  · obtain ⟨l, hl, hu⟩ := hD
    exact ⟨l, by have := ms' 2 l hl; exact this, hu⟩
  · obtain ⟨q, l, hq, hf⟩ := hb
    rcases foot q l b hq hf with ⟨a1, a2, a3, a4⟩ | ⟨rfl, j, a2, a3⟩ | ⟨k, rfl, a2, a3⟩
    · exact ⟨q, l, a3, a4⟩
    · exact ⟨0, l0, hl0, far0 j b a3⟩
    · exact ⟨0, l0, hl0, far0 i b ((hFi b).2 ⟨_, _, a2, a3⟩)⟩
end
end Go.Proofs.YtnheodgffackoaaDoor.E
