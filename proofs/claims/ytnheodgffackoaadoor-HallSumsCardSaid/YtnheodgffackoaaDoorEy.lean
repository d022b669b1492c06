/- The engine: boxes, closed; contracts over other words for what lies there, with something known of where. -/
import Derived.Test.YtnheodgffackoaaDoorEx
namespace Go.Proofs.YtnheodgffackoaaDoor.E
set_option linter.unusedSimpArgs false
set_option linter.unusedVariables false
open Go
def disjN : List Nat → List Nat → Bool
  | [], _ => true
  | i :: l, m => match memN m i with
    | true => false
    | false => disjN l m
theorem disjN_spec : ∀ {l m : List Nat}, disjN l m = true → ∀ i, i ∈ l → i ∈ m → False
  | [], m, _, i, h, _ => by cases h
  | j :: l, m, h, i, hi, hm => by
    simp only [disjN] at h
    split at h
    · cases h
    · rename_i hj
      rcases List.mem_cons.1 hi with rfl | hi
      · exact (memN_false.1 hj) hm
      · exact disjN_spec h i hi hm
section
variable {ρ ρ' : Rho} {w w' : World} {B : Nat} {H : Hp}
theorem UniOk.foot {s0 S : Sub} {ps vs : List AV} {os : List AObj} (h : UniOk H s0 S ps vs os ρ) {q : Nat} {l : Loc} {b : Nat} (hq : rho S ρ os q = some l) (hf : Foot l ((hp os).get q) b) :
    ∃ i, lookO S q = some (.id i) ∧ ρ i = some l ∧ Foot l (H.get i) b ∧ i ∈ idsOf S 0 os := by
  rw [hp_get] at hf
  obtain ⟨o, ho, he⟩ := getD_some hf.ne
  rw [he] at hf
  rcases h.obj q o ho with rfl | ⟨i', h5, h6, h7, h8⟩ | ⟨h5, own, k, rfl⟩
  · exact absurd rfl hf.ne
  · simp only [rho, h5] at hq
    exact ⟨i', h5, hq, h7 _ _ hf, idsOf_mem ho hf.ne (by rw [Nat.zero_add]; exact h5)⟩
  · simp only [rho, h5, Option.some.injEq] at hq
    subst hq
    exact absurd (hf.small rfl).1.2 (Nat.lt_irrefl _)
/-- A member comes back into its box; all else, as it is to lie. -/
theorem RelH.closeB {OS osA subs : List AObj} {ps vs : List AV} {T i q0 c k0 : Nat} {ms : List BMem} {u : Value} {SA SS : Sub} {csA csS : List Prop} (h : RelH B ρ (hp OS) w) (hbox : (hp OS).get q0 = .box T [1, 2] (BoxP ms)) (hi : i < ms.length) (hn : ∀ m, ms[i]? = some m → m.2 = []) (hu : Den ρ (.ptr c 0 0) u) (hpl : plainL subs = true) (hk : 2 < k0) (hk2 : k0 ≤ osA.length)
    (hA : uni (hp OS) (idSub k0) ps vs osA = some (SA, csA)) (hcA : AllP csA) (hS : uni (hp OS) [(0, .id 1), (1, .id 2)] [.ptr 2 0 0] [.ptr c 0 0] (subO subs) = some (SS, csS)) (hcS : AllP csS) (hne : subs ≠ [])
    (hdis : disjN (idsOf SA 0 osA) (q0 :: idsOf SS 0 (subO subs)) = true) (hdis2 : disjN [q0] (idsOf SS 0 (subO subs)) = true) :
    ∃ ρ', RelH B ρ' (hp (osA ++ [.box T [1, 2] (BoxP (ms.set i (u, subs)))])) w ∧ (∀ q l, q < k0 → ρ q = some l → ρ' q = some l) ∧ (∀ b, Blks ρ' (hp (osA ++ [.box T [1, 2] (BoxP (ms.set i (u, subs)))])) b → Blks ρ (hp OS) b) ∧ ∀ xs, DenL ρ vs xs → DenL ρ' ps xs := by
  have UA := uni_sound hA hcA (idSub_ok hk2) ρ
  have US := uni_sound hS hcS (fun j x hj => by
    simp only [lookO_cons] at hj
    by_cases e : j = 0
    · subst e; simp [subO]
    · rw [if_neg e] at hj
      by_cases e1 : j = 1
      · subst e1; simp [subO]
      · rw [if_neg e1] at hj; cases hj) ρ
  obtain ⟨l0, hl0, hb0⟩ := h.obj q0 (by rw [hbox]; simp)
  rw [hbox] at hb0
  obtain ⟨hfar, ls, hls, ⟨lh, lm, Fs, rfl, hF, hz⟩, _⟩ := hb0
  have h1 : ρ 1 = some lh := hls.1
  have h2 : ρ 2 = some lm := hls.2.1
  have RA := UA.rel h
  have RS := US.rel h
  have stab : ∀ q l, q < k0 → ρ q = some l → rho SA ρ osA q = some l := fun q l hq hl => by
    have : lookO SA q = some (.id q) := UA.le _ _ (by rw [idSub_look, if_pos hq])
    simp only [rho, this]; exact hl
  have s0 : rho SS ρ (subO subs) 0 = some lh := by
    have : lookO SS 0 = some (.id 1) := US.le _ _ (by rw [lookO_cons, if_pos rfl])
    simp only [rho, this]; exact h1
  have s1 : rho SS ρ (subO subs) 1 = some lm := by
    have : lookO SS 1 = some (.id 2) := US.le _ _ (by rw [lookO_cons, if_neg (by omega), lookO_cons, if_pos rfl])
    simp only [rho, this]; exact h2
  have sD : Den (rho SS ρ (subO subs)) (.ptr 2 0 0) u := by
    have := US.den [u] ⟨u, [], rfl, hu, rfl⟩
    obtain ⟨v, vs, e, hv, _⟩ := this
    injection e with e1 _
    rw [e1]; exact hv
  let G : Nat → Prop := fun b => Blks (rho SS ρ (subO subs)) (hp (subO subs)) b
  have hG : ∀ b, G b → ∃ j l, ρ j = some l ∧ Foot l ((hp OS).get j) b ∧ j ∈ idsOf SS 0 (subO subs) := fun b ⟨q, l, hq, hf⟩ => by
    obtain ⟨j, _, a2, a3, a4⟩ := US.foot hq hf
    exact ⟨j, l, a2, a3, a4⟩
  have far0 : ∀ j b, Fs j b → Foot l0 ((hp OS).get q0) b := fun j b hb => .inr ⟨by rw [hbox]; rfl, (hz b).2 ⟨j, hb⟩⟩
  have dG : ∀ j b, Fs j b → G b → False := fun j b h3 h4 => by
    obtain ⟨k, l, a1, a2, a3⟩ := hG b h4
    exact h.sepF q0 k l0 l b (fun e => disjN_spec hdis2 q0 (by simp) (by rw [e]; exact a3)) hl0 a1 (far0 j b h3) a2
  have hbG : ∀ b, G b → B ≤ b ∧ b < w.heap.size := fun b hb => by
    obtain ⟨k, l, a1, a2, _⟩ := hG b hb
    obtain ⟨l', a4, a5⟩ := h.obj k a2.ne
    rw [a1] at a4; cases a4
    exact a2.blk a5
  have hbF : ∀ j b, Fs j b → B ≤ b ∧ b < w.heap.size := fun j b hb => hfar b ((hz b).2 ⟨j, hb⟩)
  have noFi : ∀ b, ¬ Fs i b := hF.none_ i hn
  let Fs' : Nat → Nat → Prop := fun j b => if j = i then G b else Fs j b
  have hF' : BFam w lh lm (ms.set i (u, subs)) Fs' := by
    refine ⟨fun j m hj hm => ?_, fun j hj b hb => ?_, fun j k b hjk a1 a2 => ?_⟩
    · by_cases e : j = i
      · subst e
        rw [List.getElem?_set_self hi] at hj
        cases hj
        refine ⟨hpl, _, s0, s1, ⟨fun q hq => ?_, RS.sepF, RS.fresh, Nat.zero_le _⟩, sD, fun b => by show (if j = j then G b else Fs j b) ↔ G b; rw [if_pos rfl]⟩
        obtain ⟨l, a1, a2⟩ := RS.obj q hq
        refine ⟨l, a1, ?_⟩
        rw [hp_get] at hq a2 ⊢
        obtain ⟨o, ho, he⟩ := getD_some hq
        rw [he] at a2 ⊢
        refine a2.rebase ?_ fun _ _ => Nat.zero_le _
        match q with
        | 0 => cases ho; rfl
        | 1 => cases ho; rfl
        | q + 2 => exact plainL_mem hpl ho
      · rw [List.getElem?_set_ne (Ne.symm e)] at hj
        have := hF.at_ j m hj hm
        have e3 : Fs' j = Fs j := by funext b; exact if_neg e
        rw [e3]; exact this
    · by_cases e : j = i
      · subst e
        exact absurd (hj (u, subs) (List.getElem?_set_self hi)) hne
      · have hb' : Fs j b := by have : (if j = i then G b else Fs j b) := hb; rwa [if_neg e] at this
        refine hF.none_ j (fun m hm => hj m ?_) b hb'
        rw [List.getElem?_set_ne (Ne.symm e)]; exact hm
    · have a1' : (if j = i then G b else Fs j b) := a1
      have a2' : (if k = i then G b else Fs k b) := a2
      by_cases e : j = i
      · rw [if_pos e] at a1'
        rw [if_neg (fun e2 => hjk (e.trans e2.symm))] at a2'
        exact dG k b a2' a1'
      · rw [if_neg e] at a1'
        by_cases e2 : k = i
        · rw [if_pos e2] at a2'
          exact dG j b a1' a2'
        · rw [if_neg e2] at a2'
          exact hF.apart j k b hjk a1' a2'
  obtain ⟨sz', hsz'⟩ := bits_ex (fun b => ∃ j, Fs' j b) w.heap.size
  have hb' : ∀ j b, Fs' j b → B ≤ b ∧ b < w.heap.size := fun j b hb => by
    have hb2 : (if j = i then G b else Fs j b) := hb
    split at hb2
    · exact hbG b hb2
    · exact hbF j b hb2
  have hz' : ∀ b, sz'.testBit b = true ↔ ∃ j, Fs' j b := fun b => (hsz' b).trans ⟨fun h => h.2, fun ⟨j, h⟩ => ⟨(hb' j b h).2, j, h⟩⟩
  let ρ' : Rho := upd (rho SA ρ osA) osA.length ⟨0, 0, sz', 0⟩
  have frA : ∀ q l, rho SA ρ osA q = some l → q < osA.length := fun q l hq => by
    by_cases hq2 : q < osA.length
    · exact hq2
    · rw [(RA.fresh q (by rw [hp_n]; omega)).1] at hq; cases hq
  have m2 : ∀ q l, rho SA ρ osA q = some l → ρ' q = some l := fun q l hq => by
    show (if q = osA.length then _ else _) = _
    rw [if_neg (Nat.ne_of_lt (frA q l hq))]; exact hq
  have g1 : ∀ q, q < osA.length → (hp (osA ++ [.box T [1, 2] (BoxP (ms.set i (u, subs)))])).get q = (hp osA).get q := fun q hq => by rw [hp_get, hp_get, getD_app_lt hq]
  have gb : (hp (osA ++ [.box T [1, 2] (BoxP (ms.set i (u, subs)))])).get osA.length = .box T [1, 2] (BoxP (ms.set i (u, subs))) := by rw [hp_get, getD_app_ge (Nat.le_refl _)]; simp
  have hself : ρ' osA.length = some ⟨0, 0, sz', 0⟩ := if_pos rfl
  have hlt : ∀ q, q ≠ osA.length → ρ' q = rho SA ρ osA q := fun q hq => if_neg hq
  have boxR : ObjRel B ρ' w ⟨0, 0, sz', 0⟩ (.box T [1, 2] (BoxP (ms.set i (u, subs)))) := box_rel hF' hz' hb' (m2 1 lh (stab 1 lh (by omega) h1)) (m2 2 lm (stab 2 lm (by omega) h2))
  have fb : ∀ b, Foot ⟨0, 0, sz', 0⟩ (.box T [1, 2] (BoxP (ms.set i (u, subs)))) b → ∃ j l, ρ j = some l ∧ Foot l ((hp OS).get j) b ∧ j ∈ (q0 :: idsOf SS 0 (subO subs)) := fun b hb => by
    rcases hb with ⟨hb, _⟩ | ⟨_, hb⟩
    · exact hb.elim
    · obtain ⟨j, hj⟩ := (hz' b).1 hb
      have hj2 : (if j = i then G b else Fs j b) := hj
      split at hj2
      · obtain ⟨k, l, a1, a2, a3⟩ := hG b hj2
        exact ⟨k, l, a1, a2, List.mem_cons_of_mem _ a3⟩
      · exact ⟨q0, l0, hl0, far0 j b hj2, List.mem_cons_self ..⟩
  have cross : ∀ q l b, q < osA.length → rho SA ρ osA q = some l → Foot l ((hp osA).get q) b → Foot ⟨0, 0, sz', 0⟩ (.box T [1, 2] (BoxP (ms.set i (u, subs)))) b → False := fun q l b hq hl hf hb => by
    obtain ⟨j, l2, a1, a2, a3⟩ := fb b hb
    obtain ⟨k, _, c2, c3, c4⟩ := UA.foot hl hf
    exact h.sepF k j l l2 b (fun e => disjN_spec hdis k c4 (by rw [e]; exact a3)) c2 a1 c3 a2
  refine ⟨ρ', ⟨fun q hq => ?_, fun p q lp lq b hpq hp' hq' hf1 hf2 => ?_, fun q hq => ?_, h.bound⟩, fun q l hq hl => m2 q l (stab q l hq hl), fun b hb => ?_, fun xs hx => DenL.mono m2 (UA.den xs hx)⟩
  · rcases Nat.lt_trichotomy q osA.length with h3 | rfl | h3
    · rw [g1 q h3] at hq ⊢
      obtain ⟨l, a1, a2⟩ := RA.obj q hq
      exact ⟨l, m2 q l a1, a2.kept m2 (Kept.refl (fun _ => False) w) (fun _ _ h => h) fun _ h => h.elim⟩
    · rw [gb]; exact ⟨_, hself, boxR⟩
    · rw [hp_get] at hq
      simp only [List.getD] at hq
      rw [List.getElem?_eq_none (by simp; omega)] at hq
      exact absurd rfl hq
  · have lt_of : ∀ q l, ρ' q = some l → Foot l ((hp (osA ++ [.box T [1, 2] (BoxP (ms.set i (u, subs)))])).get q) b → (q < osA.length ∧ rho SA ρ osA q = some l ∧ Foot l ((hp osA).get q) b) ∨ (q = osA.length ∧ Foot ⟨0, 0, sz', 0⟩ (.box T [1, 2] (BoxP (ms.set i (u, subs)))) b) := fun q l hl hf => by
      rcases Nat.lt_trichotomy q osA.length with h3 | rfl | h3
      · rw [g1 q h3] at hf
        rw [hlt q (by omega)] at hl
        exact .inl ⟨h3, hl, hf⟩
      · rw [gb] at hf
        rw [hself] at hl; cases hl
        exact .inr ⟨rfl, hf⟩
      · rw [hlt q (by omega)] at hl
        have := frA q l hl; omega
    rcases lt_of p lp hp' hf1 with ⟨a1, a2, a3⟩ | ⟨rfl, a2⟩
    · rcases lt_of q lq hq' hf2 with ⟨b1, b2, b3⟩ | ⟨rfl, b2⟩
      · exact RA.sepF p q lp lq b hpq a2 b2 a3 b3
      · exact cross p lp b a1 a2 a3 b2
    · rcases lt_of q lq hq' hf2 with ⟨b1, b2, b3⟩ | ⟨rfl, b2⟩
      · exact cross q lq b b1 b2 b3 a2
      · exact hpq rfl
  · rw [hp_n] at hq
    have hq2 : osA.length + 1 ≤ q := by simpa using hq
    refine ⟨?_, ?_⟩
    · rw [hlt q (by omega)]; exact (RA.fresh q (by rw [hp_n]; omega)).1
    · rw [hp_get]; simp only [List.getD]; rw [List.getElem?_eq_none (by simp; omega)]; rfl
  · obtain ⟨q, l, hl, hf⟩ := hb
    rcases Nat.lt_trichotomy q osA.length with h3 | rfl | h3
    · rw [g1 q h3] at hf
      rw [hlt q (by omega)] at hl
      obtain ⟨k, _, c2, c3, _⟩ := UA.foot hl hf
      exact ⟨k, l, c2, c3⟩
    · rw [gb] at hf
      rw [hself] at hl; cases hl
      obtain ⟨j, l2, a1, a2, _⟩ := fb b hf
      exact ⟨j, l2, a1, a2⟩
    · rw [hlt q (by omega)] at hl
      have := frA q l hl; omega
end
/-- A contract over other words for what lies there; of where it lies something may be known, and is known behind it. -/
theorem Tri.ghost2 {α : Type} {E : Env} {f : FuncId} {args : List AV} {os os' : List AObj} {v : AV} (args2 : α → List AV) (os2 os2' : α → List AObj) (v2 : α → AV) (F : α → Rho → Prop) (en : ∀ xs w, (callFunc f xs).run E.P w = .ok (.enter f xs) w)
    (pre : ∀ B ρ w vs, RelH B ρ (hp os) w → DenL ρ args vs → ∃ x ρ2, RelH B ρ2 (hp (os2 x)) w ∧ DenL ρ2 (args2 x) vs ∧ F x ρ2 ∧ (∀ q l, ρ q = some l → ρ2 q = some l) ∧ ∀ b, Blks ρ2 (hp (os2 x)) b → Blks ρ (hp os) b)
    (Fm : ∀ x ρ ρ', (∀ q l, q < (os2 x).length → ρ q = some l → ρ' q = some l) → F x ρ → F x ρ')
    (hl : ∀ x, os.length ≤ (os2 x).length) (T : ∀ x, Tri E f (args2 x) (os2 x) (v2 x) (os2' x))
    (post : ∀ x B ρ w, F x ρ → RelH B ρ (hp (os2' x)) w → ∃ ρ', RelH B ρ' (hp os') w ∧ (∀ q l, q < os.length → ρ q = some l → ρ' q = some l) ∧ (∀ b, Blks ρ' (hp os') b → Blks ρ (hp (os2' x)) b) ∧ ∀ u, Den ρ (v2 x) u → Den ρ' v u) : Tri E f args os v os' := by
  refine ⟨en, fun B ρ w vs hH hg hd => ?_⟩
  obtain ⟨x, ρ2, h1, hd2, hF, h2, h3⟩ := pre B ρ w vs hH hd
  refine ((T x).run B ρ2 w vs h1 hg hd2).mono fun e w' hp' => ?_
  obtain ⟨ρ', u, rfl, hv, hr, hk, hb, hs⟩ := hp'
  obtain ⟨ρ3, q1, q2, q3, q4⟩ := post x B ρ' w' (Fm x ρ2 ρ' (fun q l hq hl' => hs q l hq hl') hF) hr
  exact ⟨ρ3, u, rfl, q4 u hv, q1, hk.mono h3, fun b hb' => (hb b (q3 b hb')).imp (h3 b) (fun h => h), fun i l hi hl' => q2 i l hi (hs i l (Nat.lt_of_lt_of_le hi (hl x)) (h2 i l hl'))⟩
end Go.Proofs.YtnheodgffackoaaDoor.E
