/- The engine: boxes: empty; with a member that came just now; a turn at a loop's head that names what came. -/
import Derived.Test.YtnheodgffackoaaDoorEy
import Derived.Test.YtnheodgffackoaaDoorEw
namespace Go.Proofs.YtnheodgffackoaaDoor.E
set_option linter.unusedSimpArgs false
set_option linter.unusedVariables false
open Go
def ptrL (l : Loc) : Value := .pointer (some ⟨l.blk, l.base + 0 * l.sz + 0, none⟩)
/-- A box, and a member more, to which the third object points. -/
def BoxN (ms : List BMem) (subs : List AObj) (ls : List Loc) (w : World) (sz : Nat) : Prop := ∃ lh lm lc, ls = [lh, lm, lc] ∧ BoxP (ms ++ [(ptrL lc, subs)]) [lh, lm] w sz
section
variable {ρ ρ' : Rho} {w w' : World} {B : Nat} {H : Hp}
/-- A box says another thing of what is in it. -/
theorem RelH.reBox (h : RelH B ρ H w) {q T T' : Nat} {ids ids' : List Nat} {P P' : List Loc → World → Nat → Prop} (hq : H.get q = .box T ids P) (hn : ∀ l, ρ q = some l → ObjRel B ρ w l (.box T ids P) → ObjRel B ρ w l (.box T' ids' P')) :
    RelH B ρ (H.set q (.box T' ids' P')) w ∧ ∀ b, Blks ρ (H.set q (.box T' ids' P')) b → Blks ρ H b := by
  have hf : ∀ j l b, Foot l ((H.set q (.box T' ids' P')).get j) b → Foot l (H.get j) b := fun j l b hb => by
    rw [get_set] at hb
    by_cases e : j = q
    · rw [if_pos e] at hb
      rw [e, hq]
      rcases hb with ⟨hb, _⟩ | ⟨_, hb⟩
      · exact hb.elim
      · exact .inr ⟨rfl, hb⟩
    · rw [if_neg e] at hb; exact hb
  have hlt : q < H.n := by
    apply Classical.byContradiction
    intro hn2
    have := (h.fresh q (by omega)).2
    rw [hq] at this; cases this
  refine ⟨h.weak rfl (fun j hj => ?_) (fun j hj => ?_), fun b hb => Blks.weak (fun j l b _ hb => hf j l b hb) hb⟩
  · rw [get_set] at hj ⊢
    by_cases e : j = q
    · rw [if_pos e] at hj ⊢
      obtain ⟨l, h1, h2⟩ := h.obj q (by rw [hq]; simp)
      rw [hq] at h2
      refine ⟨l, by rw [e]; exact h1, hn l h1 h2, fun b hb => ?_⟩
      rw [e, hq]
      rcases hb with ⟨hb, _⟩ | ⟨_, hb⟩
      · exact hb.elim
      · exact .inr ⟨rfl, hb⟩
    · rw [if_neg e] at hj ⊢
      obtain ⟨l, h1, h2⟩ := h.obj j hj
      exact ⟨l, h1, h2, fun b hb => hb⟩
  · rw [get_set, if_neg (by omega)]
    exact (h.fresh j hj).2
theorem bfam_more {lh lm : Loc} {ms : List BMem} {Fs : Nat → Nat → Prop} (h : BFam w lh lm ms Fs) (x : Value) : BFam w lh lm (ms ++ [(x, [])]) Fs := by
  refine ⟨fun i m hi hm => ?_, fun i hi => ?_, h.apart⟩
  · rw [List.getElem?_append] at hi
    split at hi
    · exact h.at_ i m hi hm
    · cases hj : i - ms.length with
      | zero => rw [hj] at hi; cases hi; exact absurd rfl hm
      | succ k => rw [hj] at hi; simp at hi
  · refine h.none_ i fun m hm => hi m ?_
    rw [List.getElem?_append_left (List.getElem?_eq_some_iff.1 hm).1]; exact hm
theorem boxP_more {ms : List BMem} {ls : List Loc} {sz : Nat} (h : BoxP ms ls w sz) (x : Value) : BoxP (ms ++ [(x, [])]) ls w sz := by
  obtain ⟨lh, lm, Fs, h1, h2, h3⟩ := h
  exact ⟨lh, lm, Fs, h1, bfam_more h2 x, h3⟩
theorem RelH.moreB (h : RelH B ρ H w) {q T a b : Nat} {ms : List BMem} (hq : H.get q = .box T [a, b] (BoxP ms)) (x : Value) : RelH B ρ (H.set q (.box T [a, b] (BoxP (ms ++ [(x, [])])))) w ∧ ∀ c, Blks ρ (H.set q (.box T [a, b] (BoxP (ms ++ [(x, [])])))) c → Blks ρ H c :=
  h.reBox hq fun l _ ho => by
    obtain ⟨h1, ls, h2, h3, h4⟩ := ho
    exact ⟨h1, ls, h2, boxP_more h3 x, fun w' hk => boxP_more (h4 w' hk) x⟩
/-- What came just now is named by where it lies. -/
theorem RelH.unname (h : RelH B ρ H w) {q T a b k : Nat} {ms : List BMem} {x : Value} {subs : List AObj} {l : Loc} (hq : H.get q = .box T [a, b] (BoxP (ms ++ [(x, subs)]))) (hk : ρ k = some l) (hx : x = ptrL l) :
    RelH B ρ (H.set q (.box T [a, b, k] (BoxN ms subs))) w ∧ ∀ c, Blks ρ (H.set q (.box T [a, b, k] (BoxN ms subs))) c → Blks ρ H c :=
  h.reBox hq fun l' _ ho => by
    subst hx
    obtain ⟨h1, ls, h2, h3, h4⟩ := ho
    match ls, h2 with
    | [lh, lm], h2 => exact ⟨h1, [lh, lm, l], ⟨h2.1, h2.2.1, hk, trivial⟩, ⟨lh, lm, l, rfl, h3⟩, fun w' hkk => ⟨lh, lm, l, rfl, h4 w' hkk⟩⟩
/-- .. and so named, it is a value. -/
theorem RelH.name (h : RelH B ρ H w) {q T a b k : Nat} {ms : List BMem} {subs : List AObj} (hq : H.get q = .box T [a, b, k] (BoxN ms subs)) :
    ∃ x, isP x = true ∧ nilP x = false ∧ (∀ v, Den ρ (.ptr k 0 0) v ↔ v = x) ∧ RelH B ρ (H.set q (.box T [a, b] (BoxP (ms ++ [(x, subs)])))) w ∧ ∀ c, Blks ρ (H.set q (.box T [a, b] (BoxP (ms ++ [(x, subs)])))) c → Blks ρ H c := by
  obtain ⟨l, h1, h2⟩ := h.obj q (by rw [hq]; simp)
  rw [hq] at h2
  obtain ⟨_, ls, h3, _⟩ := h2
  match ls, h3 with
  | [lh, lm, lc], h3 =>
    refine ⟨ptrL lc, rfl, rfl, fun v => ⟨fun ⟨l2, h4, h5⟩ => ?_, fun h4 => ⟨lc, h3.2.2.1, h4⟩⟩, h.reBox hq fun l' hl' ho => ?_⟩
    · rw [h3.2.2.1] at h4; cases h4; exact h5
    · obtain ⟨f1, ls', f2, f3, f4⟩ := ho
      match ls', f2 with
      | [lh', lm', lc'], f2 =>
        have e : lc' = lc := by have := f2.2.2.1; rw [h3.2.2.1] at this; exact (Option.some.inj this).symm
        subst e
        refine ⟨f1, [lh', lm'], ⟨f2.1, f2.2.1, trivial⟩, ?_, fun w' hk => ?_⟩
        · obtain ⟨_, _, _, e, r⟩ := f3; cases e; exact r
        · obtain ⟨_, _, _, e, r⟩ := f4 w' hk; cases e; exact r
/-- A box with nothing in it. -/
theorem RelH.emptyB {os : List AObj} (h : RelH B ρ (hp os) w) {T a b : Nat} (ha : (hp os).get a ≠ .gone) (hb : (hp os).get b ≠ .gone) :
    ∃ ρ', RelH B ρ' (hp (os ++ [.box T [a, b] (BoxP [])])) w ∧ (∀ q l, ρ q = some l → ρ' q = some l) ∧ ∀ c, Blks ρ' (hp (os ++ [.box T [a, b] (BoxP [])])) c → Blks ρ (hp os) c := by
  obtain ⟨la, ha1, _⟩ := h.obj a ha
  obtain ⟨lb, hb1, _⟩ := h.obj b hb
  have fr : ∀ q l, ρ q = some l → q < os.length := fun q l hq => by
    by_cases hq2 : q < os.length
    · exact hq2
    · rw [(h.fresh q (by rw [hp_n]; omega)).1] at hq; cases hq
  have m2 : ∀ q l, ρ q = some l → upd ρ os.length ⟨0, 0, 0, 0⟩ q = some l := fun q l hq => by
    show (if q = os.length then _ else _) = _
    rw [if_neg (Nat.ne_of_lt (fr q l hq))]; exact hq
  have g1 : ∀ q, q < os.length → (hp (os ++ [.box T [a, b] (BoxP [])])).get q = (hp os).get q := fun q hq => by rw [hp_get, hp_get, getD_app_lt hq]
  have gb : (hp (os ++ [.box T [a, b] (BoxP [])])).get os.length = .box T [a, b] (BoxP []) := by rw [hp_get, getD_app_ge (Nat.le_refl _)]; simp
  have hno : ∀ c, ¬ Foot ⟨0, 0, 0, 0⟩ (.box T [a, b] (BoxP [])) c := fun c hc => by
    rcases hc with ⟨hc, _⟩ | ⟨_, hc⟩
    · exact hc.elim
    · simp [Far] at hc
  have hlt : ∀ q, q ≠ os.length → upd ρ os.length ⟨0, 0, 0, 0⟩ q = ρ q := fun q hq => if_neg hq
  have ft : ∀ q l c, upd ρ os.length ⟨0, 0, 0, 0⟩ q = some l → Foot l ((hp (os ++ [.box T [a, b] (BoxP [])])).get q) c → q < os.length ∧ ρ q = some l ∧ Foot l ((hp os).get q) c := fun q l c hq hf => by
    rcases Nat.lt_trichotomy q os.length with h3 | rfl | h3
    · rw [g1 q h3] at hf; rw [hlt q (by omega)] at hq; exact ⟨h3, hq, hf⟩
    · rw [gb] at hf
      have e : upd ρ os.length ⟨0, 0, 0, 0⟩ os.length = some ⟨0, 0, 0, 0⟩ := if_pos rfl
      rw [e] at hq; cases hq
      exact absurd hf (hno c)
    · rw [hlt q (by omega)] at hq; have := fr q l hq; omega
  refine ⟨upd ρ os.length ⟨0, 0, 0, 0⟩, ⟨fun q hq => ?_, fun p q lp lq c hpq hp' hq' hf1 hf2 => ?_, fun q hq => ?_, h.bound⟩, m2, fun c ⟨q, l, hq, hf⟩ => ?_⟩
  · rcases Nat.lt_trichotomy q os.length with h3 | rfl | h3
    · rw [g1 q h3] at hq ⊢
      obtain ⟨l, a1, a2⟩ := h.obj q hq
      exact ⟨l, m2 q l a1, a2.kept m2 (Kept.refl (fun _ => False) w) (fun _ _ h => h) fun _ h => h.elim⟩
    · rw [gb]
      refine ⟨_, if_pos rfl, box_rel (Fs := fun _ _ => False) ⟨fun i m hi => by simp at hi, fun _ _ _ h => h, fun _ _ _ _ h => h.elim⟩ (fun c => by simp) (fun _ _ h => h.elim) (m2 a la ha1) (m2 b lb hb1)⟩
    · rw [hp_get] at hq
      simp only [List.getD] at hq
      rw [List.getElem?_eq_none (by simp; omega)] at hq
      exact absurd rfl hq
  · obtain ⟨a1, a2, a3⟩ := ft p lp c hp' hf1
    obtain ⟨b1, b2, b3⟩ := ft q lq c hq' hf2
    exact h.sepF p q lp lq c hpq a2 b2 a3 b3
  · rw [hp_n] at hq
    have hq2 : os.length + 1 ≤ q := by simpa using hq
    refine ⟨?_, ?_⟩
    · rw [hlt q (by omega)]; exact (h.fresh q (by rw [hp_n]; omega)).1
    · rw [hp_get]; simp only [List.getD]; rw [List.getElem?_eq_none (by simp; omega)]; rfl
  · obtain ⟨a1, a2, a3⟩ := ft q l c hq hf
    exact ⟨q, l, a2, a3⟩
end
/-- A turn between two steps: what lies there, and what is in the slots, is told in other words. -/
theorem Goods.turn2 {α : Type} {G : Frm} {todo : List Item} {tm : Tm} {tm' : α → Tm} {os : List AObj} {os' : α → List AObj} {Q : α → Prop} (h : ∀ x, Q x → Goods G ⟨.none, todo, tm' x, hp (os' x)⟩)
    (hs : ∀ B ρ w, RelH B ρ (hp os) w → ∃ x ρ', Q x ∧ RelH B ρ' (hp (os' x)) w ∧ (∀ q l, ρ q = some l → ρ' q = some l) ∧ (∀ b, Blks ρ' (hp (os' x)) b → Blks ρ (hp os) b) ∧ ∀ t v, Den ρ (look .any tm t) v → Den ρ' (look .any (tm' x) t) v) : Goods G ⟨.none, todo, tm, hp os⟩ := by
  intro B ρ0 w0 ρ a w hi ht ha
  obtain ⟨x, ρ', hQ, h1, h2, h3, h4⟩ := hs _ ρ w hi.rel
  exact h x hQ B ρ0 w0 ρ' a w ⟨h1, hi.kept, fun q hq => hi.own q (h3 q hq), fun i l h4 h5 => h2 i l (hi.stable i l h4 h5), hi.glob⟩ (fun t => h4 t _ (ht t)) ha
/-- Slots in which the pointer that came just now stands, named. -/
def nameV (k : Nat) (x : Value) : AV → AV
  | .ptr i 0 0 => match Nat.beq i k with
    | true => .raw x
    | false => .ptr i 0 0
  | v => v
def nameT (k : Nat) (x : Value) : Tm → Tm
  | [] => []
  | (t, v) :: l => (t, nameV k x v) :: nameT k x l
theorem den_nameV {ρ : Rho} {k : Nat} {x : Value} (hx : ∀ v, Den ρ (.ptr k 0 0) v ↔ v = x) : ∀ (a : AV) (v : Value), Den ρ a v → Den ρ (nameV k x a) v := by
  intro a v h
  unfold nameV
  split
  · split
    · rename_i hb
      obtain rfl := Nat.eq_of_beq_eq_true hb
      exact (hx v).1 h
    · exact h
  · exact h
theorem look_nameT {ρ : Rho} {k : Nat} {x : Value} (hx : ∀ v, Den ρ (.ptr k 0 0) v ↔ v = x) : ∀ (tm : Tm) (t : Nat) (v : Value), Den ρ (look .any tm t) v → Den ρ (look .any (nameT k x tm) t) v
  | [], _, _, h => h
  | (i, a) :: tm, t, v, h => by
    rw [look_cons] at h
    show Den ρ (look .any ((i, nameV k x a) :: nameT k x tm) t) v
    rw [look_cons]
    split
    · rename_i e; rw [if_pos e] at h; exact den_nameV hx a v h
    · rename_i e; rw [if_neg e] at h; exact look_nameT hx tm t v h
theorem hp_set {os : List AObj} {q : Nat} {o : AObj} {B : Nat} {ρ : Rho} {w : World} (hq : q < os.length) (h : RelH B ρ ((hp os).set q o) w) : RelH B ρ (hp (os.set q o)) w ∧ ∀ b, Blks ρ (hp (os.set q o)) b → Blks ρ ((hp os).set q o) b := by
  have hg : ∀ i, (hp (os.set q o)).get i = ((hp os).set q o).get i := fun i => by
    rw [get_set, hp_get, hp_get]
    simp only [List.getD, List.getElem?_set]
    by_cases e : i = q
    · rw [if_pos e.symm, if_pos hq, if_pos e]; rfl
    · rw [if_neg (fun h => e h.symm), if_neg e]
  exact ⟨h.ext hg (by show len (os.set q o) = len os; rw [len_eq, len_eq, List.length_set]), fun b hb => Blks.ext hg hb⟩
/-- What came just now is a value from now on. -/
theorem Goods.name {G : Frm} {todo : List Item} {tm : Tm} {os : List AObj} {q j T a b k wk : Nat} {ms : List BMem} {subs : List AObj} {us1 us2 : List Value} (hq : (hp os).get q = .box T [a, b, k] (BoxN ms subs)) (hj : (hp os).get j = .mix wk (fun x y => x = us1 ∧ y = us2) (.ptr k 0 0))
    (h : ∀ x, isP x = true → nilP x = false → Goods G ⟨.none, todo, nameT k x tm, hp ((os.set j (.tab true .raw (us1 ++ x :: us2))).set q (.box T [a, b] (BoxP (ms ++ [(x, subs)]))))⟩) : Goods G ⟨.none, todo, tm, hp os⟩ := by
  have lt_of : ∀ i, (hp os).get i ≠ .gone → i < os.length := fun i hi => by
    apply Classical.byContradiction
    intro hn
    rw [hp_get] at hi
    simp only [List.getD] at hi
    rw [List.getElem?_eq_none (by omega)] at hi
    exact hi rfl
  have hql := lt_of q (by rw [hq]; simp)
  have hjl := lt_of j (by rw [hj]; simp)
  have hqj : q ≠ j := by rintro rfl; rw [hq] at hj; cases hj
  refine Goods.turn2 (Q := fun x => isP x = true ∧ nilP x = false) (tm' := fun x => nameT k x tm) (fun x hx => h x hx.1 hx.2) fun B ρ w hR => ?_
  obtain ⟨x, x1, x2, x3, _, _⟩ := hR.name hq
  have hjo := hR.obj j (by rw [hj]; simp)
  obtain ⟨l, l1, l2⟩ := hjo
  rw [hj] at l2
  obtain ⟨us, u, ws, z1, ⟨rfl, rfl⟩, hd, z2, z3, z4, z5⟩ := l2
  obtain rfl := (x3 u).1 hd
  have r1 := hR.as (o := .tab true .raw (us ++ u :: ws)) l1 (by rw [hj]; simp) ⟨z2, z3, z4, z5⟩ (fun hh => by rw [hj]; exact hh)
  obtain ⟨r2, b2⟩ := hp_set hjl r1
  have b1 : ∀ c, Blks ρ ((hp os).set j (.tab true .raw (us ++ u :: ws))) c → Blks ρ (hp os) c := fun c hc => Blks.as l1 (fun hh => by rw [hj]; exact hh) hc
  have hq2 : (hp (os.set j (.tab true .raw (us ++ u :: ws)))).get q = .box T [a, b, k] (BoxN ms subs) := by
    rw [hp_get] at hq ⊢
    simp only [List.getD] at hq ⊢
    rw [List.getElem?_set_ne (Ne.symm hqj)]; exact hq
  obtain ⟨x', _, _, y3, y4, y5⟩ := r2.name hq2
  have hxx : x' = u := (x3 x').1 ((y3 x').2 rfl)
  subst hxx
  obtain ⟨r3, b3⟩ := hp_set (by rw [List.length_set]; exact hql) y4
  exact ⟨x', ρ, ⟨x1, x2⟩, r3, fun _ _ h => h, fun c hc => b1 c (b2 c (y5 c (b3 c hc))), fun t v hv => look_nameT x3 tm t v hv⟩
end Go.Proofs.YtnheodgffackoaaDoor.E
