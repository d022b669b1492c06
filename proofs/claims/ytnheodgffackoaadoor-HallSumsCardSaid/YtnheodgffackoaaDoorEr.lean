/- The engine: between two steps, an object is known better. -/
import Derived.Test.YtnheodgffackoaaDoorEn
namespace Go.Proofs.YtnheodgffackoaaDoor.E
set_option linter.unusedSimpArgs false
set_option linter.unusedVariables false
open Go
theorem hp_get_mid (a b : List AObj) (x o : AObj) (i : Nat) : (hp (a ++ x :: b)).get i = ((hp (a ++ o :: b)).set a.length x).get i := by
  rw [get_set, hp_get, hp_get]
  simp only [List.getD, List.getElem?_append]
  by_cases h1 : i < a.length
  · rw [if_pos h1, if_neg (by omega), if_pos h1]
  · rw [if_neg h1, if_neg h1]
    by_cases h2 : i = a.length
    · subst h2; simp
    · obtain ⟨j, hj⟩ : ∃ j, i - a.length = j + 1 := ⟨i - a.length - 1, by omega⟩
      rw [if_neg h2, hj]; rfl
theorem RelH.ext {B : Nat} {ρ : Rho} {H H' : Hp} {w : World} (h : RelH B ρ H w) (hg : ∀ i, H'.get i = H.get i) (hn : H'.n = H.n) : RelH B ρ H' w :=
  ⟨fun i hi => by rw [hg] at hi ⊢; exact h.obj i hi, fun i j li lj q hij h1 h2 h3 h4 => by rw [hg] at h3 h4; exact h.sepF i j li lj q hij h1 h2 h3 h4, fun i hi => by rw [hn] at hi; rw [hg]; exact h.fresh i hi, h.bound⟩
theorem Blks.ext {ρ : Rho} {H H' : Hp} (hg : ∀ i, H'.get i = H.get i) {b : Nat} (hb : Blks ρ H' b) : Blks ρ H b := by
  obtain ⟨i, l, h1, h2⟩ := hb
  rw [hg] at h2
  exact ⟨i, l, h1, h2⟩
/-- One object in a row says another thing. -/
theorem RelH.mid {B : Nat} {ρ : Rho} {w : World} {a b : List AObj} {o x : AObj} {l : Loc} (h : RelH B ρ (hp (a ++ o :: b)) w) (hl : ρ a.length = some l) (hne : o ≠ .gone) (hx : ObjRel B ρ w l x) (hO : Owned l x → Owned l o) (hnb : isBig x = false := by rfl) :
    RelH B ρ (hp (a ++ x :: b)) w ∧ ∀ q, Blks ρ (hp (a ++ x :: b)) q → Blks ρ (hp (a ++ o :: b)) q := by
  have h0 : (hp (a ++ o :: b)).get a.length = o := by rw [hp_get]; simp [List.getD]
  have hO' : Owned l x → Owned l ((hp (a ++ o :: b)).get a.length) := by rw [h0]; exact hO
  have h1 := h.as hl (by rw [h0]; exact hne) hx hO' hnb
  exact ⟨h1.ext (hp_get_mid a b x o) (by rw [hp_n]; show _ = (hp (a ++ o :: b)).n; rw [hp_n]; simp), fun q hq => Blks.as hl hO' (Blks.ext (hp_get_mid a b x o) hq) hnb⟩
/-- Which entry came: any one that hadn't come. -/
theorem Goods.pick {G : Frm} {todo : List Item} {tm : Tm} {a b : List AObj} {id c : Nat} {seen bs : List Nat} (h : ∀ e, e ∈ bs → e ∉ seen → Goods G ⟨.none, todo, tm, hp (a ++ .iter id c (seen ++ [e]) :: b)⟩) :
    Goods G ⟨.none, todo, tm, hp (a ++ .iterX id c seen bs :: b)⟩ := by
  intro B ρ0 w0 ρ act w hi ht ha
  have h0 : (hp (a ++ .iterX id c seen bs :: b)).get a.length = .iterX id c seen bs := by rw [hp_get]; simp [List.getD]
  obtain ⟨l, hl, ho⟩ := hi.rel.obj a.length (by rw [h0]; simp)
  rw [h0] at ho
  obtain ⟨h1, h2, lm, s, e, h3, h4, h5, h6, h7⟩ := ho
  obtain ⟨q1, q2⟩ := hi.rel.mid (x := .iter id c (seen ++ [e])) hl (by simp) ⟨h1, h2, lm, s, h3, h4, h5⟩ (fun h => h)
  exact h e h6 h7 B ρ0 w0 ρ act w ⟨q1, hi.kept, fun q hq => hi.own q (q2 q hq), hi.stable, hi.glob⟩ ht ha
/-- A row of one-cell elements: one of them is known, as what it is. -/
theorem Goods.forget {G : Frm} {todo : List Item} {tm : Tm} {a b : List AObj} {us : List Value} {v : AV} (h : ∀ u, Goods G ⟨.none, todo, tm, hp (a ++ .tab true .raw (us ++ [u]) :: b)⟩) :
    Goods G ⟨.none, todo, tm, hp (a ++ .mix us.length (fun x y => x = us ∧ y = []) v :: b)⟩ := by
  intro B ρ0 w0 ρ act w hi ht ha
  have h0 : (hp (a ++ .mix us.length (fun x y => x = us ∧ y = []) v :: b)).get a.length = .mix us.length (fun x y => x = us ∧ y = []) v := by rw [hp_get]; simp [List.getD]
  obtain ⟨l, hl, ho⟩ := hi.rel.obj a.length (by rw [h0]; simp)
  rw [h0] at ho
  obtain ⟨us', u, ws, _, ⟨rfl, rfl⟩, _, h1⟩ := ho
  obtain ⟨q1, q2⟩ := hi.rel.mid (x := .tab true .raw (us' ++ [u])) hl (by simp) h1 (fun h => h)
  exact h u B ρ0 w0 ρ act w ⟨q1, hi.kept, fun q hq => hi.own q (q2 q hq), hi.stable, hi.glob⟩ ht ha
theorem Goods.weaken {G : Frm} {todo : List Item} {tm : Tm} {a b : List AObj} {k : Nat} {P Q : List Value → List Value → Prop} {v : AV} (hPQ : ∀ x y, P x y → Q x y) (h : Goods G ⟨.none, todo, tm, hp (a ++ .mix k Q v :: b)⟩) : Goods G ⟨.none, todo, tm, hp (a ++ .mix k P v :: b)⟩ := by
  intro B ρ0 w0 ρ act w hi ht ha
  have h0 : (hp (a ++ .mix k P v :: b)).get a.length = .mix k P v := by rw [hp_get]; simp [List.getD]
  obtain ⟨l, hl, ho⟩ := hi.rel.obj a.length (by rw [h0]; simp)
  rw [h0] at ho
  obtain ⟨us', u, ws, h1, h2, h3⟩ := ho
  obtain ⟨q1, q2⟩ := hi.rel.mid (x := .mix k Q v) hl (by simp) ⟨us', u, ws, h1, hPQ _ _ h2, h3⟩ (fun h => h)
  exact h B ρ0 w0 ρ act w ⟨q1, hi.kept, fun q hq => hi.own q (q2 q hq), hi.stable, hi.glob⟩ ht ha
theorem Goods.room0 {G : Frm} {todo : List Item} {tm : Tm} {os : List AObj} (k : K) (h : Goods G ⟨.none, todo, tm, hp (os ++ [.tab true k []])⟩) : Goods G ⟨.none, todo, tm, hp os⟩ := by
  intro B ρ0 w0 ρ a w hi ht ha
  have hm := upd_mono hi.rel ⟨0, 0, k.size, 0⟩
  rw [hp_n] at hm
  exact h B ρ0 w0 (upd ρ os.length ⟨0, 0, k.size, 0⟩) a w ⟨hi.rel.room0 k, hi.kept, fun b hb => hi.own b (Blks.room0 hi.rel k hb), fun i l h1 h2 => hm i l (hi.stable i l h1 h2), hi.glob⟩ (fun t => (ht t).mono hm) ha
/-- A slice that is nil, in a cell, at a loop's head: a row without elements, which may grow. -/
theorem Goods.nilCell {G : Frm} {todo : List Item} {tm : Tm} {pre post : List AObj} {cp cq : List AV} (k : K) (h : Goods G ⟨.none, todo, tm, hp ((pre ++ .cells (cp ++ .slice (pre.length + (post.length + 1)) 0 0 :: cq) :: post) ++ [.tab true k []])⟩) :
    Goods G ⟨.none, todo, tm, hp (pre ++ .cells (cp ++ .nilslice :: cq) :: post)⟩ := by
  intro B ρ0 w0 ρ a w hi ht ha
  have hn : (pre ++ AObj.cells (cp ++ .nilslice :: cq) :: post).length = pre.length + (post.length + 1) := by simp
  have hm := upd_mono hi.rel ⟨0, 0, k.size, 0⟩
  rw [hp_n] at hm
  have h0 := hi.rel.room0 k
  have hb0 := fun b => Blks.room0 hi.rel k (b := b)
  rw [List.append_assoc, List.cons_append] at h0
  have hget : (hp (pre ++ AObj.cells (cp ++ .nilslice :: cq) :: (post ++ [.tab true k []]))).get pre.length = .cells (cp ++ .nilslice :: cq) := by rw [hp_get]; simp [List.getD]
  obtain ⟨l, hl, ho⟩ := h0.obj pre.length (by rw [hget]; simp)
  rw [hget] at ho
  obtain ⟨h1, h2, bc, t, h3, h4⟩ := ho
  obtain ⟨q1, q2⟩ := h0.mid (x := .cells (cp ++ .slice (pre.length + (post.length + 1)) 0 0 :: cq)) hl (by simp) ⟨h1, h2, bc, t, h3, denL_nil0 (by rw [← hn]; exact upd_self ..) h4⟩ (fun h => h)
  have e : (pre ++ AObj.cells (cp ++ .slice (pre.length + (post.length + 1)) 0 0 :: cq) :: post) ++ [.tab true k []] = pre ++ AObj.cells (cp ++ .slice (pre.length + (post.length + 1)) 0 0 :: cq) :: (post ++ [.tab true k []]) := by rw [List.append_assoc, List.cons_append]
  have e' : (pre ++ AObj.cells (cp ++ .nilslice :: cq) :: post) ++ [.tab true k []] = pre ++ AObj.cells (cp ++ .nilslice :: cq) :: (post ++ [.tab true k []]) := by rw [List.append_assoc, List.cons_append]
  rw [e] at h
  rw [e'] at hb0
  exact h B ρ0 w0 _ a w ⟨q1, hi.kept, fun b hb => hi.own b (hb0 b (q2 b hb)), fun i l h1 h2 => hm i l (hi.stable i l h1 h2), hi.glob⟩ (fun t => (ht t).mono hm) ha
/-- Of a row of nil slices one is known: a row without elements, which may grow. -/
theorem Goods.nilMix {G : Frm} {todo : List Item} {tm : Tm} {pre post : List AObj} {n j : Nat} (k : K) (hj : j < n) (h : Goods G ⟨.none, todo, tm, hp ((pre ++ .mix j (fun _ _ => True) (.slice (pre.length + (post.length + 1)) 0 0) :: post) ++ [.tab true k []])⟩) :
    Goods G ⟨.none, todo, tm, hp (pre ++ .tab true .raw (List.replicate n (.slice none 0 0)) :: post)⟩ := by
  intro B ρ0 w0 ρ a w hi ht ha
  have hn : (pre ++ AObj.tab true .raw (List.replicate n (Value.slice none 0 0)) :: post).length = pre.length + (post.length + 1) := by simp
  have hm := upd_mono hi.rel ⟨0, 0, k.size, 0⟩
  rw [hp_n] at hm
  have h0 := hi.rel.room0 k
  have hb0 := fun b => Blks.room0 hi.rel k (b := b)
  rw [List.append_assoc, List.cons_append] at h0
  have hget : (hp (pre ++ AObj.tab true .raw (List.replicate n (Value.slice none 0 0)) :: (post ++ [.tab true k []]))).get pre.length = .tab true .raw (List.replicate n (Value.slice none 0 0)) := by rw [hp_get]; simp [List.getD]
  obtain ⟨l, hl, ho⟩ := h0.obj pre.length (by rw [hget]; simp)
  rw [hget] at ho
  have er : List.replicate n (Value.slice none 0 0) = List.replicate j (Value.slice none 0 0) ++ Value.slice none 0 0 :: List.replicate (n - j - 1) (Value.slice none 0 0) := by
    obtain ⟨m, rfl⟩ : ∃ m, n = j + (m + 1) := ⟨n - j - 1, by omega⟩
    rw [← List.replicate_append_replicate, List.replicate_succ, show j + (m + 1) - j - 1 = m by omega]
  rw [er] at ho
  obtain ⟨q1, q2⟩ := h0.mid (x := .mix j (fun _ _ => True) (.slice (pre.length + (post.length + 1)) 0 0)) hl (by simp) ⟨_, _, _, List.length_replicate, trivial, den_nil0 (by rw [← hn]; exact upd_self ..), ho⟩ (fun h => h)
  have e : (pre ++ AObj.mix j (fun _ _ => True) (.slice (pre.length + (post.length + 1)) 0 0) :: post) ++ [.tab true k []] = pre ++ AObj.mix j (fun _ _ => True) (.slice (pre.length + (post.length + 1)) 0 0) :: (post ++ [.tab true k []]) := by rw [List.append_assoc, List.cons_append]
  have e' : (pre ++ AObj.tab true .raw (List.replicate n (Value.slice none 0 0)) :: post) ++ [.tab true k []] = pre ++ AObj.tab true .raw (List.replicate n (Value.slice none 0 0)) :: (post ++ [.tab true k []]) := by rw [List.append_assoc, List.cons_append]
  rw [e] at h
  rw [e'] at hb0
  exact h B ρ0 w0 _ a w ⟨q1, hi.kept, fun b hb => hi.own b (hb0 b (q2 b hb)), fun i l h1 h2 => hm i l (hi.stable i l h1 h2), hi.glob⟩ (fun t => (ht t).mono hm) ha
end Go.Proofs.YtnheodgffackoaaDoor.E
