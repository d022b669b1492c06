/- The engine, fifth part: the loud operations. -/
import Derived.Test.YtnheodgffackoaaDoorEd
import Derived.Laws.AppendOwn
import Derived.Laws.MakeOwn
namespace Go.Proofs.YtnheodgffackoaaDoor.E
set_option linter.unusedSimpArgs false
set_option linter.unusedVariables false
open Go

/-- The blocks of the objects that are owned. -/
def Blks (ρ : Rho) (H : Hp) (b : Nat) : Prop := ∃ i l, ρ i = some l ∧ Foot l (H.get i) b
def upd (ρ : Rho) (i : Nat) (l : Loc) : Rho := fun j => if j = i then some l else ρ j

section
variable {E : Env} {ρ ρ' : Rho} {tm : Tm} {a : Act} {H H' : Hp} {w w' w2 : World} {B : Nat} {X Y : Nat → Prop}
theorem Kept.refl (X : Nat → Prop) (w : World) : Kept X w w := ⟨rfl, rfl, rfl, Nat.le_refl _, fun _ _ _ => rfl⟩
theorem Kept.trans (h : Kept X w w') (k : Kept Y w' w2) (hy : ∀ b, Y b → X b ∨ w.heap.size ≤ b) : Kept X w w2 :=
  ⟨k.os.trans h.os, k.tape.trans h.tape, k.output.trans h.output, Nat.le_trans h.size k.size, fun b hb hx =>
    (k.block b (Nat.lt_of_lt_of_le hb h.size) fun hyb => (hy b hyb).elim hx fun h2 => by omega).trans (h.block b hb hx)⟩
theorem Kept.mono (h : Kept X w w') (hy : ∀ b, X b → Y b) : Kept Y w w' := ⟨h.os, h.tape, h.output, h.size, fun b hb hn => h.block b hb fun hx => hn (hy b hx)⟩
theorem Kept.alloc (w : World) (o : Obj) (X : Nat → Prop) : Kept X w (w.alloc o) := ⟨rfl, rfl, rfl, by simp, fun b hb _ => by show (w.heap.push o)[b]? = _; rw [Array.getElem?_push, if_neg (by omega)]⟩
theorem Kept.drew (h : Kept X w w') : Kept X w w'.drew := ⟨h.os, h.tape, h.output, h.size, h.block⟩
theorem Kept.setRow (w : World) (g : Nat) (cs : Array Value) : Kept (· = g) w (w.setRow g cs) := ⟨rfl, rfl, rfl, by simp [World.setRow], fun b _ hn => setRow_other w g b cs hn⟩
theorem Kept.cell (h : Kept X w w') {p : Addr} {v : Value} (hc : w.cell? p = some v) (hx : ¬ X p.block) : w'.cell? p = some v :=
  (World.cell?_of_block (h.block p.block (World.block_lt_of_cell? w p hc) hx)).trans hc
theorem heap_lt {g : Nat} {o : Obj} (h : w.heap[g]? = some o) : g < w.heap.size := (Array.getElem?_eq_some_iff.1 h).1
theorem ObjRel.kept {l : Loc} {o : AObj} (h : ObjRel B ρ w l o) (hm : ∀ i l, ρ i = some l → ρ' i = some l) (hk : Kept X w w') (hf' : ∀ b, Foot l o b → ¬ X b) (hX : ∀ b, X b → B ≤ b) : ObjRel B ρ' w' l o := by
  have hf : Owned l o → ¬ X l.blk := fun ho => hf' _ (.inl ⟨ho, rfl⟩)
  cases o with
  | big Q =>
    obtain ⟨h1, h2, h3⟩ := h
    have hk' : Kept (fun b => ¬ Far l b) w w' := hk.mono fun b hb hfar => hf' b (.inr ⟨rfl, hfar⟩) hb
    exact ⟨fun b hb => ⟨(h1 b hb).1, Nat.lt_of_lt_of_le (h1 b hb).2 hk.size⟩, h3 w' hk', fun w2 hk2 => h3 w2 (hk'.trans hk2 fun b hb => .inl hb)⟩
  | box tg ids P =>
    obtain ⟨h1, ls, h2, h3, h4⟩ := h
    have hk' : Kept (fun b => B ≤ b ∧ ¬ Far l b) w w' := hk.mono fun b hb => ⟨hX b hb, fun hfar => hf' b (.inr ⟨rfl, hfar⟩) hb⟩
    exact ⟨fun b hb => ⟨(h1 b hb).1, Nat.lt_of_lt_of_le (h1 b hb).2 hk.size⟩, ls, (by have := LocsL.map (r := id) (fun i l _ => hm i l) h2; simpa using this), h4 w' hk', fun w2 hk2 => h4 w2 (hk'.trans hk2 fun b hb => .inl hb)⟩
  | link id =>
    obtain ⟨hz, m, h1, h2⟩ := h
    exact ⟨hz, m, hm _ _ h1, h2⟩
  | gone => trivial
  | cells cs =>
    obtain ⟨h1, h2, bc, t, h3, h4⟩ := h
    exact ⟨h1, h2, bc, t, (hk.block _ (heap_lt h3) (hf trivial)).trans h3, DenL.mono hm h4⟩
  | row sz cs =>
    obtain ⟨h1, h2, hz, bc, t, h3, h4, h5⟩ := h
    exact ⟨h1, h2, hz, bc, t, (hk.block _ (heap_lt h3) (hf trivial)).trans h3, DenL.mono hm h4, h5⟩
  | map kk vk c es =>
    obtain ⟨h1, ents, h3, h4⟩ := h
    exact ⟨h1, ents, (hk.block _ (heap_lt h3) (hf trivial)).trans h3, h4⟩
  | iter id c seen =>
    obtain ⟨h1, h2, lm, s, h3, h4, h5⟩ := h
    exact ⟨h1, h2, lm, s, hm _ _ h3, (hk.block _ (heap_lt h4) (hf trivial)).trans h4, h5⟩
  | iterX id c seen bs =>
    obtain ⟨h1, h2, lm, s, b, h3, h4, h5⟩ := h
    exact ⟨h1, h2, lm, s, b, hm _ _ h3, (hk.block _ (heap_lt h4) (hf trivial)).trans h4, h5⟩
  | mix k P v =>
    obtain ⟨us, u, ws, h1, h2, h3, h4, h5, h6, h7⟩ := h
    have hr : 0 < l.room := by simp at h5; omega
    refine ⟨us, u, ws, h1, h2, Den.mono hm h3, h4, h5, fun j x hj => ?_, fun hr => ?_⟩
    · obtain ⟨vs, h8, h9, h10⟩ := h6 j x hj
      exact ⟨vs, DenL.mono hm h8, h9, fun i v hv => hk.cell (h10 i v hv) (hf ⟨rfl, hr⟩)⟩
    · obtain ⟨h8, bc, t, h9, h10⟩ := h7 hr
      exact ⟨h8, bc, t, (hk.block _ (heap_lt h9) (hf ⟨rfl, hr⟩)).trans h9, h10⟩
  | tab own k xs =>
    obtain ⟨h1, h2, h3, h4⟩ := h
    have hnx : 0 < xs.length → ¬ X l.blk := by
      intro h0
      cases own
      · intro hx; have := h4 h0; have := hX _ hx; omega
      · exact hf ⟨rfl, by omega⟩
    refine ⟨h1, h2, fun j x hj => ?_, ?_⟩
    · obtain ⟨vs, h5, h6, h7⟩ := h3 j x hj
      have hlen := (List.getElem?_eq_some_iff.1 hj).1
      exact ⟨vs, DenL.mono hm h5, h6, fun i v hv => hk.cell (h7 i v hv) (hnx (by omega))⟩
    · cases own
      · exact h4
      · intro hr
        obtain ⟨h5, bc, t, h6, h7⟩ := h4 hr
        exact ⟨h5, bc, t, (hk.block _ (heap_lt h6) (hf ⟨rfl, hr⟩)).trans h6, h7⟩
theorem Owned.blk {l : Loc} {o : AObj} (h : ObjRel B ρ w l o) (ho : Owned l o) : B ≤ l.blk ∧ l.blk < w.heap.size := by
  cases o with
  | gone => cases ho
  | cells cs => obtain ⟨h1, h2, bc, t, h3, h4⟩ := h; exact ⟨h1, heap_lt h3⟩
  | row sz cs => obtain ⟨h1, _, _, bc, t, h3, h4⟩ := h; exact ⟨h1, heap_lt h3⟩
  | map kk vk c es => obtain ⟨h1, ents, h3, h4⟩ := h; exact ⟨h1, heap_lt h3⟩
  | iter id c seen => obtain ⟨h1, _, lm, s, _, h3, _⟩ := h; exact ⟨h1, heap_lt h3⟩
  | iterX id c seen bs => obtain ⟨h1, _, lm, s, b, _, h3, _⟩ := h; exact ⟨h1, heap_lt h3⟩
  | mix k P v =>
    obtain ⟨us, u, ws, _, _, _, _, h5, _, h7⟩ := h
    obtain ⟨h8, bc, t, h9, h10⟩ := h7 (by simp at h5; omega)
    exact ⟨h8, heap_lt h9⟩
  | big Q => exact ho.elim
  | box tg ids P => exact ho.elim
  | link id => exact ho.elim
  | tab own k xs =>
    obtain ⟨rfl, hr⟩ := ho
    obtain ⟨_, _, _, h4⟩ := h
    obtain ⟨h5, bc, t, h6, h7⟩ := h4 hr
    exact ⟨h5, heap_lt h6⟩
theorem Owned.ne {l : Loc} {o : AObj} (ho : Owned l o) : o ≠ .gone := by rintro rfl; exact ho
theorem Foot.ne {l : Loc} {o : AObj} {b : Nat} (ho : Foot l o b) : o ≠ .gone := by
  rintro rfl
  rcases ho with h | h
  · exact h.1
  · cases h.1
theorem Foot.blk {l : Loc} {o : AObj} {b : Nat} (h : ObjRel B ρ w l o) (ho : Foot l o b) : B ≤ b ∧ b < w.heap.size := by
  rcases ho with ⟨h1, rfl⟩ | ⟨h1, h2⟩
  · exact Owned.blk h h1
  · cases o <;> first | (cases h1; done) | exact h.1 b h2
/-- From one heap to the next: some objects change, in blocks of their own. -/
theorem RelH.step (h : RelH B ρ H w) (C : Nat → Prop) (hk : Kept X w w') (hX : ∀ b, X b → Blks ρ H b)
    (hm : ∀ i l, ρ i = some l → ρ' i = some l) (hs : ∀ i, ¬ C i → H'.get i = H.get i ∧ ρ' i = ρ i)
    (far : ∀ i l b, ¬ C i → ρ i = some l → Foot l (H.get i) b → ¬ X b)
    (chg : ∀ i, C i → H'.get i ≠ .gone → ∃ l, ρ' i = some l ∧ ObjRel B ρ' w' l (H'.get i) ∧ ∀ b, Foot l (H'.get i) b → X b ∨ w.heap.size ≤ b)
    (one : ∀ i j li lj b, C i → C j → i ≠ j → ρ' i = some li → ρ' j = some lj → Foot li (H'.get i) b → Foot lj (H'.get j) b → False)
    (hf : ∀ i, H'.n ≤ i → ρ' i = none ∧ H'.get i = .gone) : RelH B ρ' H' w' := by
  have hXB : ∀ b, X b → B ≤ b := by
    intro b hb
    obtain ⟨i, l, h1, h2⟩ := hX b hb
    obtain ⟨l', h3, h4⟩ := h.obj i h2.ne
    rw [h1] at h3; cases h3
    exact (Foot.blk h4 h2).1
  refine ⟨fun i hi => ?_, fun i j li lj b hij h1 h2 h3 h4 => ?_, hf, Nat.le_trans h.bound hk.size⟩
  · by_cases hc : C i
    · obtain ⟨l, h1, h2, _⟩ := chg i hc hi; exact ⟨l, h1, h2⟩
    · obtain ⟨h1, h2⟩ := hs i hc
      rw [h1] at hi ⊢
      obtain ⟨l, h3, h4⟩ := h.obj i hi
      exact ⟨l, hm _ _ h3, h4.kept hm hk (fun b => far i l b hc h3) hXB⟩
  · have key : ∀ i j li lj b, C i → ¬ C j → ρ' i = some li → ρ' j = some lj → Foot li (H'.get i) b → Foot lj (H'.get j) b → False := by
      intro i j li lj b hci hcj h1 h2 h3 h4
      obtain ⟨l, h5, h6, h7⟩ := chg i hci h3.ne
      rw [h1] at h5; cases h5
      obtain ⟨h8, h9⟩ := hs j hcj
      rw [h9] at h2
      rw [h8] at h4
      have hfar := far j lj b hcj h2 h4
      obtain ⟨l', h10, h11⟩ := h.obj j h4.ne
      rw [h2] at h10; cases h10
      have hlt := (Foot.blk h11 h4).2
      rcases h7 b h3 with h12 | h12
      · exact hfar h12
      · omega
    by_cases hci : C i <;> by_cases hcj : C j
    · exact one i j li lj b hci hcj hij h1 h2 h3 h4
    · exact key i j li lj b hci hcj h1 h2 h3 h4
    · exact key j i lj li b hcj hci h2 h1 h4 h3
    · obtain ⟨e1, e2⟩ := hs i hci
      obtain ⟨e3, e4⟩ := hs j hcj
      rw [e1] at h3; rw [e2] at h1; rw [e3] at h4; rw [e4] at h2
      exact h.sepF i j li lj b hij h1 h2 h3 h4
theorem look_cons {β : Type _} (d : β) (i j : Nat) (b : β) (l : List (Nat × β)) : look d ((i, b) :: l) j = if j = i then b else look d l j := by
  simp only [look]
  by_cases h : j = i
  · subst h; simp
  · rw [if_neg h]
    have : Nat.beq i j = false := by cases hb : Nat.beq i j with | false => rfl | true => exact absurd (Nat.eq_of_beq_eq_true hb).symm h
    rw [this]
theorem get_set (H : Hp) (i j : Nat) (o : AObj) : (H.set i o).get j = if j = i then o else H.get j := look_cons _ _ _ _ _
theorem get_new (H : Hp) (j : Nat) (o : AObj) : (H.new o).get j = if j = H.n then o else H.get j := look_cons _ _ _ _ _
theorem upd_self (ρ : Rho) (i : Nat) (l : Loc) : upd ρ i l i = some l := by simp [upd]
theorem upd_mono (h : RelH B ρ H w) (l : Loc) : ∀ i l', ρ i = some l' → upd ρ H.n l i = some l' := by
  intro i l' hi
  have : i ≠ H.n := by rintro rfl; rw [(h.fresh _ (Nat.le_refl _)).1] at hi; cases hi
  simp [upd, this, hi]
/-- A new object in a block of its own. -/
theorem RelH.new (h : RelH B ρ H w) {o : AObj} {l : Loc} (hk : Kept (fun _ => False) w w') (ho : ObjRel B (upd ρ H.n l) w' l o) (hl : Owned l o → w.heap.size ≤ l.blk) (hnb : isBig o = false := by rfl) : RelH B (upd ρ H.n l) (H.new o) w' := by
  refine h.step (· = H.n) hk (fun _ hb => hb.elim) (upd_mono h l) (fun i hi => ⟨by rw [get_new, if_neg hi], by simp [upd, hi]⟩) (fun _ _ _ _ _ _ hb => hb) ?_ ?_ ?_
  · rintro i rfl _
    refine ⟨l, upd_self .., ?_, fun b h1 => .inr ?_⟩
    · rw [get_new, if_pos rfl]; exact ho
    · rw [get_new, if_pos rfl] at h1
      obtain ⟨h2, rfl⟩ := h1.small hnb
      exact hl h2
  · rintro i j li lj b rfl rfl hij; exact absurd rfl hij
  · intro i hi
    have hi : H.n + 1 ≤ i := hi
    have hne : i ≠ H.n := by omega
    rw [get_new, if_neg hne]
    simp only [upd, if_neg hne]
    exact h.fresh i (by omega)
/-- An object is written. -/
theorem RelH.write (h : RelH B ρ H w) {id : Nat} {o : AObj} {l : Loc} (hl : ρ id = some l) (hold : Owned l (H.get id)) (hk : Kept (· = l.blk) w w') (ho : ObjRel B ρ w' l o) (hnb : isBig o = false := by rfl) : RelH B ρ (H.set id o) w' := by
  refine h.step (· = id) hk (fun b hb => ⟨id, l, hl, .inl ⟨hold, hb.symm⟩⟩) (fun _ _ h => h) (fun i hi => ⟨by rw [get_set, if_neg hi], rfl⟩) ?_ ?_ ?_ ?_
  · rintro i l' b hi h1 h2 rfl
    exact h.sepF i id l' l l.blk hi h1 hl h2 (.inl ⟨hold, rfl⟩)
  · rintro i rfl _
    refine ⟨l, hl, ?_, fun b hb => .inl ?_⟩
    · rw [get_set, if_pos rfl]; exact ho
    · rw [get_set, if_pos rfl] at hb
      exact (hb.small hnb).2.symm
  · rintro i j li lj b rfl rfl hij; exact absurd rfl hij
  · intro i hi
    have hne : i ≠ id := by rintro rfl; rw [(h.fresh _ hi).2] at hold; exact hold
    rw [get_set, if_neg hne]
    exact h.fresh i hi

/-- What a loud operation leaves. -/
structure Loud (B : Nat) (ρ : Rho) (H : Hp) (w : World) (v : AV) (H' : Hp) (ρ' : Rho) (w' : World) (u : Value) : Prop where
  den : Den ρ' v u
  mono : ∀ i l, ρ i = some l → ρ' i = some l
  rel : RelH B ρ' H' w'
  kept : Kept (Blks ρ H) w w'
  own : ∀ b, Blks ρ' H' b → Blks ρ H b ∨ w.heap.size ≤ b
theorem blks_new (h : RelH B ρ H w) {o : AObj} {l : Loc} (hl : Owned l o → w.heap.size ≤ l.blk) (hnb : isBig o = false) : ∀ b, Blks (upd ρ H.n l) (H.new o) b → Blks ρ H b ∨ w.heap.size ≤ b := by
  rintro b ⟨i, l', h1, h2⟩
  by_cases hi : i = H.n
  · subst hi
    rw [upd_self] at h1; cases h1
    rw [get_new, if_pos rfl] at h2
    obtain ⟨h3, rfl⟩ := h2.small hnb
    exact .inr (hl h3)
  · rw [get_new, if_neg hi] at h2
    simp only [upd, if_neg hi] at h1
    exact .inl ⟨i, l', h1, h2⟩
theorem Loud.new (h : RelH B ρ H w) {o : AObj} {l : Loc} {v : AV} {u : Value} (hk : Kept (fun _ => False) w w') (ho : ObjRel B (upd ρ H.n l) w' l o) (hl : Owned l o → w.heap.size ≤ l.blk) (hv : Den (upd ρ H.n l) v u) (hnb : isBig o = false := by rfl) : Loud B ρ H w v (H.new o) (upd ρ H.n l) w' u :=
  ⟨hv, upd_mono h l, h.new hk ho hl hnb, hk.mono fun _ hb => hb.elim, blks_new h hl hnb⟩
theorem cells_of_denL {cs : List AV} {u : Value} (hd : DenL ρ cs u.cells.toList) (hb : B ≤ w.heap.size) (t : TypeId) (hm : ∀ i l, ρ i = some l → ρ' i = some l) : ObjRel B ρ' (w.alloc (.cells u.cells t)) ⟨w.heap.size, 0, 0, 0⟩ (.cells cs) :=
  ⟨hb, rfl, u.cells, t, heap_alloc_new w _, DenL.mono hm hd⟩

theorem zero_run {P : Program} {t : TypeId} {z : Value} (h : zeroO P t = some z) (w : World) : (zeroValue t).run P w = .ok z w := by
  unfold zeroO at h
  split at h
  · rename_i i hi; simp [zeroValue, typeInfo, hi, h]
  · cases h
theorem alloc_sound {t : TypeId} {z : Value} {cs : List AV} {ps : List Prop} (hz : zeroO E.P t = some z) (hc : cellsO (ofVal z) = some (cs, ps)) (hp : AllP ps) (hH : RelH B ρ H w) :
    ∃ u w' ρ', (Instr.alloc t true (.tuple #[])).run E.P w = .ok u w' ∧ Loud B ρ H w (.ptr H.n 0 0) (H.new (.cells cs)) ρ' w' u := by
  have ⟨hd, _⟩ := cells_sound hc hp (den_ofVal (ρ := ρ) z)
  refine ⟨.pointer (some ⟨w.heap.size, 0, none⟩), w.alloc (.cells z.cells t), _, ?_, Loud.new (l := ⟨w.heap.size, 0, 0, 0⟩) hH (Kept.alloc _ _ _) (cells_of_denL hd hH.bound t (upd_mono hH _)) (fun _ => Nat.le_refl _) ⟨_, upd_self .., by simp⟩⟩
  simp only [Instr.alloc, Sem.run_bind, zero_run hz, Result.andThen_ok, newVar, newRow, run_newObj, Sem.run_pure]
  rfl
theorem box_sound {t : TypeId} {x : AV} {u : Value} {cs : List AV} {ps : List Prop} (hx : Den ρ x u) (hc : cellsO x = some (cs, ps)) (hp : AllP ps) (hH : RelH B ρ H w) :
    ∃ v w' ρ', (Instr.box t u).run E.P w = .ok v w' ∧ Loud B ρ H w (.ptr H.n 0 0) (H.new (.cells cs)) ρ' w' v := by
  have ⟨hd, _⟩ := cells_sound hc hp hx
  refine ⟨.pointer (some ⟨w.heap.size, 0, none⟩), w.alloc (.cells u.cells t), _, ?_, Loud.new (l := ⟨w.heap.size, 0, 0, 0⟩) hH (Kept.alloc _ _ _) (cells_of_denL hd hH.bound t (upd_mono hH _)) (fun _ => Nat.le_refl _) ⟨_, upd_self .., by simp⟩⟩
  simp only [Instr.box, Sem.run_bind, Result.andThen_ok, newVar, newRow, run_newObj, Sem.run_pure]
  rfl

/-- The cells of an element, written in place. -/
theorem store_sound {t : TypeId} {p x v : AV} {H' : Hp} {cs : List Prop} {pv u : Value} (h : evStore E H t p x = some (v, H', cs)) (hc : AllP cs) (hp : Den ρ p pv) (hx : Den ρ x u) (hH : RelH B ρ H w) :
    ∃ w', (Instr.storeAt t pv u).run E.P w = .ok () w' ∧ Loud B ρ H w v H' ρ w' Go.undef := by
  unfold evStore at h
  split at h <;> try (cases h; done)
  rename_i id ix fld
  obtain ⟨l, hl, rfl⟩ := hp
  split at h <;> try (cases h; done)
  rename_i vs ps hvs
  split at h <;> try (cases h; done)
  rename_i n hn
  split at h <;> try (cases h; done)
  rename_i hlen
  rw [Bool.and_eq_true] at hlen
  obtain ⟨hl1, hl2⟩ := hlen
  have hl1 := Nat.eq_of_beq_eq_true hl1
  have hl2 := Nat.le_of_ble_eq_true hl2
  have hrun : ∀ (g o : Nat) (cur : Array Value) (tt : TypeId), w.heap[g]? = some (.cells cur tt (0, 0)) → o + u.cells.size ≤ cur.size → u.cells.size = n → (∀ y ∈ u.cells.toList, y.oneCell' = true) →
      (Instr.storeAt t (.pointer (some ⟨g, o, none⟩)) u).run E.P w = .ok () (w.setRow g (cur.toList.take o ++ u.cells.toList ++ cur.toList.drop (o + u.cells.size)).toArray) := by
    intro g o cur tt h1 h2 h3 h4
    have := run_storeCells_at E.P g o tt u.cells.toList 0 cur w h1 (by simpa using h2) h4
    simp only [Nat.add_zero, Array.length_toList] at this
    simp only [Instr.storeAt, Instr.sureAddr, storeVar, Sem.run_bind, Sem.run_pure, Result.andThen_ok, sizeOf_run hn, h3, ne_eq, not_true_eq_false, if_false, this]
  have hundef : ∀ ρ, Den ρ .undef Go.undef := fun _ => rfl
  split at h <;> try (cases h; done)
  · rename_i cs0 hobj
    split at h <;> try (cases h; done)
    split at h <;> cases h
    rename_i cs' hset
    have ⟨hd, h1⟩ := cells_sound hvs hc hx
    have hsz := denL_len hd
    obtain ⟨l', hl', hb, h0, bc, tt, hheap, hdc⟩ := (hobj ▸ hH.obj id (by simp [hobj]) : ∃ l, ρ id = some l ∧ ObjRel B ρ w l (.cells cs0))
    rw [hl] at hl'; cases hl'
    have ⟨hle, _⟩ := denL_set hset hdc hd
    have hle := hle (by intro he; rw [he] at hsz; simp at hsz; omega)
    have hr := hrun l.blk (l.base + 0 * l.sz + fld) bc tt hheap (by rw [h0]; simp at hle ⊢; omega) (by simpa [← hl1] using hsz.symm) h1
    refine ⟨_, hr, hundef _, fun _ _ h => h, ?_, (Kept.setRow _ _ _).mono fun b hb => ⟨id, l, hl, .inl ⟨by rw [hobj]; trivial, hb.symm⟩⟩, fun b hb => .inl ?_⟩
    · refine hH.write hl (by rw [hobj]; trivial) (Kept.setRow _ _ _) ⟨hb, h0, _, tt, setRow_heap w _ _ _ _ _ hheap, ?_⟩
      have := denL_set' hset hdc hd hle
      rw [h0]
      simpa using this
    · obtain ⟨i, l', h2, h3⟩ := hb
      rw [get_set] at h3
      split at h3
      · rename_i he; subst he; exact ⟨i, l', h2, .inl ⟨by rw [hobj]; trivial, (h3.small rfl).2⟩⟩
      · exact ⟨i, l', h2, h3⟩
  · rename_i k xs hobj
    split at h <;> try (cases h; done)
    rename_i l1 hset
    split at h <;> cases h
    rename_i y hy
    obtain ⟨hix, hc⟩ := hc
    have ⟨hd, h1⟩ := cells_sound hvs hc hx
    have hszv := denL_len hd
    obtain ⟨l', hl', hsz, hroom, hel, hown⟩ := (hobj ▸ hH.obj id (by simp [hobj]) : ∃ l, ρ id = some l ∧ ObjRel B ρ w l (.tab true k xs))
    rw [hl] at hl'; cases hl'
    obtain ⟨hb, bc, tt, hheap, hbc⟩ := hown (by omega)
    obtain ⟨es, hes, hone, hcell⟩ := hel ix (xs.getD ix (dfl k)) (by simp [List.getD, hix])
    have hesl := enc_len k _ hes
    have ⟨hle, _⟩ := denL_set hset hes hd
    have hle := hle (by intro he; rw [he] at hszv; simp at hszv; omega)
    have hnew := dec_sound hy (denL_set' hset hes hd hle)
    have hin : (ix + 1) * l.sz ≤ l.room * l.sz := Nat.mul_le_mul_right _ (by omega)
    rw [Nat.add_mul, Nat.one_mul] at hin
    have hus : u.cells.size = n := by simpa [← hl1] using hszv.symm
    simp only [Array.length_toList] at hle
    have hr := hrun l.blk (l.base + ix * l.sz + fld) bc tt hheap (by rw [hbc]; omega) hus h1
    have hO : Owned l (H.get id) := by rw [hobj]; exact ⟨rfl, by omega⟩
    refine ⟨_, hr, hundef _, fun _ _ h => h, ?_, (Kept.setRow _ _ _).mono fun b hb => ⟨id, l, hl, .inl ⟨hO, hb.symm⟩⟩, fun b hb => .inl ?_⟩
    · refine hH.write hl hO (Kept.setRow _ _ _) ⟨hsz, by simpa using hroom, ?_, fun _ => ⟨hb, _, tt, setRow_heap w _ _ _ _ _ hheap, by simp; omega⟩⟩
      intro j x hj
      rw [List.getElem?_set] at hj
      have hcellrow : ∀ o, (w.setRow l.blk (bc.toList.take (l.base + ix * l.sz + fld) ++ u.cells.toList ++ bc.toList.drop (l.base + ix * l.sz + fld + u.cells.size)).toArray).cell? ⟨l.blk, o, none⟩ = (bc.toList.take (l.base + ix * l.sz + fld) ++ u.cells.toList ++ bc.toList.drop (l.base + ix * l.sz + fld + u.cells.size))[o]? := by
        intro o; rw [cell_setRow_same w _ _ _ _ _ _ hheap]; simp
      have hold : ∀ o, w.cell? ⟨l.blk, o, none⟩ = bc.toList[o]? := by intro o; simp [World.cell?, hheap]
      split at hj
      · rename_i he
        subst he
        cases hj
        refine ⟨_, hnew, ?_, ?_⟩
        · intro v hv
          simp only [List.mem_append] at hv
          rcases hv with (hv | hv) | hv
          · exact hone v (List.mem_of_mem_take hv)
          · exact h1 v hv
          · exact hone v (List.mem_of_mem_drop hv)
        · intro i v hv
          rw [hcellrow]
          have hil : i < es.length := by
            have := (List.getElem?_eq_some_iff.1 hv).1
            simp at this; omega
          have hcell' : ∀ i, i < es.length → bc.toList[l.base + ix * l.sz + i]? = es[i]? := by
            intro i hi
            rw [← hold, hcell i es[i] (by simp [hi])]
            simp [hi]
          rw [← hv]
          have hbcs : bc.toList.length = l.base + l.room * l.sz := by simpa using hbc
          rw [List.append_assoc, List.append_assoc]
          simp only [List.getElem?_append, List.length_take, List.getElem?_take, List.getElem?_drop, Array.length_toList]
          rw [show min (l.base + ix * l.sz + fld) bc.size = l.base + ix * l.sz + fld by omega, show min fld es.length = fld by omega]
          by_cases h2 : i < fld
          · rw [if_pos (by omega), if_pos (by omega), if_pos h2, if_pos h2, hcell' i hil]
          · rw [if_neg (by omega), if_neg h2]
            rw [show l.base + ix * l.sz + i - (l.base + ix * l.sz + fld) = i - fld by omega]
            by_cases h3 : i - fld < u.cells.size
            · rw [if_pos h3, if_pos h3]
            · rw [if_neg h3, if_neg h3, show l.base + ix * l.sz + fld + u.cells.size + (i - fld - u.cells.size) = l.base + ix * l.sz + i by omega, hcell' i hil, show fld + u.cells.size + (i - fld - u.cells.size) = i by omega]
      · rename_i he
        obtain ⟨vs', h2, h3, h4⟩ := hel j x hj
        refine ⟨vs', h2, h3, fun i v hv => ?_⟩
        have hvl := enc_len k _ h2
        have hi : i < k.size := by have := (List.getElem?_eq_some_iff.1 hv).1; omega
        have hj2 := (List.getElem?_eq_some_iff.1 hj).1
        have h5 := h4 i v hv
        rw [hold] at h5
        rw [hcellrow, ← h5]
        have hjin : (j + 1) * l.sz ≤ l.room * l.sz := Nat.mul_le_mul_right _ (by omega)
        rw [Nat.add_mul, Nat.one_mul] at hjin
        simp only [List.getElem?_append, List.length_append, List.length_take, List.getElem?_take, List.getElem?_drop, Array.length_toList]
        rw [show min (l.base + ix * l.sz + fld) bc.size = l.base + ix * l.sz + fld by omega]
        rcases Nat.lt_or_gt_of_ne he with hlt | hgt
        · have : (ix + 1) * l.sz ≤ j * l.sz := Nat.mul_le_mul_right _ (by omega)
          rw [Nat.add_mul, Nat.one_mul] at this
          rw [if_neg (by omega)]
          congr 1
          omega
        · have : (j + 1) * l.sz ≤ ix * l.sz := Nat.mul_le_mul_right _ (by omega)
          rw [Nat.add_mul, Nat.one_mul] at this
          rw [if_pos (by omega), if_pos (by omega), if_pos (by omega)]
    · obtain ⟨i, l', h2, h3⟩ := hb
      rw [get_set] at h3
      split at h3
      · rename_i he
        subst he
        rw [hl] at h2; cases h2
        exact ⟨i, l, hl, .inl ⟨hO, (h3.small rfl).2⟩⟩
      · exact ⟨i, l', h2, h3⟩
  · rename_i sz cs0 hobj
    split at h <;> cases h
    rename_i cs' hset
    have ⟨hd, h1⟩ := cells_sound hvs hc hx
    have hsz := denL_len hd
    obtain ⟨l', hl', hb, h0, hlz, bc, tt, hheap, hdc, hbs⟩ := (hobj ▸ hH.obj id (by simp [hobj]) : ∃ l, ρ id = some l ∧ ObjRel B ρ w l (.row sz cs0))
    rw [hl] at hl'; cases hl'
    simp only [Nat.add_eq, Nat.mul_eq] at hset
    have ⟨hle, _⟩ := denL_set hset hdc hd
    have hle := hle (by intro he; rw [he] at hsz; simp at hsz; omega)
    have hr := hrun l.blk (l.base + ix * l.sz + fld) bc tt hheap (by rw [h0, hlz]; simp at hle ⊢; omega) (by simpa [← hl1] using hsz.symm) h1
    refine ⟨_, hr, hundef _, fun _ _ h => h, ?_, (Kept.setRow _ _ _).mono fun b hb => ⟨id, l, hl, .inl ⟨by rw [hobj]; trivial, hb.symm⟩⟩, fun b hb => .inl ?_⟩
    · refine hH.write hl (by rw [hobj]; trivial) (Kept.setRow _ _ _) ⟨hb, h0, hlz, _, tt, setRow_heap w _ _ _ _ _ hheap, ?_⟩
      have := denL_set' hset hdc hd hle
      rw [h0, hlz]
      refine ⟨by simpa using this, ?_⟩
      simp at hle ⊢
      rw [hlz] at hbs
      omega
    · obtain ⟨i, l', h2, h3⟩ := hb
      rw [get_set] at h3
      split at h3
      · rename_i he; subst he; exact ⟨i, l', h2, .inl ⟨by rw [hobj]; trivial, (h3.small rfl).2⟩⟩
      · exact ⟨i, l', h2, h3⟩
end
end Go.Proofs.YtnheodgffackoaaDoor.E
