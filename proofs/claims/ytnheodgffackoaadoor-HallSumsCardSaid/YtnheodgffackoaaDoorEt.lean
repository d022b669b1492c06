/- The engine: contracts, and what a call by one comes to in a greater state. -/
import Derived.Test.YtnheodgffackoaaDoorEu
namespace Go.Proofs.YtnheodgffackoaaDoor.E
set_option linter.unusedSimpArgs false
set_option linter.unusedVariables false
open Go

/-- What a call leaves: a value, and objects. -/
def Post (B : Nat) (ρ0 : Rho) (H0 : Hp) (k0 : Nat) (w0 : World) (v : AV) (os' : List AObj) : Ending → World → Prop := fun e w' =>
  ∃ ρ' u, e = .returned u ∧ Den ρ' v u ∧ RelH B ρ' (hp os') w' ∧ Kept (Blks ρ0 H0) w0 w' ∧ (∀ b, Blks ρ' (hp os') b → Blks ρ0 H0 b ∨ w0.heap.size ≤ b) ∧ ∀ i l, i < k0 → ρ0 i = some l → ρ' i = some l
/-- A contract: called with such values, over such objects, a function returns such a value, and leaves such objects. -/
structure Tri (E : Env) (f : FuncId) (args : List AV) (os : List AObj) (v : AV) (os' : List AObj) : Prop where
  enters : ∀ xs w, (callFunc f xs).run E.P w = .ok (.enter f xs) w
  run : ∀ B ρ w vs, RelH B ρ (hp os) w → RelG E.gc B w → DenL ρ args vs → Calls E.P f vs.toArray w (Post B ρ (hp os) os.length w v os')
/-- A method of a type, by its name, is a function. -/
def Meth (E : Env) (t : TypeId) (name : String) (f : FuncId) : Prop := ∀ u w, (method (E.P.types.size + Made.depth) t u name).run E.P w = .ok (f, u) w
structure TriI (E : Env) where
  f : FuncId
  args : List AV
  os : List AObj
  v : AV
  os' : List AObj
  via : Option (TypeId × String)
  ok : Tri E f args os v os'
  meth : ∀ t nm, via = some (t, nm) → Meth E t nm f

/-- Which function is called, with what. -/
def calledA {E : Env} (T : TriI E) (tm : Tm) : Op → Option (List AV × List Prop)
  | .call ⟨.value f, args, _⟩ => match opv E tm f with
    | .func (.func g) fs cs => match Nat.beq g T.f with
      | true => some (app (app fs (lmap (opv E tm) args.toList)) cs, [])
      | false => none
    | _ => none
  | .call ⟨.invoke r name, args, _⟩ => match T.via with
    | some (t, nm) => match opv E tm r with
      | .iface u v => match Nat.beq u t with
        | true => some (v :: lmap (opv E tm) args.toList, [name = nm])
        | false => none
      | _ => none
    | none => none
  | _ => none
def extS (S : Sub) (m j : Nat) : List AObj → List (Nat × Nat)
  | [] => []
  | _ :: os => match lookO S j with
    | some (.id i) => (j, i) :: extS S m (Nat.succ j) os
    | _ => (j, m) :: extS S (Nat.succ m) (Nat.succ j) os
def rn (l : List (Nat × Nat)) (j : Nat) : Nat := look 0 l j
def renO (r : Nat → Nat) : AObj → AObj
  | .cells cs => .cells (renL r cs)
  | .row sz cs => .row sz (renL r cs)
  | .mix k P v => .mix k P (v.ren r)
  | .iter id c seen => .iter (r id) c seen
  | .iterX id c seen bs => .iterX (r id) c seen bs
  | .link id => .link (r id)
  | .box tag ids P => .box tag (ids.map r) P
  | o => o
def putAll (r : Nat → Nat) (S : Sub) (j : Nat) (H : Hp) : List AObj → Hp
  | [] => H
  | o :: os => match lookO S j with
    | some (.id i) => putAll r S (Nat.succ j) (H.set i (renO r o)) os
    | _ => putAll r S (Nat.succ j) (H.new (renO r o)) os
def belowN (n : Nat) : List Nat → Bool
  | [] => true
  | i :: l => match Nat.ble (Nat.succ i) n with
    | true => belowN n l
    | false => false
def evCall {E : Env} (T : TriI E) (o : Op) (tm : Tm) (H : Hp) : LR := match calledA T tm o with
  | none => none
  | some (vs, c0) => match uni H [] T.args vs T.os with
    | none => none
    | some (S, cs) => match and (distinct (allIds S)) (belowN H.n (allIds S)) with
      | false => none
      | true => match Nat.ble (len T.os) (len T.os') with
        | false => none
        | true => match rn (extS S H.n 0 T.os') with
          | r => some (T.v.ren r, putAll r S 0 H T.os', app2 c0 cs)

section
variable {E : Env} {ρ ρ' ρ2 : Rho} {tm : Tm} {a : Act} {H : Hp} {w w' : World} {B : Nat}
theorem denL_app : ∀ {l l' : List AV} {v1 v2 : List Value}, DenL ρ l v1 → DenL ρ l' v2 → DenL ρ (app l l') (v1 ++ v2) := app_enc
mutual
theorem den_ren {r : Nat → Nat} (h : ∀ j l, ρ' j = some l → ρ2 (r j) = some l) : ∀ {a : AV} {v : Value}, Den ρ' a v → Den ρ2 (a.ren r) v
  | .any, _, _ => trivial
  | .undef, _, h1 | .int _ _, _, h1 | .bl _, _, h1 | .bool _, _, h1 | .str _, _, h1 | .nilptr, _, h1 | .glob _ _, _, h1 | .nilslice, _, h1 | .nilfunc, _, h1 | .niliface, _, h1 | .nilmap, _, h1 | .raw _, _, h1 | .empty, _, h1 | .eslice, _, h1 => by simpa [Den, AV.ren] using h1
  | .ptr _ _ _, _, h1 => by obtain ⟨l, h2, h3⟩ := h1; exact ⟨l, h _ _ h2, h3⟩
  | .slice _ _ _, _, h1 => by obtain ⟨l, a, cap, h2, h3⟩ := h1; exact ⟨l, a, cap, h _ _ h2, h3⟩
  | .map _, _, h1 => by obtain ⟨l, h2, h3⟩ := h1; exact ⟨l, h _ _ h2, h3⟩
  | .func _ _ _, _, h1 => by obtain ⟨f, c, h2, h3, h4⟩ := h1; exact ⟨f, c, h2, denL_ren h h3, denL_ren h h4⟩
  | .iface _ _, _, h1 => by obtain ⟨u, h2, h3⟩ := h1; exact ⟨u, h2, den_ren h h3⟩
  | .agg _, _, h1 => by obtain ⟨c, h2, h3⟩ := h1; exact ⟨c, h2, denL_ren h h3⟩
  | .tuple _, _, h1 => by obtain ⟨c, h2, h3⟩ := h1; exact ⟨c, h2, denL_ren h h3⟩
theorem denL_ren {r : Nat → Nat} (h : ∀ j l, ρ' j = some l → ρ2 (r j) = some l) : ∀ {a : List AV} {v : List Value}, DenL ρ' a v → DenL ρ2 (renL r a) v
  | [], _, h1 => by simpa [DenL, renL] using h1
  | _ :: _, _, h1 => by obtain ⟨v, vs, h2, h3, h4⟩ := h1; exact ⟨v, vs, h2, den_ren h h3, denL_ren h h4⟩
end
theorem objRel_ren {r : Nat → Nat} {l : Loc} {o : AObj} (h : ∀ j l, ρ' j = some l → ρ2 (r j) = some l) (ho : ObjRel B ρ' w l o) : ObjRel B ρ2 w l (renO r o) := by
  cases o with
  | gone => trivial
  | cells cs => obtain ⟨h1, h2, bc, t, h3, h4⟩ := ho; exact ⟨h1, h2, bc, t, h3, denL_ren h h4⟩
  | tab own k xs => obtain ⟨h1, h2, h3, h4⟩ := ho; exact ⟨h1, h2, elems_ren h3, h4⟩
  | row sz cs => obtain ⟨h1, h2, hz, bc, t, h3, h4, h5⟩ := ho; exact ⟨h1, h2, hz, bc, t, h3, denL_ren h h4, h5⟩
  | map kk vk c es => exact ho
  | mix k P v =>
    obtain ⟨us, u, ws, h1, h2, h3, h4, h5, h6, h7⟩ := ho
    exact ⟨us, u, ws, h1, h2, den_ren h h3, h4, h5, elems_ren h6, h7⟩
  | iter id c seen =>
    obtain ⟨h1, h2, lm, s, h3, h4, h5⟩ := ho
    exact ⟨h1, h2, lm, s, h _ _ h3, h4, h5⟩
  | iterX id c seen bs =>
    obtain ⟨h1, h2, lm, s, b, h3, h4, h5⟩ := ho
    exact ⟨h1, h2, lm, s, b, h _ _ h3, h4, h5⟩
  | big Q => exact ho
  | box tag ids P =>
    obtain ⟨h1, ls, h2, h3⟩ := ho
    exact ⟨h1, ls, LocsL.map (fun i l _ => h i l) h2, h3⟩
  | link id =>
    obtain ⟨hz, m, h1, h2⟩ := ho
    exact ⟨hz, m, h _ _ h1, h2⟩
theorem owned_ren {r : Nat → Nat} {l : Loc} {o : AObj} : Owned l (renO r o) ↔ Owned l o := by cases o <;> rfl
theorem foot_ren {r : Nat → Nat} {l : Loc} {o : AObj} {b : Nat} : Foot l (renO r o) b ↔ Foot l o b := by cases o <;> exact Iff.rfl
theorem gone_ren {r : Nat → Nat} {o : AObj} : renO r o = .gone ↔ o = .gone := by cases o <;> simp [renO]

theorem mem_allIds {S : Sub} {j i : Nat} (h : lookO S j = some (.id i)) : i ∈ allIds S := by
  induction S with
  | nil => simp [lookO] at h
  | cons p S ih =>
    obtain ⟨j', x⟩ := p
    rw [lookO_cons] at h
    split at h
    · cases h; simp [allIds]
    · cases x <;> simp only [allIds]
      · exact List.mem_cons_of_mem _ (ih h)
      · exact ih h
theorem allIds_inj {S : Sub} (hd : (allIds S).Nodup) : ∀ {j k i : Nat}, lookO S j = some (.id i) → lookO S k = some (.id i) → j = k := by
  induction S with
  | nil => intro j k i h; simp [lookO] at h
  | cons p S ih =>
    obtain ⟨j', x⟩ := p
    intro j k i h1 h2
    rw [lookO_cons] at h1 h2
    have tail : (allIds S).Nodup := by
      cases x <;> simp only [allIds] at hd
      · exact (List.nodup_cons.1 hd).2
      · exact hd
    split at h1 <;> split at h2
    · omega
    · cases h1; exact absurd (mem_allIds h2) (List.nodup_cons.1 hd).1
    · cases h2; exact absurd (mem_allIds h1) (List.nodup_cons.1 hd).1
    · exact ih tail h1 h2

/-- Where the objects of a contract come to lie: each in a place of its own; those that are not bound, in new ones. -/
structure Placed (S : Sub) (m : Nat) (n : Nat) (l : List (Nat × Nat)) : Prop where
  all : ∀ j, j < n → ∃ i, lookO l j = some i
  only : ∀ j i, lookO l j = some i → j < n
  bound : ∀ j i, lookO l j = some i → lookO S j = some (.id i) ∨ ((∀ i', lookO S j ≠ some (.id i')) ∧ m ≤ i)
  inj : ∀ j k i, lookO l j = some i → lookO l k = some i → j = k
theorem rn_eq {l : List (Nat × Nat)} {j i : Nat} (h : lookO l j = some i) : rn l j = i := by
  unfold rn
  induction l with
  | nil => simp [lookO] at h
  | cons p l ih =>
    obtain ⟨j', x⟩ := p
    rw [lookO_cons] at h
    rw [look_cons]
    split at h
    · rw [if_pos ‹_›]; cases h; rfl
    · rw [if_neg ‹_›]; exact ih h
theorem ext_look {S : Sub} : ∀ {os : List AObj} {m j0 : Nat} {j i : Nat}, lookO (extS S m j0 os) j = some i → j0 ≤ j ∧ j < j0 + os.length ∧ (lookO S j = some (.id i) ∨ ((∀ i', lookO S j ≠ some (.id i')) ∧ m ≤ i))
  | [], _, _, _, _, h => by simp [extS, lookO] at h
  | o :: os, m, j0, j, i, h => by
    simp only [extS] at h
    split at h
    · rename_i i' hi
      rw [lookO_cons] at h
      split at h
      · rename_i he; cases h; subst he; exact ⟨Nat.le_refl _, by simp, .inl hi⟩
      · obtain ⟨h1, h2, h3⟩ := ext_look h
        exact ⟨by omega, by simp; omega, h3⟩
    · rename_i hn
      rw [lookO_cons] at h
      split at h
      · rename_i he; cases h; subst he; exact ⟨Nat.le_refl _, by simp, .inr ⟨fun i' hi => hn i' hi, Nat.le_refl _⟩⟩
      · obtain ⟨h1, h2, h3⟩ := ext_look h
        refine ⟨by omega, by simp; omega, h3.imp id fun ⟨h4, h5⟩ => ⟨h4, by omega⟩⟩
theorem ext_all {S : Sub} : ∀ {os : List AObj} {m j0 j : Nat}, j0 ≤ j → j < j0 + os.length → ∃ i, lookO (extS S m j0 os) j = some i
  | [], _, _, _, h1, h2 => by simp at h2; omega
  | o :: os, m, j0, j, h1, h2 => by
    simp only [extS]
    simp only [List.length_cons] at h2
    split
    · rw [lookO_cons]
      split
      · exact ⟨_, rfl⟩
      · exact ext_all (by omega) (by omega)
    · rw [lookO_cons]
      split
      · exact ⟨_, rfl⟩
      · exact ext_all (by omega) (by omega)
theorem ext_inj {S : Sub} (hd : (allIds S).Nodup) : ∀ {os : List AObj} {m j0 : Nat} {j k i : Nat}, (∀ j i, lookO S j = some (.id i) → i < m) → lookO (extS S m j0 os) j = some i → lookO (extS S m j0 os) k = some i → j = k
  | [], _, _, _, _, _, _, h, _ => by simp [extS, lookO] at h
  | o :: os, m, j0, j, k, i, hm, h1, h2 => by
    simp only [extS] at h1 h2
    split at h1
    · rename_i i' hi
      simp only [hi] at h2
      rw [lookO_cons] at h1 h2
      have key : ∀ {k}, lookO (extS S m j0.succ os) k = some i' → k = j0 := by
        intro k hk
        obtain ⟨_, _, h3⟩ := ext_look hk
        rcases h3 with h3 | ⟨h3, h4⟩
        · exact allIds_inj hd h3 hi
        · have := hm _ _ hi; omega
      split at h1 <;> split at h2
      · omega
      · cases h1; have := key h2; omega
      · cases h2; have := key h1; omega
      · exact ext_inj hd hm h1 h2
    · rename_i hn
      have h2' : lookO ((j0, m) :: extS S m.succ j0.succ os) k = some i := by
        split at h2
        · rename_i i' hi; exact absurd hi (hn i')
        · exact h2
      rw [lookO_cons] at h1 h2'
      have key : ∀ {k}, lookO (extS S m.succ j0.succ os) k = some m → False := by
        intro k hk
        obtain ⟨_, _, h3⟩ := ext_look hk
        rcases h3 with h3 | ⟨h3, h4⟩
        · have := hm _ _ h3; omega
        · omega
      split at h1 <;> split at h2'
      · omega
      · cases h1; exact (key h2').elim
      · cases h2'; exact (key h1).elim
      · exact ext_inj hd (fun j i h => by have := hm j i h; omega) h1 h2'
theorem placed {S : Sub} {m : Nat} {os : List AObj} (hd : (allIds S).Nodup) (hm : ∀ j i, lookO S j = some (.id i) → i < m) : Placed S m os.length (extS S m 0 os) :=
  ⟨fun j hj => ext_all (Nat.zero_le _) (by omega), fun j i h => by have := (ext_look h).2.1; omega, fun j i h => (ext_look h).2.2, fun j k i h1 h2 => ext_inj hd hm h1 h2⟩

theorem putAll_n {r : Nat → Nat} {S : Sub} : ∀ {os : List AObj} {j : Nat} {H : Hp}, H.n ≤ (putAll r S j H os).n ∧ ∀ k i, lookO (extS S H.n j os) k = some i → (∀ j i, lookO S j = some (.id i) → i < H.n) → i < (putAll r S j H os).n
  | [], j, H => ⟨Nat.le_refl _, fun k i h => by simp [extS, lookO] at h⟩
  | o :: os, j, H => by
    simp only [putAll, extS]
    split
    · rename_i i' hi
      have ⟨h1, h2⟩ := putAll_n (r := r) (S := S) (os := os) (j := j.succ) (H := H.set i' (renO r o))
      refine ⟨h1, fun k i hk hm => ?_⟩
      rw [lookO_cons] at hk
      split at hk
      · cases hk; have := hm _ _ hi; have : H.n ≤ (putAll r S j.succ (H.set i' (renO r o)) os).n := h1; omega
      · exact h2 k i hk hm
    · have ⟨h1, h2⟩ := putAll_n (r := r) (S := S) (os := os) (j := j.succ) (H := H.new (renO r o))
      have h1' : H.n + 1 ≤ (putAll r S j.succ (H.new (renO r o)) os).n := h1
      refine ⟨by omega, fun k i hk hm => ?_⟩
      rw [lookO_cons] at hk
      split at hk
      · cases hk; omega
      · exact h2 k i hk fun j i h => by have := hm j i h; show i < H.n + 1; omega
theorem putAll_get {r : Nat → Nat} {S : Sub} (hd : (allIds S).Nodup) : ∀ {os : List AObj} {j0 : Nat} {H : Hp}, (∀ j i, lookO S j = some (.id i) → i < H.n) →
    (∀ i, (∀ j, lookO (extS S H.n j0 os) j ≠ some i) → (putAll r S j0 H os).get i = H.get i) ∧ ∀ k o i, os[k]? = some o → lookO (extS S H.n j0 os) (j0 + k) = some i → (putAll r S j0 H os).get i = renO r o
  | [], j0, H, hm => ⟨fun _ _ => rfl, fun k o i h => by simp at h⟩
  | o :: os, j0, H, hm => by
    simp only [putAll, extS]
    split
    · rename_i i' hi
      have ⟨h1, h2⟩ := putAll_get (r := r) (S := S) hd (os := os) (j0 := j0.succ) (H := H.set i' (renO r o)) hm
      refine ⟨fun i hni => ?_, fun k o' i hk hl => ?_⟩
      · have hne : i ≠ i' := by rintro rfl; exact hni j0 (by rw [lookO_cons, if_pos rfl])
        rw [h1 i fun j hj => ?_, get_set, if_neg hne]
        refine hni j ?_
        have := (ext_look hj).1
        rw [lookO_cons, if_neg (by omega)]; exact hj
      · cases k with
        | zero =>
          cases hk
          rw [Nat.add_zero, lookO_cons, if_pos rfl] at hl
          cases hl
          rw [h1 i' fun j hj => ?_, get_set, if_pos rfl]
          obtain ⟨h3, _, h4⟩ := ext_look hj
          rcases h4 with h4 | ⟨_, h5⟩
          · have := allIds_inj hd h4 hi; omega
          · have := hm _ _ hi; have : H.n ≤ i' := h5; omega
        | succ k =>
          rw [lookO_cons, if_neg (by omega)] at hl
          exact h2 k o' i hk (by rw [show j0.succ + k = j0 + (k + 1) by omega]; exact hl)
    · rename_i hn
      have hm' : ∀ j i, lookO S j = some (.id i) → i < (H.new (renO r o)).n := fun j i h => by have := hm j i h; show i < H.n + 1; omega
      have ⟨h1, h2⟩ := putAll_get (r := r) (S := S) hd (os := os) (j0 := j0.succ) (H := H.new (renO r o)) hm'
      refine ⟨fun i hni => ?_, fun k o' i hk hl => ?_⟩
      · have hne : i ≠ H.n := by rintro rfl; exact hni j0 (by rw [lookO_cons, if_pos rfl])
        rw [h1 i fun j hj => ?_, get_new, if_neg hne]
        refine hni j ?_
        have := (ext_look hj).1
        rw [lookO_cons, if_neg (by omega)]; exact hj
      · cases k with
        | zero =>
          cases hk
          rw [Nat.add_zero, lookO_cons, if_pos rfl] at hl
          cases hl
          rw [h1 H.n fun j hj => ?_, get_new, if_pos rfl]
          obtain ⟨h3, _, h4⟩ := ext_look hj
          rcases h4 with h4 | ⟨_, h5⟩
          · have := hm _ _ h4; omega
          · have : H.n + 1 ≤ H.n := h5; omega
        | succ k =>
          rw [lookO_cons, if_neg (by omega)] at hl
          exact h2 k o' i hk (by rw [show j0.succ + k = j0 + (k + 1) by omega]; exact hl)

/-- The places behind a call: those that were, and those of the contract's new objects. -/
noncomputable def rho2 (ρ ρ' : Rho) (l : List (Nat × Nat)) : Rho := fun i => match ρ i with
  | some x => some x
  | none => open Classical in if h : ∃ j, lookO l j = some i then ρ' (Classical.choose h) else none
/-- The frame: a contract's end, in the greater state. -/
theorem frame {s0 S : Sub} {ps vs : List AV} {os os' : List AObj} {v : AV} {e : Ending} (hU : UniOk H s0 S ps vs os ρ) (hd : (allIds S).Nodup) (hle : os.length ≤ os'.length) (hH : RelH B ρ H w)
    (hm : ∀ j i, lookO S j = some (.id i) → i < H.n)
    (hp : Post B (rho S ρ os) (hp os) os.length w v os' e w') : ∃ u ρ2, e = .returned u ∧ Loud B ρ H w (v.ren (rn (extS S H.n 0 os'))) (putAll (rn (extS S H.n 0 os')) S 0 H os') ρ2 w' u := by
  obtain ⟨ρ', u, rfl, hv, hrel, hkept, hown, hst⟩ := hp
  have hP := placed (os := os') hd hm
  generalize hl : extS S H.n 0 os' = l at hP ⊢
  have hrn : ∀ {j i}, lookO l j = some i → rn l j = i := rn_eq
  -- where the contract's objects are
  have place : ∀ j x, ρ' j = some x → ∃ i, lookO l j = some i ∧ rho2 ρ ρ' l i = some x := by
    intro j x hj
    have hjn : j < os'.length := by
      refine Nat.lt_of_not_le fun hge => ?_
      have := (hrel.fresh j (by rw [hp_n]; exact hge)).1
      rw [hj] at this; cases this
    obtain ⟨i, hi⟩ := hP.all j hjn
    refine ⟨i, hi, ?_⟩
    rcases hP.bound j i hi with hb | ⟨_, hge⟩
    · have hjos := hU.ok j _ hb
      have h1 : rho S ρ os j = ρ i := by simp only [rho, hb]
      cases hri : ρ i with
      | some y =>
        have := hst j y hjos (by rw [h1, hri])
        rw [hj] at this; cases this
        simp only [rho2, hri]
      | none =>
        have hex : ∃ j, lookO l j = some i := ⟨j, hi⟩
        have : Classical.choose hex = j := hP.inj _ _ _ (Classical.choose_spec hex) hi
        simp only [rho2, hri, dif_pos hex, this, hj]
    · have hri := (hH.fresh i hge).1
      have hex : ∃ j, lookO l j = some i := ⟨j, hi⟩
      have : Classical.choose hex = j := hP.inj _ _ _ (Classical.choose_spec hex) hi
      simp only [rho2, hri, dif_pos hex, this, hj]
  have ren : ∀ j x, ρ' j = some x → rho2 ρ ρ' l (rn l j) = some x := fun j x hj => by
    obtain ⟨i, h1, h2⟩ := place j x hj
    rw [hrn h1]; exact h2
  have mono : ∀ i x, ρ i = some x → rho2 ρ ρ' l i = some x := fun i x hi => by simp only [rho2, hi]
  have hget := putAll_get (r := rn l) (S := S) hd (os := os') (j0 := 0) (H := H) hm
  rw [hl] at hget
  have hn := putAll_n (r := rn l) (S := S) (os := os') (j := 0) (H := H)
  rw [hl] at hn
  have hX : ∀ b, Blks (rho S ρ os) (hp os) b → Blks ρ H b := fun b hb => by
    obtain ⟨j, i, x, _, h2, h3, _⟩ := hU.blks hb
    exact ⟨i, x, h2, h3⟩
  -- the objects behind it
  have objs : ∀ j i, lookO l j = some i → (putAll (rn l) S 0 H os').get i = renO (rn l) (os'.getD j .gone) := by
    intro j i hi
    have hj := hP.only j i hi
    have := hget.2 j os'[j] i (by simp [hj]) (by rw [Nat.zero_add]; exact hi)
    rw [this]
    simp [List.getD, hj]
  have hrel2 : RelH B (rho2 ρ ρ' l) (putAll (rn l) S 0 H os') w' := by
    refine hH.step (fun i => ∃ j, lookO l j = some i) hkept hX mono ?_ ?_ ?_ ?_ ?_
    · intro i hi
      refine ⟨hget.1 i fun j hj => hi ⟨j, hj⟩, ?_⟩
      cases hri : ρ i with
      | some x => exact mono i x hri
      | none => simp only [rho2, hri, dif_neg hi]
    · intro i x b hi hx ho hb
      obtain ⟨j, i', x', h1, h2, h3, h5⟩ := hU.blks hb
      obtain ⟨i2, hi2⟩ := hP.all j (by omega)
      have hi2' : i2 = i' := by
        rcases hP.bound j i2 hi2 with hb | ⟨hb, _⟩
        · rw [h1] at hb; cases hb; rfl
        · exact absurd h1 (hb i')
      subst hi2'
      exact hH.sepF i2 i x' x b (fun e => hi ⟨j, e ▸ hi2⟩) h2 hx h3 ho
    · rintro i ⟨j, hj⟩ hne
      rw [objs j i hj] at hne ⊢
      have hne' : os'.getD j .gone ≠ .gone := fun h => hne (gone_ren.2 h)
      obtain ⟨x, h1, h2⟩ := hrel.obj j (by rw [hp_get]; exact hne')
      rw [hp_get] at h2
      have h3 := ren j x h1
      rw [hrn hj] at h3
      refine ⟨x, h3, objRel_ren ren h2, fun b ho => ?_⟩
      exact hown b ⟨j, x, h1, by rw [hp_get]; exact foot_ren.1 ho⟩
    · rintro i i' li li' b ⟨j, hj⟩ ⟨j', hj'⟩ hne h1 h2 h3 h4
      rw [objs j i hj] at h3
      rw [objs j' i' hj'] at h4
      have h3 := foot_ren.1 h3
      have h4 := foot_ren.1 h4
      rw [← hp_get] at h3 h4
      obtain ⟨x, h5, _⟩ := hrel.obj j h3.ne
      obtain ⟨x', h6, _⟩ := hrel.obj j' h4.ne
      have h7 := ren j x h5
      have h8 := ren j' x' h6
      rw [hrn hj] at h7
      rw [hrn hj'] at h8
      rw [h1] at h7; cases h7
      rw [h2] at h8; cases h8
      refine hrel.sepF j j' _ _ b (fun e => hne ?_) h5 h6 h3 h4
      subst e
      rw [hj] at hj'; cases hj'; rfl
    · intro i hi
      have hge : H.n ≤ i := Nat.le_trans hn.1 hi
      have hno : ∀ j, lookO l j ≠ some i := fun j hj => by have := hn.2 j i hj hm; omega
      refine ⟨?_, ?_⟩
      · simp only [rho2, (hH.fresh i hge).1]
        rw [dif_neg]
        rintro ⟨j, hj⟩; exact hno j hj
      · rw [hget.1 i hno]; exact (hH.fresh i hge).2
  refine ⟨u, rho2 ρ ρ' l, rfl, den_ren ren hv, mono, hrel2, hkept.mono hX, fun b hb => ?_⟩
  obtain ⟨i, x, h1, h2⟩ := hb
  by_cases hc : ∃ j, lookO l j = some i
  · obtain ⟨j, hj⟩ := hc
    rw [objs j i hj] at h2
    have h2 := foot_ren.1 h2
    rw [← hp_get] at h2
    obtain ⟨x', h5, _⟩ := hrel.obj j h2.ne
    have h7 := ren j x' h5
    rw [hrn hj, h1] at h7; cases h7
    rcases hown b ⟨j, _, h5, h2⟩ with h8 | h8
    · exact .inl (hX b h8)
    · exact .inr h8
  · rw [hget.1 i fun j hj => hc ⟨j, hj⟩] at h2
    have h4 : ρ i = some x := by
      cases hri : ρ i with
      | some y => rw [mono i y hri] at h1; exact h1
      | none => simp only [rho2, hri, dif_neg hc] at h1; cases h1
    exact .inl ⟨i, x, h4, h2⟩

theorem calledA_sound {T : TriI E} {o : Oper} {us : List AV} {c0 : List Prop} (h : calledA T tm o.op = some (us, c0)) (hc : AllP c0) (ht : RelT ρ tm a) (hg : RelG E.gc B w) :
    ∃ vs, (execOp a.eval o).run E.P w = .ok (.enter T.f vs.toArray) w ∧ DenL ρ us vs := by
  obtain ⟨dst, op, ty', pos, after, guard⟩ := o
  cases op <;> simp only [calledA] at h <;> try (cases h; done)
  rename_i c
  obtain ⟨callee, args, ts⟩ := c
  have hargs := lmap_den (E := E) ht hg args.toList
  cases callee <;> simp only at h <;> try (cases h; done)
  · rename_i f
    split at h <;> try (cases h; done)
    rename_i g fs cs hf
    split at h <;> cases h
    rename_i hb
    obtain rfl := Nat.eq_of_beq_eq_true hb
    have hd := den_opv (E := E) ht hg f
    rw [hf] at hd
    obtain ⟨f', c', he, h1, h2⟩ := hd
    refine ⟨(f'.toList ++ args.toList.map a.eval) ++ c'.toList, ?_, denL_app (denL_app h1 hargs) h2⟩
    have e : ((f'.toList ++ args.toList.map a.eval) ++ c'.toList).toArray = f' ++ args.map a.eval ++ c' := Array.ext' (by simp)
    rw [e]
    simp only [execOp, resolve, he, Deferred.ofValue, Sem.run_bind, Sem.run_pure, Result.andThen_ok, invoke]
    exact T.ok.enters _ _
  · rename_i r name
    split at h <;> try (cases h; done)
    rename_i t nm hvia
    split at h <;> try (cases h; done)
    rename_i u v hr
    split at h <;> cases h
    rename_i hb
    obtain rfl := Nat.eq_of_beq_eq_true hb
    obtain ⟨rfl, _⟩ := hc
    have hd := den_opv (E := E) ht hg r
    rw [hr] at hd
    obtain ⟨x, he, h1⟩ := hd
    refine ⟨x :: args.toList.map a.eval, ?_, x, _, rfl, h1, hargs⟩
    have hmt := T.meth _ _ hvia x w
    have e1 : (#[Value.iface u x] ++ args.map a.eval)[0]? = some (Value.iface u x) := by rw [Array.getElem?_append_left (by simp)]; rfl
    have e2 : (#[Value.iface u x] ++ args.map a.eval).extract 1 (#[Value.iface u x] ++ args.map a.eval).size = args.map a.eval := by
      refine Array.ext' ?_
      simp only [Array.toList_extract, Array.toList_append, Array.size_append, List.extract]
      simp
      exact List.take_of_length_le (by simp)
    have e3 : (x :: args.toList.map a.eval).toArray = #[x] ++ args.map a.eval := Array.ext' (by simp)
    rw [e3]
    simp only [execOp, resolve, he, Sem.run_bind, Sem.run_pure, Result.andThen_ok, invoke, e1, e2, callMethod]
    have hp : (program : Sem Program).run E.P w = .ok E.P w := rfl
    simp only [hp, Result.andThen_ok, hmt]
    exact T.ok.enters _ _
theorem belowN_spec {n : Nat} : ∀ {l : List Nat}, belowN n l = true → ∀ i ∈ l, i < n
  | [], _, i, hi => by cases hi
  | j :: l, h, i, hi => by
    simp only [belowN] at h
    split at h <;> try (cases h; done)
    rename_i hb
    have hb := Nat.le_of_ble_eq_true hb
    rcases List.mem_cons.1 hi with rfl | hi
    · exact hb
    · exact belowN_spec h i hi
theorem call_wp {T : TriI E} {o : Oper} {v : AV} {H' : Hp} {cs : List Prop} (h : evCall T o.op tm H = some (v, H', cs)) (hc : AllP cs) (ht : RelT ρ tm a) (hg : RelG E.gc B w) (hH : RelH B ρ H w)
    {K : Act → World → Prop} {Q : Exit → Act → World → Prop} (hK : ∀ u w' ρ', Loud B ρ H w v H' ρ' w' u → K (a.put o.dst u) w') : o.wp E.P a w K Q := by
  unfold evCall at h
  split at h <;> try (cases h; done)
  rename_i us c0 hca
  split at h <;> try (cases h; done)
  rename_i S c1 huni
  split at h <;> try (cases h; done)
  rename_i hdist
  split at h <;> cases h
  rename_i hble
  have ⟨hc0, hc1⟩ := allP_app2 hc
  obtain ⟨vs, hexec, hden⟩ := calledA_sound hca hc0 ht hg
  have hU := uni_sound huni hc1 (fun _ _ h => by simp [lookO] at h) ρ
  have hble := Nat.le_of_ble_eq_true hble
  rw [len_eq, len_eq] at hble
  rw [Bool.and_eq_true] at hdist
  have hd := distinct_nodup hdist.1
  have hm : ∀ j i, lookO S j = some (.id i) → i < H.n := fun j i h => belowN_spec hdist.2 i (mem_allIds h)
  · rw [Oper.wp, hexec, Oper.upon_enter]
    refine (T.ok.run B (rho S ρ T.os) w vs (hU.rel hH) hg (hU.den _ hden)).mono fun e w' hp => ?_
    obtain ⟨u, ρ2, rfl, hl⟩ := frame hU hd hble hH hm hp
    exact hK u w' ρ2 hl
end
end Go.Proofs.YtnheodgffackoaaDoor.E
