/- The engine: patterns. A state of patterns is matched against another state: which objects are meant, and what is to be equal. -/
import Derived.Test.YtnheodgffackoaaDoorEq
namespace Go.Proofs.YtnheodgffackoaaDoor.E
set_option linter.unusedSimpArgs false
set_option linter.unusedVariables false
open Go

inductive Src where
  | id (i : Nat)
  | nil
abbrev Sub := List (Nat × Src)
abbrev UR := Option (Sub × List Prop)

def bindId (n : Nat) (s : Sub) (j i : Nat) : Option Sub := match lookO s j with
  | some (.id i') => match Nat.beq i' i with
    | true => some s
    | false => none
  | some .nil => none
  | none => match Nat.ble (Nat.succ j) n with
    | true => some ((j, .id i) :: s)
    | false => none
def bindNil (n : Nat) (s : Sub) (j : Nat) : Option Sub := match lookO s j with
  | some .nil => some s
  | some (.id _) => none
  | none => match Nat.ble (Nat.succ j) n with
    | true => some ((j, .nil) :: s)
    | false => none
def fnEq : Fn → Fn → Bool
  | .func f, .func g => Nat.beq f g
  | _, _ => false
mutual
/-- A value's pattern, and a value. -/
def uV (n : Nat) (s : Sub) : AV → AV → UR
  | .any, _ => some (s, [])
  | .undef, .undef => some (s, [])
  | .int j a, .int k b => match kindEq j k with
    | true => some (s, [b = a])
    | false => none
  | .bl a, .bl b => some (s, [b = a])
  | .bl a, .bool b => some (s, [b = a])
  | .bool a, .bl b => some (s, [b = a])
  | .bool a, .bool b => some (s, [b = a])
  | .str a, .str b => some (s, [b = a])
  | .nilptr, .nilptr => some (s, [])
  | .ptr i x f, .ptr j y g => match bindId n s i j with
    | some s => some (s, [y = x, g = f])
    | none => none
  | .glob i f, .glob j g => some (s, [j = i, g = f])
  | .nilslice, .nilslice => some (s, [])
  | .empty, .nilslice => some (s, [])
  | .empty, .empty => some (s, [])
  | .eslice, .eslice => some (s, [])
  | .slice i o l, .slice j o' l' => match bindId n s i j with
    | some s => some (s, [o' = o, l' = l])
    | none => none
  | .slice i o l, .nilslice => match bindNil n s i with
    | some s => some (s, [o = 0, l = 0])
    | none => none
  | .slice i o l, .empty => match bindNil n s i with
    | some s => some (s, [o = 0, l = 0])
    | none => none
  | .nilfunc, .nilfunc => some (s, [])
  | .func fn fs cs, .func fn' fs' cs' => match fnEq fn fn' with
    | true => match uL n s fs fs' with
      | some (s, p) => match uL n s cs cs' with
        | some (s, q) => some (s, app2 p q)
        | none => none
      | none => none
    | false => none
  | .niliface, .niliface => some (s, [])
  | .iface t a, .iface u b => match Nat.beq t u with
    | true => uV n s a b
    | false => none
  | .agg a, .agg b => uL n s a b
  | .tuple a, .tuple b => uL n s a b
  | .nilmap, .nilmap => some (s, [])
  | .map i, .map j => match bindId n s i j with
    | some s => some (s, [])
    | none => none
  | .raw a, .raw b => some (s, [b = a])
  | _, _ => none
def uL (n : Nat) (s : Sub) : List AV → List AV → UR
  | [], [] => some (s, [])
  | p :: ps, v :: vs => match uV n s p v with
    | some (s, c) => match uL n s ps vs with
      | some (s, d) => some (s, app2 c d)
      | none => none
    | none => none
  | _, _ => none
end
/-- A map's entries, as entries of other kinds, where these are the same. -/
def castE : (kk vk kk' vk' : K) → List (Ent kk vk) → Option (List (Ent kk' vk'))
  | .int a, .int b, .int c, .int d, es => match kindEq a c, kindEq b d with
    | true, true => some es
    | _, _ => none
  | .int a, .unit, .int c, .unit, es => match kindEq a c with
    | true => some es
    | _ => none
  | .int a, .pair (.int b) (.int b'), .int c, .pair (.int d) (.int d'), es => match kindEq a c, kindEq b d, kindEq b' d' with
    | true, true, true => some es
    | _, _, _ => none
  | .pair (.int a) (.int a'), .unit, .pair (.int c) (.int c'), .unit, es => match kindEq a c, kindEq a' c' with
    | true, true => some es
    | _, _ => none
  | .pair (.int a) (.int a'), .int b, .pair (.int c) (.int c'), .int d, es => match kindEq a c, kindEq a' c', kindEq b d with
    | true, true, true => some es
    | _, _, _ => none
  | _, _, _, _, _ => none
theorem castE_spec {kk vk kk' vk' : K} {es : List (Ent kk vk)} {es' : List (Ent kk' vk')} (h : castE kk vk kk' vk' es = some es') : kk = kk' ∧ vk = vk' ∧ HEq es es' := by
  unfold castE at h
  split at h <;> try (cases h; done)
  all_goals
    split at h <;> cases h
    repeat (rename_i hk; obtain rfl := kindEq_eq hk; clear hk)
    exact ⟨rfl, rfl, HEq.rfl⟩
/-- All ids that are bound to an object. -/
def allIds : Sub → List Nat
  | [] => []
  | (_, .id i) :: s => i :: allIds s
  | _ :: s => allIds s
/-- An object of many blocks that nothing is bound to, of the highest number. -/
def findBig (H : Hp) (s : Sub) : Nat → Option Nat
  | 0 => none
  | i + 1 => match isBigQ (H.get i) with
    | true => match memN (allIds s) i with
      | true => findBig H s i
      | false => some i
    | false => findBig H s i
/-- .. with other objects in sight. -/
def findBox (H : Hp) (s : Sub) (tag : Nat) : Nat → Option Nat
  | 0 => none
  | i + 1 => match isBox tag (H.get i) with
    | true => match memN (allIds s) i with
      | true => findBox H s tag i
      | false => some i
    | false => findBox H s tag i
def bindIds (n : Nat) (s : Sub) : List Nat → List Nat → Option Sub
  | [], [] => some s
  | j :: js, i :: is => match bindId n s j i with
    | some s => bindIds n s js is
    | none => none
  | _, _ => none
def uBox (n : Nat) (s : Sub) (tag : Nat) (ids : List Nat) (P : List Loc → World → Nat → Prop) : AObj → UR
  | .box tag' ids' P' => match bindIds n s ids ids' with
    | some s => some (s, [tag' = tag, P' = P])
    | none => none
  | _ => none
def uO (n : Nat) (H : Hp) (s : Sub) (j : Nat) : AObj → UR
  | .gone => some (s, [])
  | .cells cs => match lookO s j with
    | some (.id i) => match H.get i with
      | .cells cs' => uL n s cs cs'
      | _ => none
    | _ => none
  | .tab own k xs => match lookO s j with
    | some (.id i) => match H.get i with
      | .tab own' k' xs' => match castT k' k xs' with
        | some zs => some (s, [own' = own, zs = xs])
        | none => none
      | _ => none
    | some .nil => some (s, [xs = []])
    | none => none
  | .row sz cs => match lookO s j with
    | some (.id i) => match H.get i with
      | .row sz' cs' => match Nat.beq sz' sz with
        | true => uL n s cs cs'
        | false => none
      | _ => none
    | _ => none
  | .map kk vk c es => match lookO s j with
    | some (.id i) => match H.get i with
      | .map kk' vk' c' es' => match castE kk' vk' kk vk es' with
        | some zs => some (s, [c' = c, zs = es])
        | none => none
      | _ => none
    | _ => none
  | .mix k P v => match lookO s j with
    | some (.id i) => match H.get i with
      | .mix k' P' v' => match uV n s v v' with
        | some (s, cs) => some (s, (k' = k) :: (∀ a b, P' a b → P a b) :: cs)
        | none => none
      | _ => none
    | _ => none
  | .iter id c seen => match lookO s j with
    | some (.id i) => match H.get i with
      | .iter id' c' seen' => match bindId n s id id' with
        | some s => some (s, [c' = c, seen' = seen])
        | none => none
      | _ => none
    | _ => none
  | .iterX id c seen bs => match lookO s j with
    | some (.id i) => match H.get i with
      | .iterX id' c' seen' bs' => match bindId n s id id' with
        | some s => some (s, [c' = c, seen' = seen, bs' = bs])
        | none => none
      | _ => none
    | _ => none
  | .big Q => match lookO s j with
    | some (.id i) => match H.get i with
      | .big Q' => some (s, [Q' = Q])
      | _ => none
    | some .nil => none
    | none => match findBig H s H.n with
      | some i => match H.get i with
        | .big Q' => match bindId n s j i with
          | some s => some (s, [Q' = Q])
          | none => none
        | _ => none
      | none => none
  | .box tag ids P => match lookO s j with
    | some (.id i) => uBox n s tag ids P (H.get i)
    | some .nil => none
    | none => match findBox H s tag H.n with
      | some i => match bindId n s j i with
        | some s => uBox n s tag ids P (H.get i)
        | none => none
      | none => none
  | .link id => match lookO s j with
    | some (.id i) => match H.get i with
      | .link id' => match bindId n s id id' with
        | some s => some (s, [])
        | none => none
      | _ => none
    | _ => none
def uOs (n : Nat) (H : Hp) (s : Sub) (j : Nat) : List AObj → UR
  | [] => some (s, [])
  | o :: os => match uO n H s j o with
    | some (s, c) => match uOs n H s (Nat.succ j) os with
      | some (s, d) => some (s, app2 c d)
      | none => none
    | none => none
def distinct : List Nat → Bool
  | [] => true
  | i :: l => match memN l i with
    | true => false
    | false => distinct l
/-- The objects that those of some patterns are which are not gone. -/
def idsOf (s : Sub) (j : Nat) : List AObj → List Nat
  | [] => []
  | .gone :: os => idsOf s (Nat.succ j) os
  | _ :: os => match lookO s j with
    | some (.id i) => i :: idsOf s (Nat.succ j) os
    | _ => idsOf s (Nat.succ j) os
def uni (H : Hp) (s : Sub) (ps vs : List AV) (os : List AObj) : UR := match uL (len os) s ps vs with
  | some (s, c) => match uOs (len os) H s 0 os with
    | some (s, d) => match distinct (idsOf s 0 os) with
      | true => some (s, app2 c d)
      | false => none
    | none => none
  | none => none

def objSz : AObj → Nat
  | .tab _ k _ => k.size
  | _ => 0
/-- Where the patterns' objects lie. -/
def rho (s : Sub) (ρ : Rho) (os : List AObj) : Rho := fun j => match lookO s j with
  | some (.id i) => ρ i
  | some .nil => some ⟨0, 0, objSz (os.getD j .gone), 0⟩
  | none => none
def SubLe (s s' : Sub) : Prop := ∀ j x, lookO s j = some x → lookO s' j = some x
def SubOk (n : Nat) (s : Sub) : Prop := ∀ j x, lookO s j = some x → j < n

theorem memN_false {l : List Nat} {j : Nat} : memN l j = false ↔ j ∉ l := by
  rw [← memN_iff]; simp
theorem distinct_nodup {l : List Nat} : distinct l = true → l.Nodup := by
  induction l with
  | nil => simp
  | cons i l ih =>
    intro h
    simp only [distinct] at h
    split at h <;> try (cases h; done)
    rename_i hm
    exact List.nodup_cons.2 ⟨memN_false.1 hm, ih h⟩
theorem lookO_cons {β : Type _} {i j : Nat} {b : β} {l : List (Nat × β)} : lookO ((i, b) :: l) j = if j = i then some b else lookO l j := by
  simp only [lookO]
  split
  · rename_i h; rw [if_pos (Nat.eq_of_beq_eq_true h).symm]
  · rename_i h; rw [if_neg (by rintro rfl; simp at h)]
theorem SubLe.refl (s : Sub) : SubLe s s := fun _ _ h => h
theorem SubLe.trans {a b c : Sub} (h : SubLe a b) (h' : SubLe b c) : SubLe a c := fun j x hx => h' j x (h j x hx)
theorem bindId_spec {n : Nat} {s s' : Sub} {j i : Nat} (h : bindId n s j i = some s') : SubLe s s' ∧ lookO s' j = some (.id i) ∧ (SubOk n s → SubOk n s') := by
  unfold bindId at h
  split at h
  · rename_i i' hi
    split at h <;> cases h
    rename_i hb
    obtain rfl := Nat.eq_of_beq_eq_true hb
    exact ⟨.refl _, hi, id⟩
  · cases h
  · rename_i hi
    split at h <;> cases h
    rename_i hb
    have hb := Nat.le_of_ble_eq_true hb
    refine ⟨fun k x hk => ?_, by rw [lookO_cons, if_pos rfl], fun hs k x hk => ?_⟩
    · rw [lookO_cons, if_neg (by rintro rfl; rw [hi] at hk; cases hk)]; exact hk
    · rw [lookO_cons] at hk
      split at hk
      · rename_i he; subst he; exact hb
      · exact hs k x hk
theorem bindNil_spec {n : Nat} {s s' : Sub} {j : Nat} (h : bindNil n s j = some s') : SubLe s s' ∧ lookO s' j = some .nil ∧ (SubOk n s → SubOk n s') := by
  unfold bindNil at h
  split at h
  · rename_i hi
    cases h
    exact ⟨.refl _, hi, id⟩
  · cases h
  · rename_i hi
    split at h <;> cases h
    rename_i hb
    have hb := Nat.le_of_ble_eq_true hb
    refine ⟨fun k x hk => ?_, by rw [lookO_cons, if_pos rfl], fun hs k x hk => ?_⟩
    · rw [lookO_cons, if_neg (by rintro rfl; rw [hi] at hk; cases hk)]; exact hk
    · rw [lookO_cons] at hk
      split at hk
      · rename_i he; subst he; exact hb
      · exact hs k x hk
theorem fnEq_eq {f g : Fn} (h : fnEq f g = true) : f = g := by
  cases f <;> cases g <;> simp only [fnEq] at h <;> first | (cases h; done) | rw [Nat.eq_of_beq_eq_true h]

/-- What a match says: the places grow; what was the value is the pattern. -/
def UOk (n : Nat) (s s' : Sub) (cs : List Prop) (P : Sub → Rho → List AObj → Prop) : Prop :=
  SubLe s s' ∧ (SubOk n s → SubOk n s') ∧ (AllP cs → ∀ (t : Sub) (ρ : Rho) (os : List AObj), SubLe s' t → P t ρ os)
mutual
theorem uV_sound (n : Nat) : ∀ (p v : AV) {s s' : Sub} {cs : List Prop}, uV n s p v = some (s', cs) → UOk n s s' cs fun t ρ os => ∀ x, Den ρ v x → Den (rho t ρ os) p x
  | .any, _, s, s', cs, h => by cases h; exact ⟨.refl _, id, fun _ _ _ _ _ _ _ => trivial⟩
  | .undef, v, s, s', cs, h => by
    cases v <;> simp only [uV, reduceCtorEq] at h
    cases h; exact ⟨.refl _, id, fun _ _ _ _ _ _ hx => hx⟩
  | .int j a, v, s, s', cs, h => by
    cases v <;> simp only [uV, reduceCtorEq] at h
    split at h <;> cases h
    rename_i hk
    exact ⟨.refl _, id, fun hc _ _ _ _ _ hx => by simp only [Den] at hx ⊢; rw [hx, kindEq_eq hk, hc.1]⟩
  | .bl a, v, s, s', cs, h => by
    cases v <;> simp only [uV, reduceCtorEq] at h
    all_goals cases h; exact ⟨.refl _, id, fun hc _ _ _ _ _ hx => by simp only [Den] at hx ⊢; rw [hx, hc.1]⟩
  | .bool a, v, s, s', cs, h => by
    cases v <;> simp only [uV, reduceCtorEq] at h
    all_goals cases h; exact ⟨.refl _, id, fun hc _ _ _ _ _ hx => by simp only [Den] at hx ⊢; rw [hx, hc.1]⟩
  | .str a, v, s, s', cs, h => by
    cases v <;> simp only [uV, reduceCtorEq] at h
    cases h; exact ⟨.refl _, id, fun hc _ _ _ _ _ hx => by simp only [Den] at hx ⊢; rw [hx, hc.1]⟩
  | .nilptr, v, s, s', cs, h => by
    cases v <;> simp only [uV, reduceCtorEq] at h
    cases h; exact ⟨.refl _, id, fun _ _ _ _ _ _ hx => hx⟩
  | .ptr i x f, v, s, s', cs, h => by
    cases v <;> simp only [uV, reduceCtorEq] at h
    split at h <;> cases h
    rename_i hb
    obtain ⟨h1, h2, h3⟩ := bindId_spec hb
    refine ⟨h1, h3, fun hc t ρ os ht y hy => ?_⟩
    obtain ⟨l, h4, h5⟩ := hy
    exact ⟨l, by simp only [rho, ht _ _ h2, h4], by rw [h5, hc.1, hc.2.1]⟩
  | .glob i f, v, s, s', cs, h => by
    cases v <;> simp only [uV, reduceCtorEq] at h
    cases h; exact ⟨.refl _, id, fun hc _ _ _ _ _ hx => by simp only [Den] at hx ⊢; rw [hx, hc.1, hc.2.1]⟩
  | .nilslice, v, s, s', cs, h => by
    cases v <;> simp only [uV, reduceCtorEq] at h
    cases h; exact ⟨.refl _, id, fun _ _ _ _ _ _ hx => hx⟩
  | .empty, v, s, s', cs, h => by
    cases v <;> simp only [uV, reduceCtorEq] at h
    · cases h; exact ⟨.refl _, id, fun _ _ _ _ _ x hx => ⟨none, hx⟩⟩
    · cases h; exact ⟨.refl _, id, fun _ _ _ _ _ _ hx => hx⟩
  | .eslice, v, s, s', cs, h => by
    cases v <;> simp only [uV, reduceCtorEq] at h
    cases h; exact ⟨.refl _, id, fun _ _ _ _ _ _ hx => hx⟩
  | .slice i o l, v, s, s', cs, h => by
    cases v <;> simp only [uV, reduceCtorEq] at h
    · split at h <;> cases h
      rename_i hb
      obtain ⟨h1, h2, h3⟩ := bindNil_spec hb
      refine ⟨h1, h3, fun hc t ρ os ht y hy => ?_⟩
      obtain ⟨rfl, rfl, _⟩ := hc
      simp only [Den] at hy; subst hy
      exact ⟨⟨0, 0, objSz (os.getD i .gone), 0⟩, none, 0, by simp only [rho, ht _ _ h2], rfl, Nat.le_refl _, by simp, fun h => absurd h (Nat.lt_irrefl _)⟩
    · split at h <;> cases h
      rename_i hb
      obtain ⟨h1, h2, h3⟩ := bindNil_spec hb
      refine ⟨h1, h3, fun hc t ρ os ht y hy => ?_⟩
      obtain ⟨rfl, rfl, _⟩ := hc
      obtain ⟨a, rfl⟩ := hy
      exact ⟨⟨0, 0, objSz (os.getD i .gone), 0⟩, a, 0, by simp only [rho, ht _ _ h2], rfl, Nat.le_refl _, by simp, fun h => absurd h (Nat.lt_irrefl _)⟩
    · split at h <;> cases h
      rename_i hb
      obtain ⟨h1, h2, h3⟩ := bindId_spec hb
      refine ⟨h1, h3, fun hc t ρ os ht y hy => ?_⟩
      obtain ⟨rfl, rfl, _⟩ := hc
      obtain ⟨l, a, cap, h4, h5⟩ := hy
      exact ⟨l, a, cap, by simp only [rho, ht _ _ h2, h4], h5⟩
  | .nilfunc, v, s, s', cs, h => by
    cases v <;> simp only [uV, reduceCtorEq] at h
    cases h; exact ⟨.refl _, id, fun _ _ _ _ _ _ hx => hx⟩
  | .func fn fs ks, v, s, s', cs, h => by
    cases v <;> simp only [uV, reduceCtorEq] at h
    split at h <;> try (cases h; done)
    rename_i hfn
    split at h <;> try (cases h; done)
    rename_i h1
    split at h <;> cases h
    rename_i h2
    obtain ⟨a1, a2, a3⟩ := uL_sound n _ _ h1
    obtain ⟨b1, b2, b3⟩ := uL_sound n _ _ h2
    refine ⟨a1.trans b1, fun hs => b2 (a2 hs), fun hc t ρ os ht x hx => ?_⟩
    have ⟨c1, c2⟩ := allP_app2 hc
    obtain ⟨f, c, rfl, h3, h4⟩ := hx
    exact ⟨f, c, by rw [fnEq_eq hfn], a3 c1 t ρ os (b1.trans ht) _ h3, b3 c2 t ρ os ht _ h4⟩
  | .niliface, v, s, s', cs, h => by
    cases v <;> simp only [uV, reduceCtorEq] at h
    cases h; exact ⟨.refl _, id, fun _ _ _ _ _ _ hx => hx⟩
  | .iface ty a, v, s, s', cs, h => by
    cases v <;> simp only [uV, reduceCtorEq] at h
    split at h <;> try (cases h; done)
    rename_i hb
    obtain rfl := Nat.eq_of_beq_eq_true hb
    obtain ⟨a1, a2, a3⟩ := uV_sound n _ _ h
    refine ⟨a1, a2, fun hc t ρ os ht x hx => ?_⟩
    obtain ⟨u, rfl, h3⟩ := hx
    exact ⟨u, rfl, a3 hc t ρ os ht _ h3⟩
  | .agg a, v, s, s', cs, h => by
    cases v <;> simp only [uV, reduceCtorEq] at h
    obtain ⟨a1, a2, a3⟩ := uL_sound n _ _ h
    refine ⟨a1, a2, fun hc t ρ os ht x hx => ?_⟩
    obtain ⟨u, rfl, h3⟩ := hx
    exact ⟨u, rfl, a3 hc t ρ os ht _ h3⟩
  | .tuple a, v, s, s', cs, h => by
    cases v <;> simp only [uV, reduceCtorEq] at h
    obtain ⟨a1, a2, a3⟩ := uL_sound n _ _ h
    refine ⟨a1, a2, fun hc t ρ os ht x hx => ?_⟩
    obtain ⟨u, rfl, h3⟩ := hx
    exact ⟨u, rfl, a3 hc t ρ os ht _ h3⟩
  | .nilmap, v, s, s', cs, h => by
    cases v <;> simp only [uV, reduceCtorEq] at h
    cases h; exact ⟨.refl _, id, fun _ _ _ _ _ _ hx => hx⟩
  | .map i, v, s, s', cs, h => by
    cases v <;> simp only [uV, reduceCtorEq] at h
    split at h <;> cases h
    rename_i hb
    obtain ⟨h1, h2, h3⟩ := bindId_spec hb
    refine ⟨h1, h3, fun hc t ρ os ht y hy => ?_⟩
    obtain ⟨l, h4, h5⟩ := hy
    exact ⟨l, by simp only [rho, ht _ _ h2, h4], h5⟩
  | .raw a, v, s, s', cs, h => by
    cases v <;> simp only [uV, reduceCtorEq] at h
    cases h; exact ⟨.refl _, id, fun hc _ _ _ _ _ hx => by simp only [Den] at hx ⊢; rw [hx, hc.1]⟩
theorem uL_sound (n : Nat) : ∀ (p v : List AV) {s s' : Sub} {cs : List Prop}, uL n s p v = some (s', cs) → UOk n s s' cs fun t ρ os => ∀ x, DenL ρ v x → DenL (rho t ρ os) p x
  | [], v, s, s', cs, h => by
    cases v <;> simp only [uL, reduceCtorEq] at h
    cases h; exact ⟨.refl _, id, fun _ _ _ _ _ _ hx => hx⟩
  | p :: ps, v, s, s', cs, h => by
    cases v <;> simp only [uL, reduceCtorEq] at h
    split at h <;> try (cases h; done)
    rename_i h1
    split at h <;> cases h
    rename_i h2
    obtain ⟨a1, a2, a3⟩ := uV_sound n _ _ h1
    obtain ⟨b1, b2, b3⟩ := uL_sound n _ _ h2
    refine ⟨a1.trans b1, fun hs => b2 (a2 hs), fun hc t ρ os ht x hx => ?_⟩
    have ⟨c1, c2⟩ := allP_app2 hc
    obtain ⟨y, ys, rfl, h3, h4⟩ := hx
    exact ⟨y, ys, rfl, a3 c1 t ρ os (b1.trans ht) _ h3, b3 c2 t ρ os ht _ h4⟩
end

theorem enc_ren {ρ ρ' : Rho} : ∀ (k : K) (x : ty k) {vs : List Value}, DenL ρ (enc k x) vs → DenL ρ' (enc k x) vs
  | .int _, _, _, h => h
  | .bool, _, _, h => h
  | .unit, _, _, h => h
  | .raw, _, _, h => h
  | .pair a b, x, vs, h => by
    obtain ⟨v1, v2, rfl, h1, h2⟩ := enc_app (l := enc a x.1) (l' := enc b x.2) h
    exact app_enc (enc_ren a x.1 h1) (enc_ren b x.2 h2)
theorem elems_ren {ρ ρ' : Rho} {w : World} {l : Loc} {k : K} {xs : List (ty k)} (h : Elems ρ w l k xs) : Elems ρ' w l k xs := fun j x hj => by
  obtain ⟨vs, h1, h2, h3⟩ := h j x hj
  exact ⟨vs, enc_ren k x h1, h2, h3⟩

/-- What the match of an object says. -/
def OOk (H : Hp) (t : Sub) (ρ : Rho) (os : List AObj) (j : Nat) (o : AObj) : Prop :=
  o = .gone ∨ (∃ i, lookO t j = some (.id i) ∧ H.get i ≠ .gone ∧ (∀ l b, Foot l o b → Foot l (H.get i) b) ∧ ∀ B w l, ObjRel B ρ w l (H.get i) → ObjRel B (rho t ρ os) w l o) ∨ (lookO t j = some .nil ∧ ∃ own k, o = .tab own k [])
theorem bindIds_spec {n : Nat} : ∀ {js is : List Nat} {s s' : Sub}, bindIds n s js is = some s' → SubLe s s' ∧ (SubOk n s → SubOk n s') ∧ ∀ t ρ os ls, SubLe s' t → LocsL ρ is ls → LocsL (rho t ρ os) js ls
  | [], [], s, s', h => by cases h; exact ⟨.refl _, id, fun t ρ os ls _ hl => by cases ls <;> first | trivial | exact hl.elim⟩
  | [], _ :: _, s, s', h => by cases h
  | _ :: _, [], s, s', h => by cases h
  | j :: js, i :: is, s, s', h => by
    simp only [bindIds] at h
    split at h <;> try (cases h; done)
    rename_i s1 h1
    obtain ⟨b1, b2, b3⟩ := bindId_spec h1
    obtain ⟨c1, c2, c3⟩ := bindIds_spec h
    refine ⟨b1.trans c1, fun hk => c2 (b3 hk), fun t ρ os ls ht hl => ?_⟩
    cases ls with
    | nil => exact hl.elim
    | cons l ls => exact ⟨by simp only [rho, ht _ _ (c1 _ _ b2)]; exact hl.1, c3 t ρ os ls ht hl.2⟩
theorem uBox_spec {n : Nat} {s s' : Sub} {tag : Nat} {ids : List Nat} {P : List Loc → World → Nat → Prop} {o : AObj} {cs : List Prop} (h : uBox n s tag ids P o = some (s', cs)) : ∃ tag' ids' P', o = .box tag' ids' P' ∧ bindIds n s ids ids' = some s' ∧ (AllP cs → P' = P) := by
  unfold uBox at h
  split at h <;> try (cases h; done)
  split at h <;> cases h
  rename_i hb2
  exact ⟨_, _, _, rfl, hb2, fun hc => hc.2.1⟩
theorem uO_sound {n : Nat} {H : Hp} {s s' : Sub} {j : Nat} {o : AObj} {cs : List Prop} (h : uO n H s j o = some (s', cs)) : UOk n s s' cs fun t ρ os => OOk H t ρ os j o := by
  cases o with
  | gone => cases h; exact ⟨.refl _, id, fun _ _ _ _ _ => .inl rfl⟩
  | cells ps =>
    simp only [uO] at h
    split at h <;> try (cases h; done)
    rename_i i hi
    split at h <;> try (cases h; done)
    rename_i cs' hget
    obtain ⟨a1, a2, a3⟩ := uL_sound n _ _ h
    refine ⟨a1, a2, fun hc t ρ os ht => .inr (.inl ⟨i, ht _ _ (a1 _ _ hi), by rw [hget]; simp, (fun l b => foot_of rfl fun _ => by rw [hget]; trivial), ?_⟩)⟩
    rw [hget]
    rintro B w l ⟨h1, h2, bc, tt, h3, h4⟩
    exact ⟨h1, h2, bc, tt, h3, a3 hc t ρ os ht _ h4⟩
  | tab own k xs =>
    simp only [uO] at h
    split at h <;> try (cases h; done)
    · rename_i i hi
      split at h <;> try (cases h; done)
      rename_i own' k' xs' hget
      split at h <;> cases h
      rename_i zs hz
      refine ⟨.refl _, id, fun hc t ρ os ht => .inr (.inl ⟨i, ht _ _ hi, by rw [hget]; simp, ?_⟩)⟩
      obtain ⟨rfl, hxs, _⟩ := hc
      rw [hget]
      obtain ⟨hk, hz⟩ := castT_spec hz
      subst hxs
      obtain rfl := kEq_eq hk
      rw [kCast_self] at hz
      subst hz
      refine ⟨fun l b h => h, ?_⟩
      rintro B w l ⟨h1, h2, h3, h4⟩
      exact ⟨h1, h2, elems_ren h3, h4⟩
    · rename_i hi
      cases h
      refine ⟨.refl _, id, fun hc t ρ os ht => .inr (.inr ⟨ht _ _ hi, own, k, ?_⟩)⟩
      rw [hc.1]
  | row sz ps =>
    simp only [uO] at h
    split at h <;> try (cases h; done)
    rename_i i hi
    split at h <;> try (cases h; done)
    rename_i sz' cs' hget
    split at h <;> try (cases h; done)
    rename_i hb
    obtain rfl := Nat.eq_of_beq_eq_true hb
    obtain ⟨a1, a2, a3⟩ := uL_sound n _ _ h
    refine ⟨a1, a2, fun hc t ρ os ht => .inr (.inl ⟨i, ht _ _ (a1 _ _ hi), by rw [hget]; simp, (fun l b => foot_of rfl fun _ => by rw [hget]; trivial), ?_⟩)⟩
    rw [hget]
    rintro B w l ⟨h1, h2, hz, bc, tt, h3, h4, h5⟩
    exact ⟨h1, h2, hz, bc, tt, h3, a3 hc t ρ os ht _ h4, h5⟩
  | map kk vk c es =>
    simp only [uO] at h
    split at h <;> try (cases h; done)
    rename_i i hi
    split at h <;> try (cases h; done)
    rename_i kk' vk' c' es' hget
    split at h <;> cases h
    rename_i zs hz
    refine ⟨.refl _, id, fun hc t ρ os ht => .inr (.inl ⟨i, ht _ _ hi, by rw [hget]; simp, (fun l b => foot_of rfl fun _ => by rw [hget]; trivial), ?_⟩)⟩
    obtain ⟨rfl, hes, _⟩ := hc
    obtain ⟨rfl, rfl, he⟩ := castE_spec hz
    obtain rfl := eq_of_heq he
    subst hes
    rw [hget]
    rintro B w l ⟨h1, ents, h3, h4⟩
    exact ⟨h1, ents, h3, h4⟩
  | mix k P v =>
    simp only [uO] at h
    split at h <;> try (cases h; done)
    rename_i i hi
    split at h <;> try (cases h; done)
    rename_i k' P' v' hget
    split at h <;> cases h
    rename_i hu
    obtain ⟨a1, a2, a3⟩ := uV_sound n _ _ hu
    refine ⟨a1, a2, fun hc t ρ os ht => .inr (.inl ⟨i, ht _ _ (a1 _ _ hi), by rw [hget]; simp, (fun l b => foot_of rfl fun hl => by rw [hget]; exact hl), ?_⟩)⟩
    obtain ⟨rfl, hP, hc⟩ := hc
    rw [hget]
    rintro B w l ⟨us, u, ws, h1, h2, h3, h4, h5, h6, h7⟩
    exact ⟨us, u, ws, h1, hP _ _ h2, a3 hc t ρ os ht _ h3, h4, h5, elems_ren h6, h7⟩
  | iter id c seen =>
    simp only [uO] at h
    split at h <;> try (cases h; done)
    rename_i i hi
    split at h <;> try (cases h; done)
    rename_i id' c' seen' hget
    split at h <;> cases h
    rename_i hb
    obtain ⟨b1, b2, b3⟩ := bindId_spec hb
    refine ⟨b1, b3, fun hc t ρ os ht => .inr (.inl ⟨i, ht _ _ (b1 _ _ hi), by rw [hget]; simp, (fun l b => foot_of rfl fun _ => by rw [hget]; trivial), ?_⟩)⟩
    obtain ⟨rfl, rfl, _⟩ := hc
    rw [hget]
    rintro B w l ⟨h1, h2, lm, s, h3, h4, h5⟩
    exact ⟨h1, h2, lm, s, by simp only [rho, ht _ _ b2]; exact h3, h4, h5⟩
  | iterX id c seen bs =>
    simp only [uO] at h
    split at h <;> try (cases h; done)
    rename_i i hi
    split at h <;> try (cases h; done)
    rename_i id' c' seen' bs' hget
    split at h <;> cases h
    rename_i hb
    obtain ⟨b1, b2, b3⟩ := bindId_spec hb
    refine ⟨b1, b3, fun hc t ρ os ht => .inr (.inl ⟨i, ht _ _ (b1 _ _ hi), by rw [hget]; simp, (fun l b => foot_of rfl fun _ => by rw [hget]; trivial), ?_⟩)⟩
    obtain ⟨rfl, rfl, rfl, _⟩ := hc
    rw [hget]
    rintro B w l ⟨h1, h2, lm, s, b, h3, h4, h5⟩
    exact ⟨h1, h2, lm, s, b, by simp only [rho, ht _ _ b2]; exact h3, h4, h5⟩
  | big Q =>
    simp only [uO] at h
    split at h <;> try (cases h; done)
    case h_3 =>
      split at h <;> try (cases h; done)
      rename_i i _
      split at h <;> try (cases h; done)
      rename_i Q' hget
      split at h <;> cases h
      rename_i hb
      obtain ⟨b1, b2, b3⟩ := bindId_spec hb
      refine ⟨b1, b3, fun hc t ρ os ht => .inr (.inl ⟨i, ht _ _ b2, by rw [hget]; simp, (fun l b hb => by rw [hget]; obtain ⟨rfl, _⟩ := hc; exact hb), ?_⟩)⟩
      obtain ⟨rfl, _⟩ := hc
      rw [hget]
      exact fun B w l h => h
    rename_i i hi
    split at h <;> cases h
    rename_i Q' hget
    refine ⟨.refl _, id, fun hc t ρ os ht => .inr (.inl ⟨i, ht _ _ hi, by rw [hget]; simp, (fun l b hb => by rw [hget]; obtain ⟨rfl, _⟩ := hc; exact hb), ?_⟩)⟩
    obtain ⟨rfl, _⟩ := hc
    rw [hget]
    exact fun B w l h => h
  | box tag ids P =>
    simp only [uO] at h
    have key : ∀ {s1 : Sub} {i : Nat}, lookO s1 j = some (.id i) → uBox n s1 tag ids P (H.get i) = some (s', cs) → SubLe s1 s' ∧ (SubOk n s1 → SubOk n s') ∧ (AllP cs → ∀ t ρ os, SubLe s' t → OOk H t ρ os j (.box tag ids P)) := by
      intro s1 i hi hu
      obtain ⟨_, ids', P', ho, hb, hP⟩ := uBox_spec hu
      obtain ⟨b1, b2, b3⟩ := bindIds_spec hb
      refine ⟨b1, b2, fun hc t ρ os ht => .inr (.inl ⟨i, ht _ _ (b1 _ _ hi), by rw [ho]; simp, (fun l b hb => by rw [ho]; exact hb), ?_⟩)⟩
      obtain rfl := hP hc
      rw [ho]
      rintro B w l ⟨h1, ls, h2, h3⟩
      exact ⟨h1, ls, b3 t ρ os ls ht h2, h3⟩
    split at h <;> try (cases h; done)
    · rename_i i hi
      exact key hi h
    · split at h <;> try (cases h; done)
      split at h <;> try (cases h; done)
      rename_i i _ s1 hb
      obtain ⟨b1, b2, b3⟩ := bindId_spec hb
      obtain ⟨c1, c2, c3⟩ := key b2 h
      exact ⟨b1.trans c1, fun hk => c2 (b3 hk), c3⟩
  | link id0 =>
    simp only [uO] at h
    split at h <;> try (cases h; done)
    rename_i i hi
    split at h <;> try (cases h; done)
    rename_i id' hget
    split at h <;> cases h
    rename_i hb
    obtain ⟨b1, b2, b3⟩ := bindId_spec hb
    refine ⟨b1, b3, fun hc t ρ os ht => .inr (.inl ⟨i, ht _ _ (b1 _ _ hi), by rw [hget]; simp, (fun l b hb => by rcases hb with h | h; exact h.1.elim; cases h.1), ?_⟩)⟩
    rw [hget]
    rintro B w l ⟨hz, m, h1, h2⟩
    exact ⟨hz, m, by simp only [rho, ht _ _ b2]; exact h1, h2⟩
theorem uOs_sound {n : Nat} {H : Hp} : ∀ {os : List AObj} {s s' : Sub} {j : Nat} {cs : List Prop}, uOs n H s j os = some (s', cs) → UOk n s s' cs fun t ρ os' => ∀ k o, os[k]? = some o → OOk H t ρ os' (j + k) o
  | [], s, s', j, cs, h => by cases h; exact ⟨.refl _, id, fun _ _ _ _ _ k o hk => by simp at hk⟩
  | o :: os, s, s', j, cs, h => by
    simp only [uOs] at h
    split at h <;> try (cases h; done)
    rename_i h1
    split at h <;> cases h
    rename_i h2
    obtain ⟨a1, a2, a3⟩ := uO_sound h1
    obtain ⟨b1, b2, b3⟩ := uOs_sound h2
    refine ⟨a1.trans b1, fun hs => b2 (a2 hs), fun hc t ρ os' ht k o' hk => ?_⟩
    have ⟨c1, c2⟩ := allP_app2 hc
    cases k with
    | zero => cases hk; exact a3 c1 t ρ os' (b1.trans ht)
    | succ k => have := b3 c2 t ρ os' ht k o' hk; rwa [show j.succ + k = j + (k + 1) by omega] at this
theorem idsOf_mem {s : Sub} : ∀ {os : List AObj} {j k i : Nat} {o : AObj}, os[k]? = some o → o ≠ .gone → lookO s (j + k) = some (.id i) → i ∈ idsOf s j os
  | [], _, _, _, _, h, _, _ => by simp at h
  | o :: os, j, k, i, o', h, hg, hl => by
    cases k with
    | zero =>
      cases h
      cases o <;> simp only [idsOf] <;> first
        | exact absurd rfl hg
        | (rw [Nat.add_zero] at hl; rw [hl]; exact List.mem_cons_self ..)
    | succ k =>
      have := idsOf_mem (os := os) (j := j.succ) (k := k) h hg (by rwa [show j.succ + k = j + (k + 1) by omega])
      cases o <;> simp only [idsOf]
      · exact this
      all_goals
        split
        · exact List.mem_cons_of_mem _ this
        · exact this
theorem ids_apart {s : Sub} : ∀ {os : List AObj} {j k k' i : Nat} {o o' : AObj}, (idsOf s j os).Nodup → os[k]? = some o → os[k']? = some o' → o ≠ .gone → o' ≠ .gone → lookO s (j + k) = some (.id i) → lookO s (j + k') = some (.id i) → k = k'
  | [], _, _, _, _, _, _, _, h, _, _, _, _, _ => by simp at h
  | o0 :: os, j, k, k', i, o, o', hn, h1, h2, g1, g2, l1, l2 => by
    have tail : (idsOf s j.succ os).Nodup := by
      cases o0 <;> simp only [idsOf] at hn
      · exact hn
      all_goals
        split at hn
        · exact (List.nodup_cons.1 hn).2
        · exact hn
    have first : ∀ {k i : Nat} {o : AObj}, o0 ≠ .gone → lookO s j = some (.id i) → os[k]? = some o → o ≠ .gone → lookO s (j.succ + k) = some (.id i) → False := by
      intro k i o h0 hl hk hg hl'
      have hm := idsOf_mem (s := s) hk hg hl'
      cases o0 <;> simp only [idsOf] at hn
      · exact h0 rfl
      all_goals
        rw [hl] at hn
        exact (List.nodup_cons.1 hn).1 hm
    cases k with
    | zero =>
      cases k' with
      | zero => rfl
      | succ k' =>
        cases h1
        exact (first g1 (by simpa using l1) h2 g2 (by rwa [show j.succ + k' = j + (k' + 1) by omega])).elim
    | succ k =>
      cases k' with
      | zero =>
        cases h2
        exact (first g2 (by simpa using l2) h1 g1 (by rwa [show j.succ + k = j + (k + 1) by omega])).elim
      | succ k' =>
        have := ids_apart (os := os) (j := j.succ) (k := k) (k' := k') tail h1 h2 g1 g2 (by rwa [show j.succ + k = j + (k + 1) by omega]) (by rwa [show j.succ + k' = j + (k' + 1) by omega])
        omega

theorem len_eq {β : Type _} (l : List β) : len l = l.length := by
  induction l with
  | nil => rfl
  | cons x l ih => simp [len, ih]
theorem hp_get (os : List AObj) (j : Nat) : (hp os).get j = os.getD j .gone := by
  have key : ∀ (os : List AObj) (i j : Nat), look AObj.gone (hpFrom i os) j = if j < i then .gone else os.getD (j - i) .gone := by
    intro os
    induction os with
    | nil => intro i j; simp [hpFrom, look]
    | cons o os ih =>
      intro i j
      simp only [hpFrom, look]
      split
      · rename_i h; have := Nat.eq_of_beq_eq_true h; subst this; simp
      · rename_i h
        have hne : i ≠ j := by rintro rfl; simp at h
        rw [ih]
        by_cases h2 : j < i
        · rw [if_pos (by omega), if_pos h2]
        · rw [if_neg (by omega), if_neg h2]
          rw [show j - i = (j - i.succ) + 1 by omega]
          simp
  have := key os 0 j
  simpa [hp, Hp.get] using this
theorem hp_n (os : List AObj) : (hp os).n = os.length := len_eq os

/-- A state that matches is one that lies. -/
structure UniOk (H : Hp) (s0 S : Sub) (ps vs : List AV) (os : List AObj) (ρ : Rho) : Prop where
  le : SubLe s0 S
  ok : SubOk os.length S
  den : ∀ xs, DenL ρ vs xs → DenL (rho S ρ os) ps xs
  obj : ∀ j o, os[j]? = some o → OOk H S ρ os j o
  inj : ∀ j k o o' i, os[j]? = some o → os[k]? = some o' → o ≠ .gone → o' ≠ .gone → lookO S j = some (.id i) → lookO S k = some (.id i) → j = k
theorem uni_sound {H : Hp} {s0 S : Sub} {ps vs : List AV} {os : List AObj} {cs : List Prop} (h : uni H s0 ps vs os = some (S, cs)) (hc : AllP cs) (h0 : SubOk os.length s0) (ρ : Rho) : UniOk H s0 S ps vs os ρ := by
  unfold uni at h
  split at h <;> try (cases h; done)
  rename_i s1 c1 h1
  split at h <;> try (cases h; done)
  rename_i s2 c2 h2
  split at h <;> cases h
  rename_i hd
  have ⟨hc1, hc2⟩ := allP_app2 hc
  obtain ⟨a1, a2, a3⟩ := uL_sound _ _ _ h1
  obtain ⟨b1, b2, b3⟩ := uOs_sound h2
  rw [len_eq] at a2 b2
  refine ⟨a1.trans b1, b2 (a2 h0), fun xs hx => a3 hc1 _ ρ os b1 xs hx, fun j o hj => ?_, fun j k o o' i hj hk g1 g2 l1 l2 => ?_⟩
  · have := b3 hc2 _ ρ os (.refl _) j o hj; rwa [Nat.zero_add] at this
  · exact ids_apart (distinct_nodup hd) hj hk g1 g2 (by rwa [Nat.zero_add]) (by rwa [Nat.zero_add])
theorem getD_some {os : List AObj} {j : Nat} (h : os.getD j .gone ≠ .gone) : ∃ o, os[j]? = some o ∧ os.getD j .gone = o := by
  cases hj : os[j]? with
  | none => simp [List.getD, hj] at h
  | some o => exact ⟨o, rfl, by simp [List.getD, hj]⟩
theorem UniOk.rel {H : Hp} {s0 S : Sub} {ps vs : List AV} {os : List AObj} {ρ : Rho} {B : Nat} {w : World} (h : UniOk H s0 S ps vs os ρ) (hH : RelH B ρ H w) : RelH B (rho S ρ os) (hp os) w := by
  refine ⟨fun i hi => ?_, fun i j li lj q hij h1 h2 h3 h4 => ?_, fun i hi => ?_, hH.bound⟩
  · rw [hp_get] at hi ⊢
    obtain ⟨o, ho, he⟩ := getD_some hi
    rw [he] at hi ⊢
    rcases h.obj i o ho with rfl | ⟨i', h1, h2, h3, h4⟩ | ⟨h1, own, k, rfl⟩
    · exact absurd rfl hi
    · obtain ⟨l, h5, h6⟩ := hH.obj i' h2
      exact ⟨l, by simp only [rho, h1, h5], h4 _ _ _ h6⟩
    · refine ⟨⟨0, 0, k.size, 0⟩, by simp only [rho, h1, he]; rfl, rfl, by simp, fun j x hj => by simp at hj, ?_⟩
      split
      · exact fun h => absurd h (Nat.lt_irrefl _)
      · exact fun h => absurd h (Nat.lt_irrefl _)
  · rw [hp_get] at h3 h4
    obtain ⟨o, ho, he⟩ := getD_some h3.ne
    obtain ⟨o', ho', he'⟩ := getD_some h4.ne
    rw [he] at h3
    rw [he'] at h4
    have key : ∀ i o l, os[i]? = some o → rho S ρ os i = some l → Foot l o q → ∃ i', lookO S i = some (.id i') ∧ ρ i' = some l ∧ Foot l (H.get i') q := by
      intro i o l ho h1 h3
      rcases h.obj i o ho with rfl | ⟨i', h5, h6, h7, h8⟩ | ⟨h5, own, k, rfl⟩
      · exact absurd rfl h3.ne
      · simp only [rho, h5] at h1
        exact ⟨i', h5, h1, h7 _ _ h3⟩
      · simp only [rho, h5, Option.some.injEq] at h1
        subst h1
        exact absurd (h3.small rfl).1.2 (Nat.lt_irrefl _)
    obtain ⟨i', h5, h6, h7⟩ := key i o li ho h1 h3
    obtain ⟨j', h8, h9, h10⟩ := key j o' lj ho' h2 h4
    refine hH.sepF i' j' li lj q (fun e => hij ?_) h6 h9 h7 h10
    subst e
    exact h.inj i j o o' i' ho ho' h3.ne h4.ne h5 h8
  · rw [hp_n] at hi
    refine ⟨?_, ?_⟩
    · simp only [rho]
      cases hl : lookO S i with
      | none => rfl
      | some x => have := h.ok i x hl; omega
    · rw [hp_get]; simp [List.getD, hi]
theorem UniOk.blks {H : Hp} {s0 S : Sub} {ps vs : List AV} {os : List AObj} {ρ : Rho} (h : UniOk H s0 S ps vs os ρ) {b : Nat} (hb : Blks (rho S ρ os) (hp os) b) : ∃ j i l, lookO S j = some (.id i) ∧ ρ i = some l ∧ Foot l (H.get i) b ∧ j < os.length := by
  obtain ⟨j, l, h1, h3⟩ := hb
  rw [hp_get] at h3
  obtain ⟨o, ho, he⟩ := getD_some h3.ne
  rw [he] at h3
  rcases h.obj j o ho with rfl | ⟨i', h5, h6, h7, h8⟩ | ⟨h5, own, k, rfl⟩
  · exact absurd rfl h3.ne
  · simp only [rho, h5] at h1
    exact ⟨j, i', l, h5, h1, h7 _ _ h3, (List.getElem?_eq_some_iff.1 ho).1⟩
  · simp only [rho, h5, Option.some.injEq] at h1
    subst h1
    exact absurd (h3.small rfl).1.2 (Nat.lt_irrefl _)
end Go.Proofs.YtnheodgffackoaaDoor.E
