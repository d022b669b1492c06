/- The engine: maps; elements and values of flat kinds. -/
import Derived.Test.YtnheodgffackoaaDoorEc
import GoSem.Builtin.Delete
import GoSem.Instr.MapEntry
namespace Go.Proofs.YtnheodgffackoaaDoor.E
set_option linter.unusedSimpArgs false
set_option linter.unusedVariables false
open Go
section
variable {E : Env} {ρ : Rho} {tm : Tm} {a : Act} {H : Hp} {w : World} {B : Nat}
theorem enc_app : ∀ {l l' : List AV} {vs : List Value}, DenL ρ (app l l') vs → ∃ v1 v2, vs = v1 ++ v2 ∧ DenL ρ l v1 ∧ DenL ρ l' v2
  | [], _, vs, h => ⟨[], vs, rfl, rfl, h⟩
  | _ :: _, _, _, h => by
    obtain ⟨v, vs', rfl, h1, h2⟩ := h
    obtain ⟨v1, v2, rfl, h3, h4⟩ := enc_app h2
    exact ⟨v :: v1, v2, rfl, ⟨v, v1, rfl, h1, h3⟩, h4⟩
theorem app_enc : ∀ {l l' : List AV} {v1 v2 : List Value}, DenL ρ l v1 → DenL ρ l' v2 → DenL ρ (app l l') (v1 ++ v2)
  | [], _, _, _, h, h' => by simp only [DenL] at h; subst h; exact h'
  | _ :: _, _, _, _, h, h' => by obtain ⟨v, vs', rfl, h1, h2⟩ := h; exact ⟨v, _, rfl, h1, app_enc h2 h'⟩
theorem decp_sound : ∀ (k : K) {l l' : List AV} {x : ty k} {vs : List Value}, decp k l = some (x, l') → DenL ρ l vs → ∃ v1 v2, vs = v1 ++ v2 ∧ DenL ρ (enc k x) v1 ∧ DenL ρ l' v2
  | .int k, l, l', x, vs, h, hd => by
    obtain _ | ⟨q, l⟩ := l
    · simp [decp] at h
    cases q <;> simp only [decp, reduceCtorEq] at h
    split at h <;> cases h
    rename_i hk
    obtain ⟨v, vs', rfl, h1, h2⟩ := hd
    obtain rfl := kindEq_eq hk
    exact ⟨[v], vs', rfl, ⟨v, [], rfl, h1, rfl⟩, h2⟩
  | .bool, l, l', x, vs, h, hd => by
    obtain _ | ⟨q, l⟩ := l
    · simp [decp] at h
    cases q <;> simp only [decp, reduceCtorEq, Option.some.injEq, Prod.mk.injEq] at h
    all_goals
      obtain ⟨rfl, rfl⟩ := h
      obtain ⟨v, vs', rfl, h1, h2⟩ := hd
      exact ⟨[v], vs', rfl, ⟨v, [], rfl, h1, rfl⟩, h2⟩
  | .unit, l, l', x, vs, h, hd => by
    simp only [decp, Option.some.injEq, Prod.mk.injEq] at h
    obtain ⟨_, rfl⟩ := h
    exact ⟨[], vs, rfl, rfl, hd⟩
  | .raw, l, l', x, vs, h, hd => by
    obtain _ | ⟨q, l⟩ := l
    · simp [decp] at h
    cases q <;> simp only [decp, reduceCtorEq, Option.some.injEq, Prod.mk.injEq] at h
    all_goals
      obtain ⟨rfl, rfl⟩ := h
      obtain ⟨v, vs', rfl, h1, h2⟩ := hd
      exact ⟨[v], vs', rfl, ⟨v, [], rfl, by simpa [Den] using h1, rfl⟩, h2⟩
  | .pair a b, l, l', x, vs, h, hd => by
    simp only [decp] at h
    split at h <;> try (cases h; done)
    rename_i y l1 h1
    split at h <;> cases h
    rename_i z h2
    obtain ⟨v1, v2, rfl, h3, h4⟩ := decp_sound a h1 hd
    obtain ⟨v3, v4, rfl, h5, h6⟩ := decp_sound b h2 h4
    exact ⟨v1 ++ v3, v4, by simp, app_enc h3 h5, h6⟩
theorem dec_sound {k : K} {l : List AV} {x : ty k} {vs : List Value} (h : dec k l = some x) (hd : DenL ρ l vs) : DenL ρ (enc k x) vs := by
  unfold dec at h
  split at h <;> cases h
  rename_i h1
  obtain ⟨v1, v2, rfl, h2, h3⟩ := decp_sound k h1 hd
  simp only [DenL] at h3; subst h3
  simpa using h2
theorem denL_enc : ∀ (k : K) (x : ty k) {vs : List Value}, DenL ρ (enc k x) vs → vs = cellsV k x
  | .int _, _, _, h => by obtain ⟨_, _, rfl, h1, h2⟩ := h; simp only [Den] at h1; simp only [DenL] at h2; subst h1 h2; rfl
  | .bool, _, _, h => by obtain ⟨_, _, rfl, h1, h2⟩ := h; simp only [Den] at h1; simp only [DenL] at h2; subst h1 h2; rfl
  | .unit, _, _, h => by simp only [enc, DenL] at h; subst h; rfl
  | .raw, _, _, h => by obtain ⟨_, _, rfl, h1, h2⟩ := h; simp only [Den] at h1; simp only [DenL] at h2; subst h1 h2; rfl
  | .pair a b, x, vs, h => by
    obtain ⟨v1, v2, rfl, h1, h2⟩ := enc_app (l := enc a x.1) (l' := enc b x.2) h
    rw [denL_enc a _ h1, denL_enc b _ h2]
    rfl
theorem denL_cellsV : ∀ (k : K) (x : ty k), DenL ρ (enc k x) (cellsV k x)
  | .int _, _ => ⟨_, _, rfl, rfl, rfl⟩
  | .bool, _ => ⟨_, _, rfl, rfl, rfl⟩
  | .unit, _ => rfl
  | .raw, _ => ⟨_, _, rfl, rfl, rfl⟩
  | .pair a b, x => app_enc (denL_cellsV a x.1) (denL_cellsV b x.2)
theorem den_valA (k : K) (x : ty k) : Den ρ (valA k x) (valV k x) := by
  cases k
  case int => rfl
  case bool => rfl
  case raw => rfl
  case unit => exact ⟨#[], rfl, rfl⟩
  case pair a b => exact ⟨(cellsV (.pair a b) x).toArray, rfl, by simpa using denL_cellsV (.pair a b) x⟩
theorem decA_sound {k : K} {v : AV} {x : ty k} {u : Value} (h : decA k v = some x) (hd : Den ρ v u) : u = valV k x := by
  unfold decA at h
  split at h
  · rename_i hk
    split at h <;> try (cases h; done)
    obtain ⟨c, rfl, hc⟩ := hd
    have h1 := denL_enc _ _ (dec_sound h hc)
    cases k <;> simp only [aggK, Bool.false_eq_true] at hk
    · simp only [cellsV] at h1
      have : c = #[] := by cases c; simpa using h1
      rw [this]; rfl
    · have : c = (cellsV _ x).toArray := by rw [← h1]
      rw [this]; rfl
  · rename_i hk
    have h1 := denL_enc _ _ (dec_sound (vs := [u]) h ⟨u, [], rfl, hd, rfl⟩)
    cases k <;> simp only [aggK, Bool.true_eq_false] at hk <;> (simp only [cellsV, List.cons.injEq, and_true] at h1; exact h1)

theorem intTy_eq {P : Program} {t : TypeId} {k : IntKind} (h : intTy P t k = true) : P.underlying t = some (.int k) := by
  unfold intTy at h
  split at h <;> try (cases h; done)
  rename_i hu
  rw [hu, kindEq_eq h]
theorem both_iff {a b : Bool} : both a b = true ↔ a = true ∧ b = true := by cases a <;> simp [both]
theorem nameOk_iff {f : Field} (h : nameOk f = true) : (f.name == "_") = false := by
  unfold nameOk at h
  split at h <;> simp_all
/-- A key's kind, as the model has it. -/
inductive KeyK (E : Env) (t : TypeId) : K → Prop where
  | int {k : IntKind} : E.P.underlying t = some (.int k) → KeyK E t (.int k)
  | pair {a b : IntKind} {fs : Array Field} {f g : Field} : E.P.underlying t = some (.struct fs) → fs = #[f, g] → t ∈ E.eqs → (f.name == "_") = false → (g.name == "_") = false → f.offset = 0 → g.offset = 1 → E.P.underlying f.type = some (.int a) → E.P.underlying g.type = some (.int b) → KeyK E t (.pair (.int a) (.int b))
theorem keyOk_spec {t : TypeId} {k : K} (h : keyOk E t k = true) : KeyK E t k := by
  unfold keyOk at h
  split at h <;> try (cases h; done)
  · exact .int (intTy_eq h)
  · split at h <;> try (cases h; done)
    rename_i fs hu
    split at h <;> try (cases h; done)
    rename_i f g hfs
    simp only [both_iff] at h
    obtain ⟨h1, h2, h3, h4, h5, h6, h7⟩ := h
    exact .pair (f := f) (g := g) hu (by rw [← Array.toArray_toList (xs := fs), hfs]) (memN_iff.1 h1) (nameOk_iff h2) (nameOk_iff h3) (Nat.eq_of_beq_eq_true h4) (Nat.eq_of_beq_eq_true h5) (intTy_eq h6) (intTy_eq h7)
theorem key_equal {t : TypeId} {k : K} (h : KeyK E t k) (x y : ty k) : (Op.equal t (valV k x) (valV k y)).run E.P w = .ok (keyEq k x y) w := by
  cases h with
  | int hu => exact eqIn_of 0 fun d => run_equalIn_int w d _ _ _ _ _ hu
  | @pair a b fs f g hu hfs hm hf hg of og hfu hgu =>
    obtain ⟨hsi, _⟩ := E.eqOk t hm
    have hff : E.P.fieldsOf t = fs := by simp [Program.fieldsOf, hu]
    have h1 := fun d => run_equalIn_struct (P := E.P) w d t (cellsV (.pair (.int a) (.int b)) x).toArray (cellsV (.pair (.int a) (.int b)) y).toArray (by rw [hff]; exact hu) hsi
    rw [hff] at h1
    have he : eqFields E.P 0 fs.toList [.int a x.1, .int b x.2] [.int a y.1, .int b y.2] = some (keyEq (.pair (.int a) (.int b)) x y) := by
      subst hfs
      simp only [eqFields, eqScal, hfu, hgu, kindEq_rfl, of, og, hf, hg]
      simp only [Nat.beq_refl, keyEq]
      cases (x.1 == y.1) <;> simp
    have h2 := fun d => eqFields_sound (w := w) (ρ := fun _ => none) E.P d fs.toList 0 _ _ _ (cellsV (.pair (.int a) (.int b)) x) (cellsV (.pair (.int a) (.int b)) y) [] [] he (denL_cellsV (.pair (.int a) (.int b)) x) (denL_cellsV (.pair (.int a) (.int b)) y) rfl rfl
    simp only [List.nil_append] at h2
    have h3 : ∀ d, (Op.equalIn (d + 1 + 1) t (.agg (cellsV (.pair (.int a) (.int b)) x).toArray) (.agg (cellsV (.pair (.int a) (.int b)) y).toArray)).run E.P w = .ok (keyEq (.pair (.int a) (.int b)) x y) w := fun d => by rw [h1]; exact h2 d
    exact h3 9998
theorem key_eq {t : TypeId} {k : K} (h : KeyK E t k) {x y : ty k} (he : keyEq k x y = true) : x = y := by
  cases h with
  | int hu => simpa [keyEq] using he
  | pair hu hfs =>
    simp only [keyEq] at he
    split at he
    · rename_i h1
      have e1 : x.1 = y.1 := by simpa using h1
      have e2 : x.2 = y.2 := by simpa using he
      exact Prod.ext e1 e2
    · cases he
theorem key_check {t : TypeId} {k : K} (h : KeyK E t k) (em : Bool) (x : ty k) : (Instr.checkKey em 10000 t (valV k x)).run E.P w = .ok () w := by
  cases h with
  | int hu => exact MapKept.run_checkKey (k := valV _ x) hu (by simp [MapKept.IsKey, valV]) em 9999
  | @pair a b fs f g hu hfs hm hf hg of og hfu hgu =>
    subst hfs
    have q1 : (Instr.checkKey em 9999 f.type (.int a x.1)).run E.P w = .ok () w := MapKept.run_checkKey hfu (by simp [MapKept.IsKey]) em 9998
    have q2 : (Instr.checkKey em 9999 g.type (.int b x.2)).run E.P w = .ok () w := MapKept.run_checkKey hgu (by simp [MapKept.IsKey]) em 9998
    have a1 : isAggO E.P f.type = some false := by simp [isAggO, hfu]
    have a2 : isAggO E.P g.type = some false := by simp [isAggO, hgu]
    have hf' : f.name ≠ "_" := by simpa using hf
    have hg' : g.name ≠ "_" := by simpa using hg
    have p1 : (part f.type (cellsV (.pair (.int a) (.int b)) x).toArray f.offset).run E.P w = .ok (.int a x.1) w := by simp [part, isAgg_run a1, of, cellsV]
    have p2 : (part g.type (cellsV (.pair (.int a) (.int b)) x).toArray g.offset).run E.P w = .ok (.int b x.2) w := by simp [part, isAgg_run a2, og, cellsV]
    show (Instr.checkKey em (9999 + 1) t (.agg (cellsV (.pair (.int a) (.int b)) x).toArray)).run E.P w = .ok () w
    unfold Instr.checkKey
    simp [run_underlying hu, p1, p2, q1, q2, hf', hg']
theorem key_stays {t : TypeId} {k : K} (h : KeyK E t k) (x : ty k) : (Instr.keyThatStays (valV k x) (valV k x)).run E.P w = .ok (valV k x) w := by
  have : Instr.sameBits 10000 (valV k x) (valV k x) = true := by
    cases h with
    | int hu => simp [valV, Instr.sameBits]
    | pair hu hfs => simp [valV, cellsV, Instr.sameBits]
  simp [Instr.keyThatStays, this]
variable {kk vk : K}
/-- Where a key stands. -/
def mfind (x : ty kk) : List (Ent kk vk) → Option (Nat × Ent kk vk)
  | [] => none
  | e :: es => match keyEq kk x e.1 with
    | true => some (0, e)
    | false => match mfind x es with
      | some (i, e) => some (i + 1, e)
      | none => none
theorem mget_find (x : ty kk) : ∀ es : List (Ent kk vk), mget x es = match mfind x es with | some (_, e) => some e.2.1 | none => none
  | [] => rfl
  | e :: es => by
    simp only [mget, mfind]
    cases hk : keyEq kk x e.1
    · simp only [mget_find x es]
      cases mfind x es <;> rfl
    · rfl
theorem mborn_find (x : ty kk) (c : Nat) : ∀ es : List (Ent kk vk), mborn x c es = match mfind x es with | some (_, e) => e.2.2 | none => c
  | [] => rfl
  | e :: es => by
    simp only [mborn, mfind]
    cases hk : keyEq kk x e.1
    · simp only [mborn_find x c es]
      cases mfind x es <;> rfl
    · rfl
theorem mfind_get {x : ty kk} : ∀ {es : List (Ent kk vk)} {i : Nat} {e : Ent kk vk}, mfind x es = some (i, e) → es[i]? = some e ∧ keyEq kk x e.1 = true
  | [], _, _, h => by cases h
  | e0 :: es, i, e, h => by
    simp only [mfind] at h
    split at h
    · rename_i hk; cases h; exact ⟨rfl, hk⟩
    · split at h <;> cases h
      rename_i hr
      have := mfind_get hr
      exact ⟨by simpa using this.1, this.2⟩
theorem mput_map (x : ty kk) (y : ty vk) (c : Nat) : ∀ es : List (Ent kk vk), (mput x y c es).map entV = match mfind x es with
    | some (i, _) => (es.map entV).modify i fun e => ⟨valV kk x, valV vk y, e.born⟩
    | none => es.map entV ++ [⟨valV kk x, valV vk y, c⟩]
  | [] => rfl
  | e :: es => by
    simp only [mput, mfind]
    cases hk : keyEq kk x e.1
    · simp only [List.map_cons, mput_map x y c es]
      cases mfind x es <;> simp
    · rfl
theorem mdel_map (x : ty kk) : ∀ es : List (Ent kk vk), (mdel x es).map entV = match mfind x es with
    | some (i, _) => (es.map entV).eraseIdx i
    | none => es.map entV
  | [] => rfl
  | e :: es => by
    simp only [mdel, mfind]
    cases hk : keyEq kk x e.1
    · simp only [List.map_cons, mdel_map x es]
      cases mfind x es <;> simp
    · rfl
theorem mclock_find (x : ty kk) (c : Nat) (es : List (Ent kk vk)) : mclock x c es = match mfind x es with | some _ => c | none => c + 1 := by
  unfold mclock
  rw [mget_find]
  cases mfind x es <;> rfl
theorem asking {t : TypeId} (h : KeyK E t kk) (x : ty kk) : ∀ (es : List (Ent kk vk)) (i : Nat), (Instr.findAsking t (valV kk x) (es.map entV) i).run E.P w = .ok ((mfind x es).map fun p => (i + p.1, valV vk p.2.2.1)) w
  | [], i => by simp [Instr.findAsking, mfind]
  | e :: es, i => by
    have ih := asking h x es (i + 1)
    have hq := key_equal (w := w) h x e.1
    simp only [List.map_cons, Instr.findAsking, Sem.run_bind, entV, hq, Result.andThen_ok, mfind]
    cases hk : keyEq kk x e.1
    · simp only [Bool.false_eq_true, if_false]
      refine (show _ from ih).trans ?_
      cases mfind x es with
      | none => rfl
      | some p => simp; omega
    · simp
theorem nowInt {k : IntKind} (x : ty (.int k)) : ∀ (es : List (Ent (.int k) vk)) (i : Nat), Instr.findNow (.int k) (valV (.int k) x) (es.map entV) i = some ((mfind x es).map fun p => (i + p.1, valV vk p.2.2.1))
  | [], i => rfl
  | e :: es, i => by
    have ih := nowInt x es (i + 1)
    have hq : Instr.sameNow (.int k) (valV (.int k) x) (valV (.int k) e.1) = some (keyEq (.int k) x e.1) := by simp [Instr.sameNow, valV, keyEq]
    simp only [List.map_cons, Instr.findNow, entV, hq, mfind]
    cases hk : keyEq (.int k) x e.1
    · simp only
      refine ih.trans ?_
      cases mfind x es with
      | none => rfl
      | some p => simp; omega
    · rfl
theorem find_run {t : TypeId} (h : KeyK E t kk) (x : ty kk) (es : List (Ent kk vk)) : (Instr.findKey t (valV kk x) (es.map entV)).run E.P w = .ok ((mfind x es).map fun p => (p.1, valV vk p.2.2.1)) w := by
  cases h with
  | int hu =>
    have := MapKept.run_findKey (w := w) hu (nowInt x es 0)
    simpa using this
  | pair hu hfs hm hf hg of og hfu hgu =>
    have h0 := asking (w := w) (KeyK.pair hu hfs hm hf hg of og hfu hgu) x es 0
    simp only [Nat.zero_add] at h0
    cases es with
    | nil => simp [Instr.findKey, run_underlying hu, Instr.findNow, mfind]
    | cons e es =>
      have hn : ∀ fs, Instr.findNow (.struct fs) (valV (.pair _ _) x) ((e :: es).map entV) 0 = none := fun fs => by simp [Instr.findNow, entV, Instr.sameNow]
      simp only [Instr.findKey, Sem.run_bind, run_underlying hu, Result.andThen_ok, hn]
      exact h0
theorem nilKey_spec {t : TypeId} {x : AV} {u : Value} (h : nilKey E t x = true) (hx : Den ρ x u) (em : Bool) : (Instr.checkKey em 10000 t u).run E.P w = .ok () w ∧ (Instr.findKey t u []).run E.P w = .ok none w := by
  unfold nilKey at h
  split at h <;> try (cases h; done)
  split at h <;> try (cases h; done)
  rename_i kk _ hk
  have hK := keyOk_spec hk
  obtain ⟨y, hy⟩ := Option.isSome_iff_exists.1 h
  rw [decA_sound hy hx]
  exact ⟨key_check hK em y, find_run (vk := .unit) hK y []⟩
theorem zeroK_run {P : Program} {t : TypeId} {z : ty vk} (h : zeroK P vk t = some z) (w : World) : (zeroValue t).run P w = .ok (valV vk z) w := by
  unfold zeroK at h
  split at h <;> try (cases h; done)
  rename_i z0 hz
  have he := decA_sound (ρ := fun _ => none) h (den_ofVal z0)
  unfold zeroO at hz
  split at hz
  · rename_i i hi; simp [zeroValue, typeInfo, hi, hz, he]
  · cases hz
theorem lookRes_den (y : ty vk) (ok b : Bool) : Den ρ (lookRes vk y ok b) (if ok then .tuple #[valV vk y, .bool b] else valV vk y) := by
  cases ok
  · exact den_valA vk y
  · exact ⟨_, rfl, _, _, rfl, den_valA vk y, _, _, rfl, rfl, rfl⟩
theorem lookup_sound {t : TypeId} {m x v : AV} {ok : Bool} {cs : List Prop} {u z : Value} (h : evLookup E H t m x ok = some (v, cs)) (hm : Den ρ m u) (hx : Den ρ x z) (hH : RelH B ρ H w) :
    ∃ v', (Instr.lookup t u z ok).run E.P w = .ok v' w ∧ Den ρ v v' := by
  unfold evLookup at h
  split at h <;> try (cases h; done)
  rename_i kt et hu
  split at h <;> try (cases h; done)
  · simp only [Den] at hm; subst hm
    split at h <;> try (cases h; done)
    rename_i z0 hk hz
    obtain ⟨h1, h2⟩ := nilKey_spec (w := w) hk hx true
    have hzr : (zeroValue et).run E.P w = .ok z0 w := by
      unfold zeroO at hz
      split at hz
      · rename_i i hi; simp [zeroValue, typeInfo, hi, hz]
      · cases hz
    have hr : (Instr.lookup t (.map none) z ok).run E.P w = .ok (if ok then .tuple #[z0, .bool false] else z0) w := by
      cases ok <;> simp [Instr.lookup, run_underlying hu, h1, h2, hzr]
    split at h <;> cases h
    · exact ⟨_, hr, _, rfl, _, _, rfl, den_ofVal z0, _, _, rfl, rfl, rfl⟩
    · exact ⟨_, hr, den_ofVal z0⟩
  · rename_i id
    obtain ⟨l, hl, rfl⟩ := hm
    split at h <;> try (cases h; done)
    rename_i kk vk c es ho
    split at h <;> cases h
    rename_i k z0 hk hkx hz
    obtain ⟨l', hl', _, ents, hheap, hents⟩ := (ho ▸ hH.obj id (by simp [ho]) : ∃ l, ρ id = some l ∧ ObjRel B ρ w l (.map kk vk c es))
    rw [hl] at hl'; cases hl'
    have hK := keyOk_spec hk
    rw [decA_sound hkx hx]
    have h1 := key_check (w := w) hK ents.isEmpty k
    have h2 := find_run (w := w) hK k es
    rw [← hents] at h2
    have hzr := zeroK_run hz w
    refine ⟨_, ?_, lookRes_den _ _ _⟩
    rw [mhas, mget_find]
    cases hf : mfind k es with
    | none =>
      rw [hf] at h2
      cases ok <;> simp [Instr.lookup, run_underlying hu, MapKept.run_getObj_map hheap, h1, h2, hzr]
    | some p =>
      rw [hf] at h2
      cases ok <;> simp [Instr.lookup, run_underlying hu, MapKept.run_getObj_map hheap, h1, h2]
end
end Go.Proofs.YtnheodgffackoaaDoor.E
