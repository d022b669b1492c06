/- The engine: how a function is entered, how a body ends, how a loop's head is met; what a proof over it states. -/
import Derived.Test.YtnheodgffackoaaDoorEi
namespace Go.Proofs.YtnheodgffackoaaDoor.E
set_option linter.unusedSimpArgs false
set_option linter.unusedVariables false
open Go

def idSub : Nat → Sub
  | 0 => []
  | n + 1 => (n, .id n) :: idSub n
theorem idSub_look : ∀ {n j : Nat}, lookO (idSub n) j = if j < n then some (.id j) else none
  | 0, j => by simp [idSub, lookO]
  | n + 1, j => by
    simp only [idSub]
    rw [lookO_cons, idSub_look]
    by_cases h : j = n
    · subst h; simp
    · rw [if_neg h]
      by_cases h2 : j < n
      · rw [if_pos h2, if_pos (by omega)]
      · rw [if_neg h2, if_neg (by omega)]
def tmOf (i : Nat) : List AV → Tm
  | [] => []
  | v :: l => (i, v) :: tmOf (Nat.succ i) l
/-- A function under proof: it, what is there when it is called, what it is to return and leave. -/
structure Frm where
  E : Env
  f : FuncId
  nt : Nat
  os : List AObj
  v : AV
  os' : List AObj
def Frm.ctx (G : Frm) (B : Nat) (ρ : Rho) (w : World) : Ctx := ⟨G.E, G.f, G.nt, G.os.length, B, ρ, hp G.os, w, Post B ρ (hp G.os) G.os.length w G.v G.os'⟩
def Goods (G : Frm) (cfg : Cfg) : Prop := ∀ B ρ w, Good (G.ctx B ρ w) cfg

theorem tmOf_look {ρ : Rho} : ∀ {l : List AV} {vs : List Value} {i : Nat}, DenL ρ l vs → ∀ t, (t < i → look .any (tmOf i l) t = .any) ∧ (i ≤ t → Den ρ (look .any (tmOf i l) t) (vs.getD (t - i) Go.undef))
  | [], vs, i, _, t => ⟨fun _ => rfl, fun _ => trivial⟩
  | a :: l, vs, i, h, t => by
    obtain ⟨v, vs', rfl, h1, h2⟩ := h
    have ih := tmOf_look (i := i.succ) h2 t
    simp only [tmOf]
    rw [look_cons]
    refine ⟨fun hlt => ?_, fun hle => ?_⟩
    · rw [if_neg (by omega)]; exact ih.1 (by omega)
    · by_cases he : t = i
      · subst he; rw [if_pos rfl]; simpa using h1
      · rw [if_neg he]
        have := ih.2 (by omega)
        rw [show t - i = (t - i.succ) + 1 by omega]
        simpa using this
/-- A contract is shown by a run of the body. -/
theorem Tri.of {E : Env} {f : FuncId} {fn : Func} {c : Code} {args : List AV} {os os' : List AObj} {v : AV} (hf : E.P.funcs[f]? = some fn) (hb : fn.body = some c) (he : ∀ xs w, (callFunc f xs).run E.P w = .ok (.enter f xs) w)
    (hn : Nat.ble (len args) fn.ntmps = true) (h : Goods ⟨E, f, fn.ntmps, os, v, os'⟩ ⟨.none, [.code c], tmOf 0 args, hp os⟩) : Tri E f args os v os' := by
  refine ⟨he, fun B ρ w vs hH hg hd => calls_of_runs hf hb ?_⟩
  have hn := Nat.le_of_ble_eq_true hn
  rw [denL_len hd] at hn
  have := h B ρ w ρ { tmps := vs.toArray ++ Array.replicate (fn.ntmps - vs.toArray.size) Go.undef, defers := [] } w
    ⟨hH, Kept.refl _ _, fun b hb => .inl hb, fun i l _ h => h, hg⟩ ?_ ⟨?_, rfl⟩
  · exact this
  · intro t
    have := (tmOf_look hd t).2 (Nat.zero_le _)
    rw [Nat.sub_zero] at this
    simp only [Array.getD_eq_getD_getElem?, Array.getElem?_append]
    split
    · rename_i hlt
      simp only [List.size_toArray] at hlt
      simpa [List.getD, hlt] using this
    · rename_i hge
      simp only [List.size_toArray] at hge
      have h0 : vs.getD t Go.undef = Go.undef := by simp [List.getD, List.getElem?_eq_none (Nat.le_of_not_lt hge)]
      rw [h0] at this
      simp only [Array.getElem?_replicate]
      split <;> exact this
  · show (vs.toArray ++ Array.replicate (fn.ntmps - vs.toArray.size) Go.undef).size = fn.ntmps
    simp; omega

/-- What a function returns. -/
def resA (E : Env) (tm : Tm) (H : Hp) : List ResultVar → Option (List AV × List Prop)
  | [] => some ([], [])
  | .tmp t :: rs => match resA E tm H rs with
    | some (l, cs) => some (look .any tm t :: l, cs)
    | none => none
  | .cell a t :: rs => match evLoad E H t (look .any tm a) with
    | some (v, c) => match resA E tm H rs with
      | some (l, cs) => some (v :: l, app2 c cs)
      | none => none
    | none => none
def oneA : List AV → AV
  | [v] => v
  | vs => .tuple vs
def atRet : List Item → Bool
  | [] => true
  | .code .ret :: _ => true
  | _ => false
def evRet (E : Env) (rs : List ResultVar) (k0 : Nat) (v : AV) (os' : List AObj) (c : Cfg) : Option (List Prop) := match c.hd with
  | .none => match atRet c.todo with
    | true => match resA E c.tm c.H rs with
      | some (l, c1) => match Nat.ble k0 (len os') with
        | true => match uni c.H (idSub k0) [v] [oneA l] os' with
          | some (_, c2) => some (app2 c1 c2)
          | none => none
        | false => none
      | none => none
    | false => none
  | _ => none
def Yes : Option (List Prop) → Prop
  | some cs => AllP cs
  | none => False
def resG (tmps : Array Value) : ResultVar → Sem Value
  | .tmp t => pure (tmps.getD t Go.undef)
  | .cell p t => do loadVar t (← asAddr (tmps.getD p Go.undef))
theorem results_eq (fn : Func) (tmps : Array Value) : results fn tmps = (do let vs ← fn.results.mapM (resG tmps); pure (if h : vs.size = 1 then vs[0] else .tuple vs)) := by
  have : ∀ f : ResultVar → Sem Value, (∀ x, f x = resG tmps x) → (do let vs ← fn.results.mapM f; pure (if h : vs.size = 1 then vs[0] else .tuple vs) : Sem Value) = (do let vs ← fn.results.mapM (resG tmps); pure (if h : vs.size = 1 then vs[0] else .tuple vs)) := fun f hf => by
    rw [show f = resG tmps from funext hf]
  exact this _ fun x => by cases x <;> rfl
section
variable {C : Ctx} {tm : Tm} {H : Hp} {ρ : Rho} {a : Act} {w : World}
theorem resA_sound : ∀ {rs : List ResultVar} {l : List AV} {cs : List Prop}, resA C.E tm H rs = some (l, cs) → AllP cs → RelT ρ tm a → Inv C ρ H w →
    ∃ us, (rs.mapM (resG a.tmps)).run C.E.P w = .ok us w ∧ DenL ρ l us
  | [], l, cs, h, _, _, _ => by cases h; exact ⟨[], by simp, rfl⟩
  | .tmp t :: rs, l, cs, h, hc, ht, hi => by
    simp only [resA] at h
    split at h <;> cases h
    rename_i hr
    obtain ⟨us, h1, h2⟩ := resA_sound hr hc ht hi
    exact ⟨_ :: us, by simp only [List.mapM_cons, Sem.run_bind, resG, Sem.run_pure, Result.andThen_ok, h1], _, us, rfl, ht t, h2⟩
  | .cell p t :: rs, l, cs, h, hc, ht, hi => by
    simp only [resA] at h
    split at h <;> try (cases h; done)
    rename_i v c hl
    split at h <;> cases h
    rename_i hr
    have ⟨hc1, hc2⟩ := allP_app2 hc
    obtain ⟨us, h1, h2⟩ := resA_sound hr hc2 ht hi
    obtain ⟨v', h3, h4⟩ := load_sound hl hc1 (ht p) hi.rel hi.glob
    refine ⟨v' :: us, ?_, v', us, rfl, h4, h2⟩
    have h5 : (resG a.tmps (.cell p t)).run C.E.P w = .ok v' w := by
      rw [← h3, show resG a.tmps (.cell p t) = (do loadVar t (← asAddr (a.tmps.getD p Go.undef))) from rfl]
      have hp := ht p
      unfold evLoad at hl
      split at hl
      · rename_i hlk
        rw [hlk] at hp
        obtain ⟨lo, _, he⟩ := hp
        rw [he]
        simp only [Instr.loadAt, Instr.sureAddr, asAddr]
      · rename_i hlk
        rw [hlk] at hp
        simp only [Den] at hp
        rw [hp]
        simp only [Instr.loadAt, Instr.sureAddr, asAddr]
      · cases hl
    simp only [List.mapM_cons, Sem.run_bind, h5, h1, Result.andThen_ok, Sem.run_pure]
end
theorem stable_id {G : Frm} {B : Nat} {ρ0 ρ : Rho} {w0 w : World} {H H' : Hp} {S : Sub} {os : List AObj} {ps vs : List AV} (hi : Inv (G.ctx B ρ0 w0) ρ H w) (hU : UniOk H' (idSub G.os.length) S ps vs os ρ) : ∀ i l, i < G.os.length → ρ0 i = some l → rho S ρ os i = some l := by
  intro i l hlt hl
  have h1 : lookO S i = some (.id i) := hU.le i _ (by rw [idSub_look, if_pos hlt])
  have h2 : rho S ρ os i = ρ i := by simp only [rho, h1]
  rw [h2]
  exact hi.stable i l hlt hl
theorem own_blks {C : Ctx} {ρ : Rho} {w : World} {H : Hp} {s0 S : Sub} {os : List AObj} {ps vs : List AV} (hi : Inv C ρ H w) (hU : UniOk H s0 S ps vs os ρ) : ∀ b, Blks (rho S ρ os) (hp os) b → Blks C.ρ0 C.H0 b ∨ C.w0.heap.size ≤ b := by
  intro b hb
  obtain ⟨j, i, l, _, h1, h2, _⟩ := hU.blks hb
  exact hi.own b ⟨i, l, h1, h2⟩
theorem idSub_ok {k n : Nat} (h : k ≤ n) : SubOk n (idSub k) := by
  intro j x hj
  rw [idSub_look] at hj
  split at hj
  · omega
  · cases hj
theorem ret_sound {G : Frm} {fn : Func} {cfg : Cfg} (hf : G.E.P.funcs[G.f]? = some fn) (h : Yes (evRet G.E fn.results.toList (len G.os) G.v G.os' cfg)) : Goods G cfg := by
  intro B ρ0 w0
  obtain ⟨hd, todo, tm, H⟩ := cfg
  unfold evRet at h
  simp only at h
  split at h <;> try (exact h.elim)
  split at h <;> try (exact h.elim)
  rename_i hret
  split at h <;> try (exact h.elim)
  rename_i l c1 hres
  split at h <;> try (exact h.elim)
  rename_i hble
  split at h <;> try (exact h.elim)
  rename_i S c2 huni
  have ⟨hc1, hc2⟩ := allP_app2 h
  have hble := Nat.le_of_ble_eq_true hble
  rw [len_eq, len_eq] at hble
  rw [len_eq] at huni
  intro ρ a w hi ht ha
  simp only at hi ht ha ⊢
  obtain ⟨us, h1, h2⟩ := resA_sound (C := G.ctx B ρ0 w0) hres hc1 ht hi
  have hU := uni_sound huni hc2 (idSub_ok hble) ρ
  have hrun : ∃ u, (results fn a.tmps).run G.E.P w = .ok u w ∧ Den ρ (oneA l) u := by
    have h3 : (results fn a.tmps).run G.E.P w = .ok (if h : us.toArray.size = 1 then us.toArray[0] else .tuple us.toArray) w := by
      rw [results_eq, Array.mapM_eq_mapM_toList]
      simp only [Sem.run_bind, map_eq_pure_bind, Sem.run_pure]
      have h1' := h1
      simp only [Frm.ctx] at h1'
      rw [h1']
      simp
    refine ⟨_, h3, ?_⟩
    match l, us, h2 with
    | [], us, h2 => simp only [DenL] at h2; subst h2; exact ⟨_, rfl, rfl⟩
    | [v], us, h2 =>
      obtain ⟨u, us', rfl, h4, h5⟩ := h2
      simp only [DenL] at h5; subst h5
      exact h4
    | v :: v' :: l, us, h2 =>
      obtain ⟨u, us', rfl, h4, u', us'', rfl, h5, h6⟩ := h2
      rw [dif_neg (by simp)]
      exact ⟨_, rfl, u, _, rfl, h4, u', _, rfl, h5, h6⟩
  obtain ⟨u, hru, hdu⟩ := hrun
  have hpost : Post B ρ0 (hp G.os) G.os.length w0 G.v G.os' (.returned u) w := by
    refine ⟨rho S ρ G.os', u, rfl, ?_, hU.rel hi.rel, hi.kept, own_blks hi hU, stable_id hi hU⟩
    obtain ⟨_, _, he, h4, _⟩ := hU.den [u] ⟨u, [], rfl, hdu, rfl⟩
    cases he; exact h4
  intro b cs hb hk
  have hleave : ∀ todo, Frame.leaving G.E.P { b.at a todo with mode := .returning } w (.returned u) := fun todo => ⟨rfl, ha.nodefer, hk, fn, by show G.E.P.funcs[b.fn]? = _; rw [hb]; exact hf, hru⟩
  cases todo with
  | nil => exact ⟨.returned u, w, _, hpost, .one step_end, hb, hleave _⟩
  | cons it k =>
    cases it <;> simp only [atRet] at hret <;> try (cases hret; done)
    rename_i c
    cases c <;> simp only at hret <;> try (cases hret; done)
    exact ⟨.returned u, w, _, hpost, .one step_ret, hb, hleave _⟩

/-- A loop's head, as a pattern, is met. -/
def pats : Tm → List AV
  | [] => []
  | (_, v) :: l => v :: pats l
def acts (tm : Tm) : Tm → List AV
  | [] => []
  | (t, _) :: l => look .any tm t :: acts tm l
def evHead (k0 : Nat) (c : Cfg) (tmH : Tm) (osH : List AObj) : Option (List Prop) := match c.hd with
  | .none => match Nat.ble k0 (len osH) with
    | true => match uni c.H (idSub k0) (pats tmH) (acts c.tm tmH) osH with
      | some (_, cs) => some cs
      | none => none
    | false => none
  | _ => none
theorem head_T {ρ ρ' : Rho} {tm tmH : Tm} {a : Act} (ht : RelT ρ tm a) (h : ∀ xs, DenL ρ (acts tm tmH) xs → DenL ρ' (pats tmH) xs) : RelT ρ' tmH a := by
  have h1 : ∀ l : Tm, DenL ρ (acts tm l) (l.map fun p => a.tmps.getD p.1 Go.undef) := by
    intro l
    induction l with
    | nil => rfl
    | cons p l ih => exact ⟨_, _, rfl, ht p.1, ih⟩
  have h2 := h _ (h1 tmH)
  intro t
  have key : ∀ l : Tm, DenL ρ' (pats l) (l.map fun p => a.tmps.getD p.1 Go.undef) → Den ρ' (look .any l t) (a.tmps.getD t Go.undef) := by
    intro l
    induction l with
    | nil => intro _; trivial
    | cons p l ih =>
      obtain ⟨i, v⟩ := p
      intro hl
      obtain ⟨x, xs, he, h3, h4⟩ := hl
      cases he
      rw [look_cons]
      split
      · rename_i he; subst he; exact h3
      · exact ih h4
  exact key tmH h2
theorem head_sound {G : Frm} {cfg : Cfg} {tmH : Tm} {osH : List AObj} (h : Yes (evHead (len G.os) cfg tmH osH)) (hg : Goods G ⟨.none, cfg.todo, tmH, hp osH⟩) : Goods G cfg := by
  intro B ρ0 w0
  obtain ⟨hd, todo, tm, H⟩ := cfg
  unfold evHead at h
  simp only at h
  split at h <;> try (exact h.elim)
  split at h <;> try (exact h.elim)
  rename_i hble
  split at h <;> try (exact h.elim)
  rename_i S cs huni
  have hble := Nat.le_of_ble_eq_true hble
  rw [len_eq, len_eq] at hble
  rw [len_eq] at huni
  intro ρ a w hi ht ha
  simp only at hi ht ha ⊢
  have hU := uni_sound huni h (idSub_ok hble) ρ
  exact hg B ρ0 w0 (rho S ρ osH) a w ⟨hU.rel hi.rel, hi.kept, own_blks hi hU, stable_id hi hU, hi.glob⟩ (head_T ht hU.den) ha

/-- What all ends of a run are to meet. -/
def allEnds (f : Cfg → Option (List Prop)) : List (Cfg × List Prop) → Option (List Prop)
  | [] => some []
  | (c, cs) :: l => match f c with
    | some ds => match allEnds f l with
      | some es => some (app2 cs (app2 ds es))
      | none => none
    | none => none
theorem allEnds_spec {f : Cfg → Option (List Prop)} : ∀ {l : List (Cfg × List Prop)}, Yes (allEnds f l) → ∀ x ∈ l, AllP x.2 ∧ Yes (f x.1)
  | [], _, _, hx => by cases hx
  | (c, cs) :: l, h, x, hx => by
    simp only [allEnds] at h
    split at h <;> try (exact h.elim)
    rename_i ds hds
    split at h <;> try (exact h.elim)
    rename_i es hes
    have ⟨h1, h2⟩ := allP_app2 h
    have ⟨h2, h3⟩ := allP_app2 h2
    rcases List.mem_cons.1 hx with rfl | hx
    · exact ⟨h1, by simp only [hds]; exact h2⟩
    · exact allEnds_spec (by rw [hes]; exact h3) x hx
/-- What is to hold for a run to come to the end that is wanted. -/
def evEnd (E : Env) (nt k0 : Nat) (v : AV) (os' : List AObj) (rs : List ResultVar) (n : Nat) (h : List (Hint E)) (cfg : Cfg) : Option (List Prop) := allEnds (evRet E rs k0 v os') (ev E nt n h cfg)
theorem Goods.fin {E : Env} {f : FuncId} {nt : Nat} {os : List AObj} {v : AV} {os' : List AObj} {cfg : Cfg} {fn : Func} (n : Nat) (h : List (Hint E)) (hm : E.P.follows .mixedOrders = true) (hf : E.P.funcs[f]? = some fn) (hy : Yes (evEnd E nt (len os) v os' fn.results.toList n h cfg)) : Goods ⟨E, f, nt, os, v, os'⟩ cfg := by
  intro B ρ w
  exact ev_sound (C := Frm.ctx ⟨E, f, nt, os, v, os'⟩ B ρ w) hm (fun x hx => by
    obtain ⟨h1, h2⟩ := allEnds_spec hy x hx
    exact ⟨h1, ret_sound (G := ⟨E, f, nt, os, v, os'⟩) hf h2 B ρ w⟩)
/-- .. or to a loop's head. -/
def evTo (E : Env) (nt k0 n : Nat) (h : List (Hint E)) (cfg : Cfg) (tmH : Tm) (osH : List AObj) : Option (List Prop) := allEnds (fun c => evHead k0 c tmH osH) (ev E nt n h cfg)
def todosOf : List (Cfg × List Prop) → List (List Item)
  | [] => []
  | (c, _) :: l => c.todo :: todosOf l
def reps (t : List Item) : List (Cfg × List Prop) → List (List Item)
  | [] => []
  | _ :: l => t :: reps t l
theorem todos_spec {t : List Item} : ∀ {l : List (Cfg × List Prop)}, todosOf l = reps t l → ∀ x ∈ l, x.1.todo = t
  | [], _, _, hx => by cases hx
  | (c, cs) :: l, h, x, hx => by
    simp only [todosOf, reps, List.cons.injEq] at h
    rcases List.mem_cons.1 hx with rfl | hx
    · exact h.1
    · exact todos_spec h.2 x hx
theorem Goods.to {E : Env} {f : FuncId} {nt : Nat} {os : List AObj} {v : AV} {os' : List AObj} {cfg : Cfg} (n : Nat) (h : List (Hint E)) (hm : E.P.follows .mixedOrders = true) {todo : List Item} {tmH : Tm} {osH : List AObj} (hg : Goods ⟨E, f, nt, os, v, os'⟩ ⟨.none, todo, tmH, hp osH⟩) (htodo : todosOf (ev E nt n h cfg) = reps todo (ev E nt n h cfg)) (hy : Yes (evTo E nt (len os) n h cfg tmH osH)) : Goods ⟨E, f, nt, os, v, os'⟩ cfg := by
  intro B ρ w
  exact ev_sound (C := Frm.ctx ⟨E, f, nt, os, v, os'⟩ B ρ w) hm (fun x hx => by
    obtain ⟨h1, h2⟩ := allEnds_spec hy x hx
    refine ⟨h1, head_sound (G := ⟨E, f, nt, os, v, os'⟩) (tmH := tmH) (osH := osH) h2 ?_ B ρ w⟩
    rw [todos_spec htodo x hx]; exact hg)
/-- What is left to do at a body's loops, by their number. -/
def findL (c : Code) (k : List Item) (n : Nat) : List Item ⊕ Nat := match c with
  | .seq a b => match findL a (.code b :: k) n with
    | .inl r => .inl r
    | .inr n => findL b k n
  | .cond _ t e => match findL t k n with
    | .inl r => .inl r
    | .inr n => findL e k n
  | .block id c => findL c (.inBlock id :: k) n
  | .loop c => match n with
    | 0 => .inl (.code c :: .inLoop c :: k)
    | n + 1 => findL c (.inLoop c :: k) n
  | _ => .inr n
/-- What is left to do at a region. -/
def findR (c : Code) (k : List Item) (n : Nat) : Option (List Item) := match c with
  | .seq a b => match findR a (.code b :: k) n with
    | some r => some r
    | none => findR b k n
  | .cond _ t e => match findR t k n with
    | some r => some r
    | none => findR e k n
  | .block id c => findR c (.inBlock id :: k) n
  | .loop c => findR c (.inLoop c :: k) n
  | .region i ops d => match Nat.beq i n with
    | true => some (.code (.region i ops d) :: k)
    | false => none
  | _ => none
def rg (fn : Func) (n : Nat) : List Item := match fn.body with
  | some c => match findR c [] n with
    | some r => r
    | none => []
  | none => []
def lp (fn : Func) (n : Nat) : List Item := match fn.body with
  | some c => match findL c [] n with
    | .inl r => r
    | .inr _ => []
  | none => []
end Go.Proofs.YtnheodgffackoaaDoor.E
