/- The engine, eighth part: runs over abstract states are runs of the code. -/
import Derived.Test.YtnheodgffackoaaDoorEg
namespace Go.Proofs.YtnheodgffackoaaDoor.E
set_option linter.unusedSimpArgs false
set_option linter.unusedVariables false
open Go

theorem andB_cons {b : Bool} {l : List Bool} : andB (b :: l) = true ↔ b = true ∧ andB l = true := by
  cases b <;> simp [andB]
theorem nthG?_eq {β : Type _} (a : Array β) (i : Nat) : nthG? a i = a[i]? := by
  rw [nthG?, nthG_eq]; simp
theorem mem_tmpsOf {l : List Operand} {t : Nat} : t ∈ tmpsOf l ↔ Operand.tmp t ∈ l := by
  induction l with
  | nil => simp [tmpsOf]
  | cons x l ih => cases x <;> simp [tmpsOf, ih]
theorem bindsE_eq (e : Edge) : bindsE e = Region.binds .any e := by
  unfold bindsE Region.binds
  cases e.ground <;> rfl
theorem mem_predsL {l : List Edge} {k : Nat} : k ∈ predsL l ↔ ∃ e ∈ l, Region.binds .any e = true ∧ e.on = k := by
  induction l with
  | nil => simp [predsL]
  | cons e l ih =>
    simp only [predsL]
    split
    · rename_i h
      rw [bindsE_eq] at h
      simp only [List.mem_cons, ih]
      constructor
      · rintro (rfl | ⟨e', h1, h2⟩)
        · exact ⟨e, .inl rfl, h, rfl⟩
        · exact ⟨e', .inr h1, h2⟩
      · rintro ⟨e', rfl | h1, h2, h3⟩
        · exact .inl h3.symm
        · exact .inr ⟨e', h1, h2, h3⟩
    · rename_i h
      rw [bindsE_eq] at h
      rw [ih]
      constructor
      · rintro ⟨e', h1, h2⟩; exact ⟨e', by simp [h1], h2⟩
      · rintro ⟨e', h1, h2, h3⟩
        rcases List.mem_cons.1 h1 with rfl | h1
        · rw [h] at h2; cases h2
        · exact ⟨e', h1, h2, h3⟩
theorem predsIn_iff {L : List Nat} {l : List Edge} : predsIn L l = true ↔ ∀ k ∈ predsL l, k ∈ L := by
  induction l with
  | nil => simp [predsIn, predsL]
  | cons e l ih =>
    simp only [predsIn, predsL]
    cases hb : bindsE e
    · simpa using ih
    · cases hm : memN L e.on
      · have := memN_false.1 hm; simp [this]
      · have := memN_iff.1 hm; simp [this, ih]

section
variable {E : Env} {ops : Array Oper} {tm tm' : Tm} {H H' : Hp}
theorem opv_congr {x : Operand} (h : ∀ t, x = .tmp t → look .any tm t = look .any tm' t) : opv E tm x = opv E tm' x := by
  cases x <;> first | rfl | exact h _ rfl
theorem lmap_congr {β γ : Type _} {f g : β → γ} : ∀ {l : List β}, (∀ x ∈ l, f x = g x) → lmap f l = lmap g l
  | [], _ => rfl
  | x :: l, h => by simp only [lmap]; rw [h x (by simp), lmap_congr fun y hy => h y (by simp [hy])]
theorem ops_congr {o : Op} (h : ∀ t, t ∈ tmpsOf o.operands.toList → look .any tm t = look .any tm' t) : ∀ x ∈ o.operands, opv E tm x = opv E tm' x := by
  intro x hx
  refine opv_congr fun t ht => h t (mem_tmpsOf.2 ?_)
  subst ht
  simpa using hx
theorem evQ_congr {o : Op} (h : ∀ x ∈ o.operands, opv E tm x = opv E tm' x) : evQ E o tm H = evQ E o tm' H := by
  cases o <;> simp only [Op.operands] at h <;> simp only [evQ]
  case makeFunc fn fs cs =>
    rw [lmap_congr (f := opv E tm) (g := opv E tm') fun x hx => h x (by simp at hx; simp [hx]), lmap_congr (l := cs.toList) (f := opv E tm) (g := opv E tm') fun x hx => h x (by simp at hx; simp [hx])]
  case build t ps => rw [lmap_congr (f := fun p : Nat × Operand => (p.1, opv E tm p.2)) (g := fun p => (p.1, opv E tm' p.2)) fun p hp => by rw [h p.2 (by simp; exact ⟨p.1, by simpa using hp⟩)]]
  case call c =>
    obtain ⟨callee, args, ts⟩ := c
    cases callee <;> simp only
    rw [lmap_congr (f := opv E tm) (g := opv E tm') fun x hx => h x (by simp [Call.operands]; simpa using hx)]
  case slice t x lo hi mx => cases lo <;> cases hi <;> cases mx <;> simp_all [omap]
  all_goals first
    | rfl
    | (simp_all; done)
theorem evL0_congr {o : Op} {fx fy : Bool} (h : ∀ x ∈ o.operands, opv E tm x = opv E tm' x) : evL0 E o fx fy tm H = evL0 E o fx fy tm' H := by
  cases o <;> simp only [Op.operands] at h <;> simp only [evL0]
  case buildSlice t n ps => rw [lmap_congr (f := fun p : Nat × Operand => (p.1, opv E tm p.2)) (g := fun p => (p.1, opv E tm' p.2)) fun p hp => by rw [h p.2 (by simp; exact ⟨p.1, by simpa using hp⟩)]]
  case call c =>
    obtain ⟨callee, args, ts⟩ := c
    cases callee <;> (try simp only)
    rename_i b
    have e := lmap_congr (f := opv E tm) (g := opv E tm') (l := args.toList) fun x hx => h x (by simp [Call.operands]; simpa using hx)
    cases b <;> simp only [e]
  case makeMap t r => cases r <;> rfl
  all_goals first
    | rfl
    | (simp_all; done)
theorem evX_congr {o : Op} {fx : Bool} (h : ∀ x ∈ o.operands, opv E tm x = opv E tm' x) : evX E o fx tm H = evX E o fx tm' H := by
  cases o <;> simp only [Op.operands] at h <;> simp only [evX]
  case call c =>
    obtain ⟨callee, args, ts⟩ := c
    cases callee <;> (try simp only)
    rename_i b
    have e := lmap_congr (f := opv E tm) (g := opv E tm') (l := args.toList) fun x hx => h x (by simp [Call.operands]; simpa using hx)
    cases b <;> simp only [e]
  case next it b => cases b <;> simp_all
  all_goals first
    | rfl
    | (simp_all; done)
theorem evL_congr {o : Op} {fx fy : Bool} (h : ∀ x ∈ o.operands, opv E tm x = opv E tm' x) : evL E o fx fy tm H = evL E o fx fy tm' H := by
  unfold evL
  rw [evL0_congr h, evX_congr h]
theorem evOp_congr {o : Oper} {fx fy : Bool} (h : ∀ t, t ∈ tmpsOf o.op.operands.toList → look .any tm t = look .any tm' t) : evOp E o fx fy tm H = evOp E o fx fy tm' H := by
  simp only [evOp, evQ_congr (E := E) (H := H) (ops_congr h), evL_congr (E := E) (H := H) (fx := fx) (fy := fy) (ops_congr h)]
theorem calledA_congr {T : TriI E} {o : Op} (h : ∀ x ∈ o.operands, opv E tm x = opv E tm' x) : calledA T tm o = calledA T tm' o := by
  cases o <;> try rfl
  rename_i c
  obtain ⟨callee, args, ts⟩ := c
  have e := lmap_congr (f := opv E tm) (g := opv E tm') (l := args.toList) fun x hx => h x (by simp [Op.operands, Call.operands]; right; simpa using hx)
  cases callee <;> simp only [calledA]
  · rename_i f
    rw [e, h f (by simp [Op.operands, Call.operands])]
  · rename_i r nm
    rw [e, h r (by simp [Op.operands, Call.operands])]
theorem evPure_congr {T : TriI E} {o : Op} (h : ∀ x ∈ o.operands, opv E tm x = opv E tm' x) : evPure T o tm = evPure T o tm' := by
  unfold evPure
  rw [calledA_congr h]
theorem pure_call {T : TriI E} {o : Op} {v : AV} {cs : List Prop} (h : evPure T o tm = some (v, cs)) (H : Hp) : evCall T o tm H = some (v, H, cs) := by
  unfold evPure at h
  split at h <;> try (cases h; done)
  rename_i e1 e2
  split at h <;> try (cases h; done)
  rename_i vs c0 hca
  split at h <;> cases h
  rename_i cs0 hu
  have h1 : uni H [] T.args vs T.os = some ([], app2 cs0 []) := by
    rw [e1]
    show (match uL 0 [] T.args vs with
      | some (s, c) => match uOs 0 H s 0 [] with
        | some (s, d) => match distinct (idsOf s 0 []) with
          | true => some (s, app2 c d)
          | false => none
        | none => none
      | none => none) = _
    rw [hu]; rfl
  rw [e1] at h1
  unfold evCall
  simp only [hca, e1, e2, h1]
  rfl
theorem evAny_congr {hs : List (Hint E)} {o : Oper} (h : ∀ t, t ∈ tmpsOf o.op.operands.toList → look .any tm t = look .any tm' t) : evAny hs o tm H = evAny hs o tm' H := by
  unfold evAny
  split
  · split
    · simp only [evCall, calledA_congr (ops_congr h)]
    · rfl
  · rcases firstHint hs o.dst with ⟨d, fx, fy, hs⟩
    simp only [evOp_congr h]
theorem evQ_noload {o : Op} (h : isLoad o = false) : evQ E o tm H = evQ E o tm H' := by
  cases o <;> first | rfl | (rename_i c; obtain ⟨callee, _, _⟩ := c; cases callee <;> rfl) | cases h
end
theorem looks_op {ops : Array Oper} {o : Oper} {t : Nat} (h : t ∈ tmpsOf o.op.operands.toList) : t ∈ looks ops o := by
  unfold looks
  split
  · exact h
  · split
    · split
      · exact List.mem_cons_of_mem _ h
      · exact h
    · exact h
theorem looks_guard {ops : Array Oper} {o og : Oper} {g t : Nat} {want : Bool} (hg : o.guard = some (g, want)) (ho : ops[g]? = some og) (hd : og.dst = some t) : t ∈ looks ops o := by
  unfold looks
  rw [hg]
  simp only [nthG?_eq, ho, hd]
  exact List.mem_cons_self ..

/-- A body's run: from this point on it comes to an ending that R holds of. -/
def Runs (P : Program) (f : FuncId) (todo : List Item) (a : Act) (w : World) (R : Ending → World → Prop) : Prop :=
  ∀ (b : Frame) (cs : List Frame), b.fn = f → b.kind = .normal → ∃ e w' fr, R e w' ∧ Comes P (lone (b.at a todo) cs w) (lone fr cs w') e ∧ fr.fn = f ∧ fr.leaving P w' e
theorem Runs.step {P : Program} {f : FuncId} {todo todo' : List Item} {a a' : Act} {w w' : World} {R : Ending → World → Prop} (hs : ∀ (b : Frame) cs, step P (lone (b.at a todo) cs w) = .next (lone (b.at a' todo') cs w')) (h : Runs P f todo' a' w' R) : Runs P f todo a w R := by
  intro b cs hb hk
  obtain ⟨e, w2, fr, h1, h2, h3⟩ := h b cs hb hk
  exact ⟨e, w2, fr, h1, Comes.of_steps (.one (hs b cs)) h2, h3⟩
def Qof (P : Program) (f : FuncId) (todo : List Item) (R : Ending → World → Prop) : Exit → Act → World → Prop
  | .normal, a, w => Runs P f todo a w R
  | _, _, _ => False
theorem Runs.wp {P : Program} {f : FuncId} {todo : List Item} {c : Code} {a : Act} {w : World} {R : Ending → World → Prop} (h : c.wp P (Qof P f todo R) a w) : Runs P f (.code c :: todo) a w R := by
  intro b cs hb hk
  obtain ⟨e, a', w', hq, harr⟩ := h b todo cs
  cases e <;> simp only [Qof] at hq
  obtain ⟨e, w2, fr, h1, h2, h3⟩ := hq b cs hb hk
  exact ⟨e, w2, fr, h1, Comes.of_steps harr h2, h3⟩
theorem calls_of_runs {P : Program} {f : FuncId} {fn : Func} {c : Code} {args : Array Value} {w : World} {R : Ending → World → Prop} (hf : P.funcs[f]? = some fn) (hb : fn.body = some c)
    (h : Runs P f [.code c] { tmps := args ++ Array.replicate (fn.ntmps - args.size) Go.undef, defers := [] } w R) : Calls P f args w R := by
  intro cs
  obtain ⟨e, w', fr, h1, h2, h3, h4⟩ := h { (default : Frame) with fn := f, kind := .normal } cs rfl rfl
  refine ⟨e, w', fr, h1, ?_, h3, h4⟩
  have henter : Frame.enter P f args .normal = ({ (default : Frame) with fn := f, kind := .normal } : Frame).at { tmps := args ++ Array.replicate (fn.ntmps - args.size) Go.undef, defers := [] } [.code c] := by
    simp [Frame.enter, Frame.at, hf, hb]
  rw [henter]; exact h2

/-- What a run is about: the program, the function, how many slots it has, how many objects keep their places, and where it began. -/
structure Ctx where
  E : Env
  f : FuncId
  nt : Nat
  k0 : Nat
  B : Nat
  ρ0 : Rho
  H0 : Hp
  w0 : World
  R : Ending → World → Prop
theorem RelG.kept {gc : List (Nat × List AV)} {B : Nat} {w w' : World} {X : Nat → Prop} (h : RelG gc B w) (hB : B ≤ w.heap.size) (hk : Kept X w w') (hX : ∀ b, X b → B ≤ b) : RelG gc B w' := by
  intro g cs hg
  obtain ⟨h1, bc, t, fr, h2, h3⟩ := h g cs hg
  exact ⟨h1, bc, t, fr, (hk.block g (by omega) fun hx => by have := hX g hx; omega).trans h2, h3⟩
theorem RelH.own_ge {B : Nat} {ρ : Rho} {H : Hp} {w : World} (h : RelH B ρ H w) {b : Nat} (hb : Blks ρ H b) : B ≤ b := by
  obtain ⟨i, l, h1, h2⟩ := hb
  obtain ⟨l', h3, h4⟩ := h.obj i h2.ne
  rw [h1] at h3; cases h3
  exact (Foot.blk h4 h2).1
structure Inv (C : Ctx) (ρ : Rho) (H : Hp) (w : World) : Prop where
  rel : RelH C.B ρ H w
  kept : Kept (Blks C.ρ0 C.H0) C.w0 w
  own : ∀ b, Blks ρ H b → Blks C.ρ0 C.H0 b ∨ C.w0.heap.size ≤ b
  stable : ∀ i l, i < C.k0 → C.ρ0 i = some l → ρ i = some l
  glob : RelG C.E.gc C.B w
structure ActOk (C : Ctx) (a : Act) : Prop where
  nt : a.tmps.size = C.nt
  nodefer : a.defers = []
theorem ActOk.put {C : Ctx} {a : Act} (h : ActOk C a) (d : Option Nat) (v : Value) : ActOk C (a.put d v) := by
  cases d with
  | none => exact h
  | some d => exact ⟨by simp [Act.put, h.nt], h.nodefer⟩
theorem Inv.loud {C : Ctx} {ρ ρ' : Rho} {H H' : Hp} {w w' : World} {v : AV} {u : Value} (h : Inv C ρ H w) (hl : Loud C.B ρ H w v H' ρ' w' u) : Inv C ρ' H' w' :=
  ⟨hl.rel, h.kept.trans hl.kept h.own, fun b hb => (hl.own b hb).elim (h.own b) fun h2 => .inr (Nat.le_trans h.kept.size h2),
    fun i l hi h0 => hl.mono i l (h.stable i l hi h0), h.glob.kept h.rel.bound hl.kept fun b hb => h.rel.own_ge hb⟩
theorem Inv.drew {C : Ctx} {ρ : Rho} {H : Hp} {w : World} (h : Inv C ρ H w) : Inv C ρ H { w with drawn := w.drawn + 1 } :=
  ⟨⟨fun i hi => by
      obtain ⟨l, h1, h2⟩ := h.rel.obj i hi
      exact ⟨l, h1, h2.kept (X := fun _ => False) (fun _ _ h => h) ⟨rfl, rfl, rfl, Nat.le_refl _, fun _ _ _ => rfl⟩ (fun _ _ h => h) (fun _ h => h.elim)⟩,
    h.rel.sepF, h.rel.fresh, h.rel.bound⟩, ⟨h.kept.os, h.kept.tape, h.kept.output, h.kept.size, h.kept.block⟩, h.own, h.stable, h.glob⟩

theorem getD_put {a : Act} {d t : Nat} {v : Value} (hd : d < a.tmps.size) : (a.put (some d) v).tmps.getD t Go.undef = if t = d then v else a.tmps.getD t Go.undef := by
  simp only [Act.put, Array.getD_eq_getD_getElem?, Array.getElem?_setIfInBounds]
  by_cases h : d = t
  · subst h; simp [hd]
  · rw [if_neg h, if_neg (fun e => h e.symm)]
theorem RelT.put {ρ : Rho} {tm : Tm} {a : Act} {d : Nat} {v : AV} {u : Value} (h : RelT ρ tm a) (hd : d < a.tmps.size) (hv : Den ρ v u) : RelT ρ ((d, v) :: tm) (a.put (some d) u) := by
  intro t
  rw [look_cons, getD_put hd]
  split
  · exact hv
  · exact h t
theorem RelT.mono {ρ ρ' : Rho} {tm : Tm} {a : Act} (hm : ∀ i l, ρ i = some l → ρ' i = some l) (h : RelT ρ tm a) : RelT ρ' tm a := fun t => Den.mono hm (h t)
theorem putT_sound {C : Ctx} {ρ : Rho} {tm tm' : Tm} {a : Act} {dst : Option Nat} {v : AV} {u : Value} (h : putT C.nt tm dst v = some tm') (ht : RelT ρ tm a) (ha : ActOk C a) (hv : Den ρ v u) : RelT ρ tm' (a.put dst u) := by
  unfold putT at h
  split at h
  · cases h; exact ht
  · split at h <;> cases h
    rename_i hle
    have := Nat.le_of_ble_eq_true hle
    exact ht.put (by rw [ha.nt]; omega) hv
theorem decide1_sound {ρ : Rho} {d : Option Bool} {v v' : AV} {cs : List Prop} {u : Value} (h : decide1 d v = some (v', cs)) (hc : AllP cs) (hv : Den ρ v u) : Den ρ v' u := by
  unfold decide1 at h
  split at h
  · cases h; exact hv
  · split at h <;> cases h
    simp only [Den] at hv ⊢
    rw [hv, hc.1]
/-- An operation that is no call, in its place. -/
theorem evOp_sound {C : Ctx} {o : Oper} {fx fy : Bool} {tm : Tm} {H H' : Hp} {v : AV} {cs : List Prop} {ρ : Rho} {a : Act} {w : World} (h : evOp C.E o fx fy tm H = some (v, H', cs)) (hc : AllP cs) (ht : RelT ρ tm a) (hi : Inv C ρ H w) :
    ∃ nx w' ρ', (execOp a.eval o).run C.E.P w = .ok nx w' ∧ LoudN C.B ρ H w v H' ρ' w' nx := by
  unfold evOp at h
  split at h
  · rename_i v' cs' hq
    cases h
    obtain ⟨u, h1, h2⟩ := evQ_sound hq hc ht hi.glob hi.rel
    exact ⟨.value u, w, ρ, h1, h2, fun _ _ h => h, hi.rel, Kept.refl _ _, fun b hb => .inl hb⟩
  · exact evL_sound h hc ht hi.glob hi.rel
theorem upon_next {P : Program} {o : Oper} {a : Act} {K : Act → World → Prop} {Q : Exit → Act → World → Prop} {ρ : Rho} {v : AV} {nx : Next} {w : World} (hn : NextDen ρ v nx) (h : ∀ u, Den ρ v u → K (a.put o.dst u) w) : o.upon P a K Q (.ok nx w) := by
  cases nx <;> simp only [NextDen] at hn
  · exact h _ hn
  · exact h _ hn
/-- Any operation, in its place. -/
theorem evAny_wp {C : Ctx} {hs hs' : List (Hint C.E)} {o : Oper} {tm : Tm} {H H' : Hp} {v : AV} {cs : List Prop} {ρ : Rho} {a : Act} {w : World} (h : evAny hs o tm H = some (v, H', cs, hs')) (hc : AllP cs) (ht : RelT ρ tm a) (hi : Inv C ρ H w)
    {K : Act → World → Prop} {Q : Exit → Act → World → Prop} (hK : ∀ u w' ρ', Loud C.B ρ H w v H' ρ' w' u → K (a.put o.dst u) w') : o.wp C.E.P a w K Q := by
  unfold evAny at h
  split at h
  · cases hfc : firstCall hs o.dst with
    | none => simp only [hfc] at h; cases h
    | some p =>
      obtain ⟨T, h1⟩ := p
      simp only [hfc] at h
      split at h <;> cases h
      rename_i hcall
      exact call_wp hcall hc ht hi.glob hi.rel hK
  · rcases hfh : firstHint hs o.dst with ⟨d, fx, fy, h1⟩
    simp only [hfh] at h
    split at h <;> try (cases h; done)
    rename_i v0 H0 cs1 hop
    split at h <;> cases h
    rename_i cs2 hdec
    have ⟨hc1, hc2⟩ := allP_app2 hc
    obtain ⟨nx, w', ρ', h1, h2⟩ := evOp_sound hop hc1 ht hi
    rw [Oper.wp, h1]
    exact upon_next h2.den fun u hu => hK u w' ρ' ⟨decide1_sound hdec hc2 hu, h2.mono, h2.rel, h2.kept, h2.own⟩

theorem edges_down : ∀ {l : List Oper} {i : Nat}, edgesDown i l = true → ∀ j o, l[j]? = some o → ∀ k ∈ predsL o.after.toList, k < i + j := by
  have below : ∀ (l : List Nat) (i : Nat), edgesDown.allBelow i l = true → ∀ k ∈ l, k < i := by
    intro l
    induction l with
    | nil => intro i _ k hk; cases hk
    | cons j l ih =>
      intro i h k hk
      simp only [edgesDown.allBelow] at h
      split at h <;> try (cases h; done)
      rename_i hle
      have := Nat.le_of_ble_eq_true hle
      rcases List.mem_cons.1 hk with rfl | hk
      · omega
      · exact ih i h k hk
  intro l
  induction l with
  | nil => intro i _ j o h; simp at h
  | cons o l ih =>
    intro i h j o' hj k hk
    simp only [edgesDown] at h
    split at h <;> try (cases h; done)
    rename_i hb
    cases j with
    | zero => cases hj; exact below _ _ hb k hk
    | succ j => have := ih h j o' hj k hk; omega

/-- What is to hold of an operation that was taken ahead of its turn. -/
def Le (v u : AV) : Prop := ∀ ρ x, Den ρ v x → Den ρ u x
def PendOk (E : Env) (nt : Nat) (ops : Array Oper) (tm : Tm) (H : Hp) (o : Oper) : Prop :=
  ∃ t, o.dst = some t ∧ t < nt ∧ ((evG ops tm o = some false ∧ look .any tm t = .undef) ∨ (evG ops tm o = some true ∧ ∃ v cs, evQ E o.op tm H = some (v, cs) ∧ AllP cs ∧ Le v (look .any tm t)) ∨ (evG ops tm o = some true ∧ ∃ (T : TriI E) (v : AV) (cs : List Prop), evPure T o.op tm = some (v, cs) ∧ AllP cs ∧ Le v (look .any tm t)))
structure AnyInv (C : Ctx) (ops : Array Oper) (L : List Nat) (tm : Tm) (H : Hp) (ρ : Rho) (listed : Array Bool) (a : Act) (w : World) : Prop where
  size : listed.size = ops.size
  sub : ∀ i, i < ops.size → listed.getD i false = true → i ∈ L
  down : ∀ k o, ops[k]? = some o → listed.getD k false = true → ∀ j ∈ predsL o.after.toList, listed.getD j false = true
  lt : ∀ i ∈ L, i < ops.size
  tms : ∀ t, (∀ i o, i ∈ L → listed.getD i false = false → ops[i]? = some o → o.dst ≠ some t) → Den ρ (look .any tm t) (a.tmps.getD t Go.undef)
  pend : ∀ i o, i ∈ L → listed.getD i false = false → ops[i]? = some o → PendOk C.E C.nt ops tm H o
  free : ∀ i o k ok t, i ∈ L → listed.getD i false = false → ops[i]? = some o → k ∈ L → listed.getD k false = false → ops[k]? = some ok → ok.dst = some t → t ∈ looks ops o → k ∈ predsL o.after.toList
  once : ∀ i o k ok t, i ∈ L → listed.getD i false = false → ops[i]? = some o → k ∈ L → listed.getD k false = false → ops[k]? = some ok → o.dst = some t → ok.dst = some t → i = k
  inv : Inv C ρ H w
  act : ActOk C a
  down' : ∀ j o, ops[j]? = some o → ∀ k ∈ predsL o.after.toList, k < j
  nosel : ∀ (j : Nat) (o : Oper) cs b, ops[j]? = some o → o.op ≠ .select cs b
def GoodAny (C : Ctx) (ops : Array Oper) (L : List Nat) (tm : Tm) (H : Hp) (todo : List Item) : Prop :=
  ∀ ρ listed a w fuel, AnyInv C ops L tm H ρ listed a w → (∀ i, ops.size ≤ i → True) → (List.range ops.size).countP (fun i => !listed.getD i false) ≤ fuel → wpAny C.E.P .any ops (Qof C.E.P C.f todo C.R) fuel listed a w
section
variable {C : Ctx} {ops : Array Oper} {L : List Nat} {tm : Tm} {H : Hp} {ρ : Rho} {listed : Array Bool} {a : Act} {w : World} {todo : List Item}
theorem ready_iff {j : Nat} (hs : listed.size = ops.size) : j ∈ Region.ready .any ops listed ↔ ∃ o, ops[j]? = some o ∧ listed.getD j false = false ∧ ∀ k ∈ predsL o.after.toList, listed.getD k false = true := by
  rw [mem_ready]
  constructor
  · rintro ⟨h0, o, ho, h⟩
    have hlt : j < listed.size := by rw [hs]; exact (Array.getElem?_eq_some_iff.1 ho).1
    refine ⟨o, ho, by simpa [hlt] using h0, fun k hk => ?_⟩
    obtain ⟨e, he, hb, rfl⟩ := mem_predsL.1 hk
    exact h e (by simpa using he) hb
  · rintro ⟨o, ho, h0, h⟩
    have hlt : j < listed.size := by rw [hs]; exact (Array.getElem?_eq_some_iff.1 ho).1
    exact ⟨by simpa [hlt] using h0, o, ho, fun e he hb => h e.on (mem_predsL.2 ⟨e, by simpa using he, hb, rfl⟩)⟩
theorem ready_ne (h : AnyInv C ops L tm H ρ listed a w) {i : Nat} (hi : i < ops.size) (hu : listed.getD i false = false) : Region.ready .any ops listed ≠ [] := by
  have key : ∀ n i, i ≤ n → i < ops.size → listed.getD i false = false → ∃ j, j ∈ Region.ready .any ops listed := by
    intro n
    induction n with
    | zero =>
      intro i hle hi hu
      obtain ⟨o, ho⟩ : ∃ o, ops[i]? = some o := ⟨ops[i], by simp [hi]⟩
      exact ⟨i, (ready_iff h.size).2 ⟨o, ho, hu, fun k hk => by have := h.down' i o ho k hk; omega⟩⟩
    | succ n ih =>
      intro i hle hi hu
      obtain ⟨o, ho⟩ : ∃ o, ops[i]? = some o := ⟨ops[i], by simp [hi]⟩
      by_cases hall : ∀ k ∈ predsL o.after.toList, listed.getD k false = true
      · exact ⟨i, (ready_iff h.size).2 ⟨o, ho, hu, hall⟩⟩
      · obtain ⟨k, hk⟩ := Classical.not_forall.1 hall
        obtain ⟨hk1, hk2⟩ := Classical.not_imp.1 hk
        have hlt := h.down' i o ho k hk1
        exact ih k (by omega) (by omega) (by simpa using hk2)
  intro he
  obtain ⟨j, hj⟩ := key i i (Nat.le_refl _) hi hu
  rw [he] at hj; cases hj
theorem getD_set_self {i : Nat} (h : i < listed.size) : (listed.setIfInBounds i true).getD i false = true := by simp [h]
theorem getD_set_iff {i j : Nat} : (listed.setIfInBounds i true).getD j false = true → listed.getD j false = true ∨ j = i := by
  by_cases hij : i = j
  · exact fun _ => .inr hij.symm
  · intro h; rw [getD_set_ne false hij] at h; exact .inl h
theorem getD_set_false {i j : Nat} (hi : i < listed.size) : (listed.setIfInBounds i true).getD j false = false → listed.getD j false = false ∧ j ≠ i := by
  intro h
  by_cases hij : i = j
  · subst hij; rw [getD_set_self hi] at h; cases h
  · rw [getD_set_ne false hij] at h; exact ⟨h, fun e => hij e.symm⟩
theorem count_set {i : Nat} (hi : i < ops.size) (hs : listed.size = ops.size) (hu : listed.getD i false = false) :
    (List.range ops.size).countP (fun j => !(listed.setIfInBounds i true).getD j false) + 1 = (List.range ops.size).countP (fun j => !listed.getD j false) := by
  have hil : i < listed.size := by omega
  have hself := getD_set_self hil
  have key : ∀ n, (List.range n).countP (fun j => !(listed.setIfInBounds i true).getD j false) + (if i < n then 1 else 0) = (List.range n).countP (fun j => !listed.getD j false) := by
    intro n
    induction n with
    | zero => rfl
    | succ n ih =>
      rw [List.range_succ, List.countP_append, List.countP_append, List.countP_singleton, List.countP_singleton]
      by_cases hin : i = n
      · subst hin
        rw [if_neg (Nat.lt_irrefl _)] at ih
        have e1 : (if (!(listed.setIfInBounds i true).getD i false) = true then 1 else 0) = 0 := by rw [hself]; rfl
        have e2 : (if (!listed.getD i false) = true then 1 else 0) = 1 := by rw [hu]; rfl
        rw [e1, e2, if_pos (Nat.lt_succ_self i)]
        omega
      · have e1 : (listed.setIfInBounds i true).getD n false = listed.getD n false := getD_set_ne false hin
        rw [e1]
        by_cases h2 : i < n
        · rw [if_pos h2] at ih; rw [if_pos (Nat.lt_succ_of_lt h2)]; omega
        · rw [if_neg h2] at ih; rw [if_neg (show ¬ i < n + 1 by omega)]; omega
  have := key ops.size
  rw [if_pos hi] at this
  exact this
/-- The slots of what is on its way, hidden. -/
def maskOf (ops : Array Oper) (listed : Array Bool) : List Nat → Tm → Tm
  | [], tm => tm
  | i :: l, tm => if listed.getD i false = false then match (ops[i]?).bind (·.dst) with
    | some t => (t, .any) :: maskOf ops listed l tm
    | none => maskOf ops listed l tm
    else maskOf ops listed l tm
theorem mask_spec (t : Nat) : ∀ (l : List Nat), ((∀ i o, i ∈ l → listed.getD i false = false → ops[i]? = some o → o.dst ≠ some t) ∧ look .any (maskOf ops listed l tm) t = look .any tm t) ∨ look .any (maskOf ops listed l tm) t = .any
  | [] => .inl ⟨by simp, rfl⟩
  | i :: l => by
    simp only [maskOf]
    split
    · rename_i hu
      split
      · rename_i d hd
        rw [look_cons]
        split
        · exact .inr rfl
        · rename_i hne
          rcases mask_spec t l with ⟨h1, h2⟩ | h1
          · refine .inl ⟨fun j o hj hl ho hdo => ?_, h2⟩
            rcases List.mem_cons.1 hj with rfl | hj
            · rw [ho] at hd; simp only [Option.bind_some] at hd; rw [hd] at hdo; cases hdo; exact hne rfl
            · exact h1 j o hj hl ho hdo
          · exact .inr h1
      · rename_i hd
        rcases mask_spec t l with ⟨h1, h2⟩ | h1
        · refine .inl ⟨fun j o hj hl ho hdo => ?_, h2⟩
          rcases List.mem_cons.1 hj with rfl | hj
          · rw [ho] at hd; simp only [Option.bind_some] at hd; rw [hd] at hdo; cases hdo
          · exact h1 j o hj hl ho hdo
        · exact .inr h1
    · rename_i hu
      rcases mask_spec t l with ⟨h1, h2⟩ | h1
      · refine .inl ⟨fun j o hj hl ho hdo => ?_, h2⟩
        rcases List.mem_cons.1 hj with rfl | hj
        · exact hu hl
        · exact h1 j o hj hl ho hdo
      · exact .inr h1
theorem mask_T (h : AnyInv C ops L tm H ρ listed a w) : RelT ρ (maskOf ops listed L tm) a := by
  intro t
  rcases mask_spec (tm := tm) (listed := listed) (ops := ops) t L with ⟨h1, h2⟩ | h1
  · rw [h2]; exact h.tms t h1
  · rw [h1]; trivial
/-- An operation that is ready looks at nothing that is on its way, if what it looks at is so. -/
theorem mask_look {o : Oper} (hf : ∀ i oi t, i ∈ L → listed.getD i false = false → ops[i]? = some oi → oi.dst = some t → t ∉ looks ops o) : ∀ t ∈ looks ops o, look .any (maskOf ops listed L tm) t = look .any tm t := by
  have key : ∀ (l : List Nat), (∀ i ∈ l, i ∈ L) → ∀ t ∈ looks ops o, look .any (maskOf ops listed l tm) t = look .any tm t := by
    intro l
    induction l with
    | nil => intro _ t _; rfl
    | cons i l ih =>
      intro hl t ht
      have ih := ih (fun j hj => hl j (by simp [hj])) t ht
      simp only [maskOf]
      split
      · rename_i hu
        split
        · rename_i d hd
          rw [look_cons]
          split
          · rename_i he
            subst he
            cases ho : ops[i]? with
            | none => simp [ho] at hd
            | some oi => simp [ho] at hd; exact absurd ht (hf i oi _ (hl i (by simp)) hu ho hd)
          · exact ih
        · exact ih
      · exact ih
  exact key L fun _ h => h
theorem wanted_of {o : Oper} {b : Bool} (hg : evG ops tm o = some b) (hd : ∀ t ∈ looks ops o, Den ρ (look .any tm t) (a.tmps.getD t Go.undef)) : Region.wanted o (yielded ops a.tmps) = b := by
  unfold evG at hg
  unfold Region.wanted
  cases hgd : o.guard with
  | none => rw [hgd] at hg; cases hg; rfl
  | some gw =>
    obtain ⟨g, want⟩ := gw
    rw [hgd] at hg
    simp only [nthG?_eq] at hg ⊢
    unfold yielded
    cases ho : ops[g]? with
    | none => rw [ho] at hg; cases hg; cases want <;> rfl
    | some og =>
      rw [ho] at hg
      simp only [Option.bind_some] at hg ⊢
      cases hdst : og.dst with
      | none => rw [hdst] at hg; cases hg; cases want <;> rfl
      | some t =>
        rw [hdst] at hg
        simp only [Option.bind_some] at hg ⊢
        have h1 := hd t (looks_guard hgd ho hdst)
        split at hg
        · rename_i b' hb
          rw [hb] at h1
          simp only [Den] at h1
          have h2 : a.tmps[t]? = some (.bool b') := by
            rw [Array.getD_eq_getD_getElem?] at h1
            cases hq : a.tmps[t]? with
            | none => rw [hq] at h1; cases h1
            | some x => rw [hq] at h1; simp only [Option.getD_some] at h1; rw [h1]
          rw [h2]
          cases b' <;> cases want <;> cases hg <;> rfl
        · rename_i hb
          cases hg
          rw [hb] at h1
          simp only [Den] at h1
          have h2 : ∀ b', a.tmps[t]? ≠ some (.bool b') := by
            intro b' hq
            rw [Array.getD_eq_getD_getElem?, hq] at h1
            cases h1
          cases hq : a.tmps[t]? with
          | none => cases want <;> rfl
          | some x => cases x <;> first | (cases want <;> rfl) | exact absurd hq (h2 _)
        · cases hg
/-- One that is on its way is done. -/
theorem AnyInv.exec (h : AnyInv C ops L tm H ρ listed a w) {i : Nat} (hr : i ∈ Region.ready .any ops listed) (hi : i ∈ L) {K : Act → World → Prop}
    (hK : ∀ a' ρ' w', AnyInv C ops L tm H ρ' (listed.setIfInBounds i true) a' w' → K a' w') (Q : Exit → Act → World → Prop) : wpOp C.E.P ops Q i K a w := by
  obtain ⟨o, ho, hu, hpre⟩ := (ready_iff h.size).1 hr
  have hlt : i < listed.size := by rw [h.size]; exact h.lt i hi
  obtain ⟨t, hdst, htn, hp⟩ := h.pend i o hi hu ho
  have hfree : ∀ k ok t, k ∈ L → listed.getD k false = false → ops[k]? = some ok → ok.dst = some t → t ∉ looks ops o := by
    intro k ok t hk hku hok hkd ht
    have := hpre k (h.free i o k ok t hi hu ho hk hku hok hkd ht)
    rw [hku] at this; cases this
  have hml := mask_look (tm := tm) hfree
  have hmT := mask_T h
  have hlook : ∀ t ∈ looks ops o, Den ρ (look .any tm t) (a.tmps.getD t Go.undef) := fun t ht => by rw [← hml t ht]; exact hmT t
  have next : ∀ u ρ' w', (∀ i l, ρ i = some l → ρ' i = some l) → Inv C ρ' H w' → Den ρ' (look .any tm t) u → AnyInv C ops L tm H ρ' (listed.setIfInBounds i true) (a.put (some t) u) w' := by
    intro u ρ' w' hmono hinv hden
    refine ⟨by simpa using h.size, ?_, ?_, h.lt, ?_, ?_, ?_, ?_, hinv, h.act.put _ _, h.down', h.nosel⟩
    · intro j hj hl
      rcases getD_set_iff hl with h1 | rfl
      · exact h.sub j hj h1
      · exact hi
    · intro k ok hok hl j hj
      rcases getD_set_iff hl with h1 | rfl
      · exact getD_set_true (h.down k ok hok h1 j hj)
      · rw [ho] at hok; cases hok
        exact getD_set_true (hpre j hj)
    · intro s hs
      by_cases hst : s = t
      · subst hst
        rw [getD_put (by rw [h.act.nt]; exact htn), if_pos rfl]; exact hden
      · have : (a.put (some t) u).tmps.getD s Go.undef = a.tmps.getD s Go.undef := by
          simp only [Act.put, Array.getD_eq_getD_getElem?, Array.getElem?_setIfInBounds_ne (fun e => hst e.symm)]
        rw [this]
        refine (h.tms s fun j oj hj hju hoj hdj => ?_).mono hmono
        by_cases hji : j = i
        · subst hji; rw [ho] at hoj; cases hoj; rw [hdst] at hdj; cases hdj; exact hst rfl
        · exact hs j oj hj (by rw [getD_set_ne false (fun e => hji e.symm)]; exact hju) hoj hdj
    · intro j oj hj hju hoj; exact h.pend j oj hj (getD_set_false hlt hju).1 hoj
    · intro j oj k ok s h1 h2 h3 h4 h5; exact h.free j oj k ok s h1 (getD_set_false hlt h2).1 h3 h4 (getD_set_false hlt h5).1
    · intro j oj k ok s h1 h2 h3 h4 h5; exact h.once j oj k ok s h1 (getD_set_false hlt h2).1 h3 h4 (getD_set_false hlt h5).1
  unfold wpOp
  simp only [ho]
  rcases hp with ⟨hg, hv⟩ | ⟨hg, v, cs, hq, hc, hle⟩ | ⟨hg, T, v, cs, hq, hc, hle⟩
  · rw [if_neg (by rw [wanted_of hg hlook]; simp), hdst]
    exact hK _ _ _ (next _ _ _ (fun _ _ h => h) h.inv (by rw [hv]; rfl))
  · rw [if_pos (wanted_of hg hlook)]
    left
    have hq' : evQ C.E o.op (maskOf ops listed L tm) H = some (v, cs) := by
      rw [← hq]; exact evQ_congr (ops_congr fun t ht => hml t (looks_op ht))
    obtain ⟨u, h1, h2⟩ := evQ_sound hq' hc hmT h.inv.glob h.inv.rel
    rw [Oper.wp, h1, Oper.upon_value, hdst]
    exact hK _ _ _ (next _ _ _ (fun _ _ h => h) h.inv (hle _ _ h2))
  · rw [if_pos (wanted_of hg hlook)]
    left
    have hq' : evPure T o.op (maskOf ops listed L tm) = some (v, cs) := by
      rw [← hq]; exact evPure_congr (ops_congr fun t ht => hml t (looks_op ht))
    refine call_wp (pure_call hq' H) hc hmT h.inv.glob h.inv.rel fun u w' ρ' hl => ?_
    rw [hdst]
    exact hK _ _ _ (next _ _ _ hl.mono (h.inv.loud hl) (hle _ _ hl.den))

theorem GoodAny.done (hall : ∀ i, i < ops.size → i ∈ L) (h : ∀ ρ a w, Inv C ρ H w → RelT ρ tm a → ActOk C a → Runs C.E.P C.f todo a w C.R) : GoodAny C ops L tm H todo := by
  intro ρ listed a w fuel hA _
  induction fuel generalizing ρ listed a w with
  | zero =>
    intro hcnt
    have hno : ∀ i, i < ops.size → listed.getD i false = true := by
      intro i hi
      have := List.countP_eq_zero.1 (Nat.le_zero.1 hcnt) i (by simpa using hi)
      simpa using this
    have hr : Region.ready .any ops listed = [] := by
      cases hq : Region.ready .any ops listed with
      | nil => rfl
      | cons j l =>
        have hj : j ∈ Region.ready .any ops listed := by rw [hq]; simp
        obtain ⟨o, ho, hu, _⟩ := (ready_iff hA.size).1 hj
        rw [hno j (Array.getElem?_eq_some_iff.1 ho).1] at hu; cases hu
    exact ⟨hr, h ρ a w hA.inv (fun t => hA.tms t fun i o hi hu ho => by rw [hno i (hA.lt i hi)] at hu; cases hu) hA.act⟩
  | succ fuel ih =>
    intro hcnt
    refine ⟨fun hr => ?_, fun i hi => ?_⟩
    · have hno : ∀ i, i < ops.size → listed.getD i false = true := by
        intro i hi
        cases hu : listed.getD i false with
        | true => rfl
        | false => exact absurd hr (ready_ne hA hi hu)
      exact h ρ a w hA.inv (fun t => hA.tms t fun i o hi hu ho => by rw [hno i (hA.lt i hi)] at hu; cases hu) hA.act
    · obtain ⟨o, ho, hu, _⟩ := (ready_iff hA.size).1 hi
      have hlt := (Array.getElem?_eq_some_iff.1 ho).1
      refine hA.exec hi (hall i hlt) (fun a' ρ' w' hA' => ih _ _ _ _ hA' ?_) _
      have := count_set (ops := ops) hlt hA.size hu
      omega
/-- The general step: if whatever is ready and not taken yet leads on, so does the state. -/
theorem GoodAny.sync (h : ∀ ρ listed a w fuel i, AnyInv C ops L tm H ρ listed a w → i ∈ Region.ready .any ops listed → i ∉ L → (List.range ops.size).countP (fun i => !listed.getD i false) ≤ fuel + 1 → wpOp C.E.P ops (Qof C.E.P C.f todo C.R) i (wpAny C.E.P .any ops (Qof C.E.P C.f todo C.R) fuel (listed.setIfInBounds i true)) a w)
    {j : Nat} (hj : j < ops.size) (hjL : j ∉ L) : GoodAny C ops L tm H todo := by
  intro ρ listed a w fuel hA _
  have hju : ∀ {ρ listed a w}, AnyInv C ops L tm H ρ listed a w → listed.getD j false = false := by
    intro ρ listed a w hA
    cases hu : listed.getD j false with
    | false => rfl
    | true => exact absurd (hA.sub j hj hu) hjL
  induction fuel generalizing ρ listed a w with
  | zero =>
    intro hcnt
    have := List.countP_eq_zero.1 (Nat.le_zero.1 hcnt) j (by simpa using hj)
    rw [hju hA] at this
    simp at this
  | succ fuel ih =>
    intro hcnt
    refine ⟨fun hr => absurd hr (ready_ne hA hj (hju hA)), fun i hi => ?_⟩
    by_cases hiL : i ∈ L
    · obtain ⟨o, ho, hu, _⟩ := (ready_iff hA.size).1 hi
      have hlt := (Array.getElem?_eq_some_iff.1 ho).1
      refine hA.exec hi hiL (fun a' ρ' w' hA' => ih _ _ _ _ hA' ?_) _
      have := count_set (ops := ops) hlt hA.size hu
      omega
    · exact h ρ listed a w fuel i hA hi hiL hcnt
theorem apartL_spec {d : Nat} {done : List Nat} : ∀ {l : List Nat}, apartL ops d done l = true → ∀ i o, i ∈ l → i ∉ done → ops[i]? = some o → d ∉ looks ops o ∧ o.dst ≠ some d
  | [], _, _, _, hi, _, _ => by cases hi
  | j :: l, h, i, o, hi, hd, ho => by
    simp only [apartL, nthG?_eq] at h
    rcases List.mem_cons.1 hi with rfl | hi'
    · rw [memN_false.2 hd] at h
      simp only [ho] at h
      split at h <;> try (cases h; done)
      rename_i h1
      split at h <;> try (cases h; done)
      rename_i h2
      refine ⟨memN_false.1 h1, fun e => ?_⟩
      simp [dstIs, e] at h2
    · refine apartL_spec (l := l) ?_ i o hi' hd ho
      split at h
      · exact h
      · split at h
        · exact h
        · split at h <;> try (cases h; done)
          split at h <;> try (cases h; done)
          exact h
theorem freeOf_spec {ts done : List Nat} : ∀ {l : List Nat}, freeOf ops ts done l = true → ∀ i o t, i ∈ l → i ∉ done → ops[i]? = some o → o.dst = some t → t ∉ ts
  | [], _, _, _, _, hi, _, _, _ => by cases hi
  | j :: l, h, i, o, t, hi, hd, ho, hdst => by
    simp only [freeOf, nthG?_eq] at h
    rcases List.mem_cons.1 hi with rfl | hi'
    · rw [memN_false.2 hd] at h
      simp only [ho, hdst] at h
      split at h <;> try (cases h; done)
      rename_i h1
      exact memN_false.1 h1
    · refine freeOf_spec (l := l) ?_ i o t hi' hd ho hdst
      split at h
      · exact h
      · split at h
        · exact h
        · split at h
          · exact h
          · split at h <;> try (cases h; done)
            exact h
theorem evG_congr {o : Oper} {tm' : Tm} (h : ∀ t ∈ looks ops o, look .any tm t = look .any tm' t) : evG ops tm o = evG ops tm' o := by
  unfold evG
  cases hg : o.guard with
  | none => rfl
  | some gw =>
    obtain ⟨g, want⟩ := gw
    simp only [nthG?_eq]
    cases ho : ops[g]? with
    | none => rfl
    | some og =>
      simp only
      cases hd : og.dst with
      | none => rfl
      | some t => simp only; rw [h t (looks_guard hg ho hd)]
/-- What is on its way stays so, when another slot gets a value. -/
theorem PendOk.put {E : Env} {nt : Nat} {o : Oper} {d : Nat} {v : AV} (h : PendOk E nt ops tm H o) (h1 : d ∉ looks ops o) (h2 : o.dst ≠ some d) : PendOk E nt ops ((d, v) :: tm) H o := by
  obtain ⟨t, hdst, hnt, hp⟩ := h
  have hl : ∀ s ∈ looks ops o, look .any ((d, v) :: tm) s = look .any tm s := fun s hs => by
    rw [look_cons, if_neg (by rintro rfl; exact h1 hs)]
  have ht : look .any ((d, v) :: tm) t = look .any tm t := by rw [look_cons, if_neg (by rintro rfl; exact h2 hdst)]
  refine ⟨t, hdst, hnt, ?_⟩
  rw [evG_congr (tm' := tm) hl, ht, evQ_congr (tm' := tm) (ops_congr fun s hs => hl s (looks_op hs))]
  have hpu : ∀ T : TriI E, evPure T o.op ((d, v) :: tm) = evPure T o.op tm := fun T => evPure_congr (ops_congr fun s hs => hl s (looks_op hs))
  simp only [hpu]
  exact hp
theorem PendOk.heap {E : Env} {nt : Nat} {o : Oper} {H' : Hp} (h : PendOk E nt ops tm H o) (hs : isLoad o.op = true → evQ E o.op tm H' = evQ E o.op tm H) : PendOk E nt ops tm H' o := by
  obtain ⟨t, hdst, hnt, hp⟩ := h
  refine ⟨t, hdst, hnt, ?_⟩
  have : evQ E o.op tm H' = evQ E o.op tm H := by
    cases hl : isLoad o.op with
    | true => exact hs hl
    | false => exact evQ_noload hl
  rw [this]; exact hp
theorem stillL_spec {E : Env} {H' : Hp} {done : List Nat} : ∀ {l : List Nat}, AllP (stillL E ops tm H H' done l) → ∀ i o, i ∈ l → i ∉ done → ops[i]? = some o → isLoad o.op = true → evQ E o.op tm H' = evQ E o.op tm H
  | [], _, _, _, hi, _, _, _ => by cases hi
  | j :: l, h, i, o, hi, hd, ho, hl => by
    simp only [stillL, nthG?_eq] at h
    rcases List.mem_cons.1 hi with rfl | hi'
    · rw [memN_false.2 hd] at h
      simp only [ho, hl] at h
      exact h.1
    · refine stillL_spec (l := l) ?_ i o hi' hd ho hl
      split at h
      · exact h
      · split at h
        · exact h
        · split at h
          · exact h.2
          · exact h
theorem newOnes_spec {S : List Nat} : ∀ {l : List Nat} {x : Nat}, x ∈ newOnes S l → x ∈ S ∨ x ∈ l
  | [], _, h => .inl h
  | j :: l, x, h => by
    simp only [newOnes] at h
    split at h
    · exact (newOnes_spec h).imp id fun h => by simp [h]
    · have := newOnes_spec' h
      rcases this with h1 | h1
      · rcases List.mem_cons.1 h1 with rfl | h1
        · exact .inr (by simp)
        · exact .inl h1
      · exact .inr (by simp [h1])
where newOnes_spec' {S : List Nat} : ∀ {l : List Nat} {x : Nat}, x ∈ newOnes S l → x ∈ S ∨ x ∈ l
  | [], _, h => .inl h
  | j :: l, x, h => by
    simp only [newOnes] at h
    split at h
    · exact (newOnes_spec' h).imp id fun h => by simp [h]
    · rcases newOnes_spec' h with h1 | h1
      · rcases List.mem_cons.1 h1 with rfl | h1
        · exact .inr (by simp)
        · exact .inl h1
      · exact .inr (by simp [h1])
/-- All that is ahead of what is done is done. -/
theorem cloD_spec {P : Nat → Prop} (hP : ∀ k o, ops[k]? = some o → P k → ∀ j ∈ predsL o.after.toList, P j) : ∀ (n : Nat) (S : List Nat), (∀ x ∈ S, P x) → ∀ x ∈ cloD ops n S, P x
  | 0, S, h, x, hx => h x hx
  | n + 1, S, h, x, hx => by
    simp only [cloD, nthG?_eq] at hx
    split at hx
    · rename_i hm
      split at hx
      · rename_i o ho
        refine cloD_spec hP n _ (fun y hy => ?_) x hx
        rcases newOnes_spec hy with h1 | h1
        · exact h y h1
        · exact hP n o ho (h n (memN_iff.1 hm)) y h1
      · exact cloD_spec hP n S h x hx
    · exact cloD_spec hP n S h x hx
theorem pickO_spec {L : List Nat} : ∀ {l : List Oper} {i j : Nat}, pickO L i l = some j → i ≤ j
  | [], _, _, h => by simp [pickO] at h
  | o :: l, i, j, h => by
    simp only [pickO] at h
    split at h
    · have := pickO_spec h; omega
    · split at h
      · cases h; omega
      · have := pickO_spec h; omega
theorem readyAll_mem {L : List Nat} : ∀ {l : List Oper} {i k : Nat} {o : Oper}, l[k]? = some o → readyO L (i + k) o = true → i + k ∈ readyAll L i l
  | [], _, _, _, h, _ => by simp at h
  | o :: l, i, k, o', h, hr => by
    simp only [readyAll]
    cases k with
    | zero =>
      cases h
      rw [Nat.add_zero] at hr
      rw [hr]; exact List.mem_cons_self ..
    | succ k =>
      have := readyAll_mem (l := l) (i := i.succ) (k := k) h (by rwa [show i.succ + k = i + (k + 1) by omega])
      rw [show i.succ + k = i + (k + 1) by omega] at this
      split
      · exact List.mem_cons_of_mem _ this
      · exact this
theorem readyAll_ready {L : List Nat} : ∀ {l : List Oper} {i j : Nat}, j ∈ readyAll L i l → ∃ k o, j = i + k ∧ l[k]? = some o ∧ readyO L j o = true
  | [], _, _, h => by simp [readyAll] at h
  | o :: l, i, j, h => by
    simp only [readyAll] at h
    have key : j ∈ readyAll L i.succ l → ∃ k o', j = i + k ∧ (o :: l)[k]? = some o' ∧ readyO L j o' = true := fun h => by
      obtain ⟨k, o', h1, h2, h3⟩ := readyAll_ready h
      exact ⟨k + 1, o', by omega, by simpa using h2, h3⟩
    split at h
    · rename_i hr
      rcases List.mem_cons.1 h with rfl | h
      · exact ⟨0, o, by omega, rfl, hr⟩
      · exact key h
    · exact key h
end
end Go.Proofs.YtnheodgffackoaaDoor.E
