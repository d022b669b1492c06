/- The engine, fourth part: all quiet operations together; the loud ones. -/
import Derived.Test.YtnheodgffackoaaDoorEm
namespace Go.Proofs.YtnheodgffackoaaDoor.E
set_option linter.unusedSimpArgs false
set_option linter.unusedVariables false
open Go
section
variable {E : Env} {ρ : Rho} {tm : Tm} {a : Act} {H : Hp} {w : World} {B : Nat}

theorem denL_set : ∀ {l : List AV} {off : Nat} {us l' : List AV} {xs ys : List Value}, setn l off us = some l' → DenL ρ l xs → DenL ρ us ys → (ys ≠ [] → off + ys.length ≤ xs.length) ∧ DenL ρ l' (if ys = [] then xs else xs.take off ++ ys ++ xs.drop (off + ys.length))
  | l, off, [], l', xs, ys, h, h1, h2 => by
    simp only [DenL] at h2; subst h2
    have : l' = l := by cases l <;> cases off <;> (cases h; rfl)
    subst this
    exact ⟨fun h => absurd rfl h, by simpa using h1⟩
  | [], _, _ :: _, _, _, _, h, _, _ => by simp [setn] at h
  | u :: l, 0, v :: us, l', xs, ys, h, h1, h2 => by
    obtain ⟨x, xs, rfl, _, h3⟩ := h1
    obtain ⟨y, ys, rfl, h4, h5⟩ := h2
    simp only [setn] at h
    split at h <;> cases h
    rename_i r hr
    have ⟨h6, h7⟩ := denL_set hr h3 h5
    refine ⟨fun _ => ?_, ?_⟩
    · by_cases hy : ys = []
      · simp [hy]
      · have := h6 hy; simp at this ⊢; omega
    · simp only [reduceCtorEq, if_false, List.take_zero, List.nil_append, Nat.zero_add]
      refine ⟨y, _, rfl, h4, ?_⟩
      by_cases hy : ys = []
      · subst hy; simpa using h7
      · rw [if_neg hy] at h7
        simpa [Nat.add_comm] using h7
  | u :: l, i + 1, v :: us, l', xs, ys, h, h1, h2 => by
    obtain ⟨x, xs, rfl, h0, h3⟩ := h1
    simp only [setn] at h
    split at h <;> cases h
    rename_i r hr
    have ⟨h6, h7⟩ := denL_set hr h3 h2
    have hy : ys ≠ [] := by obtain ⟨_, _, rfl, _⟩ := h2; simp
    have := h6 hy
    rw [if_neg hy] at h7 ⊢
    refine ⟨fun _ => by simp; omega, x, _, ?_, h0, h7⟩
    rw [show i + 1 + ys.length = i + ys.length + 1 by omega]
    simp
theorem denL_set' {l : List AV} {off : Nat} {us l' : List AV} {xs ys : List Value} (h : setn l off us = some l') (h1 : DenL ρ l xs) (h2 : DenL ρ us ys) (hle : off + ys.length ≤ xs.length) : DenL ρ l' (xs.take off ++ ys ++ xs.drop (off + ys.length)) := by
  have ⟨_, h3⟩ := denL_set h h1 h2
  by_cases hy : ys = []
  · subst hy; simpa using h3
  · rwa [if_neg hy] at h3
theorem foldl_set : ∀ (vs : List Value) (off : Nat) (cells : Array Value), off + vs.length ≤ cells.size →
    ((vs.zipIdx 0).foldl (fun cs (p : Value × Nat) => cs.setIfInBounds (off + p.2) p.1) cells).toList = cells.toList.take off ++ vs ++ cells.toList.drop (off + vs.length) := by
  have key : ∀ (vs : List Value) (off k : Nat) (cells : Array Value), off + k + vs.length ≤ cells.size →
      ((vs.zipIdx k).foldl (fun cs (p : Value × Nat) => cs.setIfInBounds (off + p.2) p.1) cells).toList = cells.toList.take (off + k) ++ vs ++ cells.toList.drop (off + k + vs.length) := by
    intro vs
    induction vs with
    | nil => intro off k cells h; simp
    | cons v vs ih =>
      intro off k cells h
      simp only [List.zipIdx_cons, List.foldl_cons]
      rw [show ∀ x, (vs.zipIdx (k + 1)).foldl _ x = _ from fun x => rfl, ih off (k + 1) _ (by simp at h ⊢; omega)]
      have e := list_seg_step cells.toList (off + k) v vs (by simp at h ⊢; omega)
      simpa [Array.toList_setIfInBounds, Nat.add_assoc] using e
  intro vs off cells h
  simpa using key vs off 0 cells (by simpa using h)
theorem scal_one {v : AV} {u : Value} {p : List Prop} (h : scal v = some p) (hp : AllP p) (hd : Den ρ v u) : u.oneCell' = true ∧ u.cells = #[u] := by
  have key : ∀ u : Value, u.oneCell' = true → u.cells = #[u] := by intro u hu; cases u <;> first | rfl | cases hu
  have h1 : u.oneCell' = true := by
    cases v <;> simp only [scal, Option.some.injEq, reduceCtorEq] at h <;> (try subst h) <;> (try simp only [Den] at hd)
    all_goals first
      | (cases hd; rfl)
      | (subst hd; exact hp.1)
      | (obtain ⟨_, rfl, _⟩ := hd; rfl)
      | (obtain ⟨_, rfl⟩ := hd; rfl)
      | (obtain ⟨_, _, rfl⟩ := hd; rfl)
      | (obtain ⟨_, _, rfl, _⟩ := hd; rfl)
      | (obtain ⟨_, _, _, _, rfl, _⟩ := hd; rfl)
  exact ⟨h1, key _ h1⟩
theorem scals_one : ∀ {vs : List AV} {us : List Value} {p : List Prop}, scals vs = some p → AllP p → DenL ρ vs us → ∀ u ∈ us, u.oneCell' = true
  | [], us, _, _, _, hd => by simp only [DenL] at hd; subst hd; simp
  | v :: vs, us, p, h, hp, hd => by
    obtain ⟨u, us', rfl, h1, h2⟩ := hd
    simp only [scals] at h
    split at h <;> try (cases h; done)
    rename_i p1 hp1
    split at h <;> cases h
    rename_i p2 hp2
    have ⟨h3, h4⟩ := allP_app2 hp
    intro x hx
    rcases List.mem_cons.1 hx with rfl | hx
    · exact (scal_one hp1 h3 h1).1
    · exact scals_one hp2 h4 h2 x hx
theorem cells_sound {v : AV} {u : Value} {cs : List AV} {p : List Prop} (h : cellsO v = some (cs, p)) (hp : AllP p) (hd : Den ρ v u) : DenL ρ cs u.cells.toList ∧ ∀ x ∈ u.cells.toList, x.oneCell' = true := by
  unfold cellsO at h
  split at h
  · obtain ⟨c, rfl, hd⟩ := hd
    split at h <;> cases h
    rename_i hs
    exact ⟨hd, scals_one hs hp hd⟩
  · split at h <;> cases h
    rename_i hs
    have ⟨h1, h2⟩ := scal_one hs hp hd
    rw [h2]
    exact ⟨⟨u, [], rfl, hd, rfl⟩, by simpa using h1⟩
inductive PartsR (ρ : Rho) : List (Nat × AV) → List (Nat × Value) → Prop where
  | nil : PartsR ρ [] []
  | cons {p q ps qs} : p.1 = q.1 ∧ Den ρ p.2 q.2 → PartsR ρ ps qs → PartsR ρ (p :: ps) (q :: qs)
theorem fill_sound (pl : Nat → Option (Nat × Nat)) : ∀ (ps : List (Nat × AV)) (qs : List (Nat × Value)) (l r : List AV) (cs : List Prop) (cells : Array Value), fillA pl l ps = some (r, cs) → AllP cs → DenL ρ l cells.toList →
    PartsR ρ ps qs → ∃ c', Instr.fill pl cells qs = some c' ∧ DenL ρ r c'.toList
  | [], qs, l, r, cs, cells, h, _, hd, hq => by
    cases hq
    cases h
    exact ⟨cells, rfl, hd⟩
  | (i, v) :: ps, _, l, r, cs, cells, h, hc, hd, hq => by
    obtain _ | ⟨⟨hij, hvu⟩, hrest⟩ := hq
    rename_i q qs
    obtain ⟨j, u⟩ := q
    simp only at hij hvu
    subst hij
    simp only [fillA] at h
    split at h <;> try (cases h; done)
    rename_i off size hpl
    split at h <;> try (cases h; done)
    rename_i vs p hv
    split at h <;> try (cases h; done)
    rename_i hsz
    split at h <;> try (cases h; done)
    rename_i hfit
    split at h <;> try (cases h; done)
    rename_i l' hset
    split at h <;> cases h
    rename_i q' hr
    have ⟨hc1, hc2⟩ := allP_app2 hc
    have hsz := Nat.eq_of_beq_eq_true hsz
    have hfit := Nat.le_of_ble_eq_true hfit
    rw [denL_len hd] at hfit
    have ⟨hcd, _⟩ := cells_sound hv hc1 hvu
    have hlen := denL_len hcd
    have h4 := denL_set' hset hd hcd (by rw [← hlen, hsz]; exact hfit)
    have hs1 : u.cells.size = size := by rw [← hsz, hlen]; simp
    have hfold : (u.cells.zipIdx.foldl (fun cs (x : Value × Nat) => cs.setIfInBounds (off + x.2) x.1) cells).toList = cells.toList.take off ++ u.cells.toList ++ cells.toList.drop (off + u.cells.toList.length) := by
      rw [← foldl_set u.cells.toList off cells (by simp at hfit ⊢; omega)]
      rw [← Array.foldl_toList, Array.toList_zipIdx]
    rw [← hfold] at h4
    obtain ⟨c', h5, h6⟩ := fill_sound pl ps qs l' r q' _ hr hc2 h4 hrest
    refine ⟨c', ?_, h6⟩
    simp only [Instr.fill, hpl]
    rw [if_neg (by simp [hs1]; simp at hfit; omega)]
    exact h5
theorem forall2_parts (ht : RelT ρ tm a) (hg : RelG E.gc B w) : ∀ l : List (Nat × Operand), PartsR ρ (lmap (fun p => (p.1, opv E tm p.2)) l) (l.map fun p => (p.1, a.eval p.2))
  | [] => .nil
  | p :: l => .cons ⟨rfl, den_opv ht hg p.2⟩ (forall2_parts ht hg l)
theorem places_run {P : Program} : ∀ {fs : List Field} {pl : List (Nat × Nat)}, placesO P fs = some pl → fs.mapM (fun f => (P.info? f.type).map fun i => (f.offset, i.size)) = some pl
  | [], _, h => by cases h; rfl
  | f :: fs, pl, h => by
    simp only [placesO] at h
    split at h <;> try (cases h; done)
    rename_i n hn
    split at h <;> cases h
    rename_i l hl
    unfold sizeO at hn
    split at hn <;> cases hn
    rename_i i hi
    simp [List.mapM_cons, hi, places_run hl]
theorem nthG_eq {β : Type _} : ∀ (l : List β) (i : Nat), nthG l i = l[i]?
  | [], _ => rfl
  | _ :: _, 0 => rfl
  | _ :: l, i + 1 => by simpa [nthG] using nthG_eq l i
theorem build_sound {t : TypeId} {ps : List (Nat × AV)} {qs : Array (Nat × Value)} {v : AV} {cs : List Prop} (h : evBuild E t ps = some (v, cs)) (hc : AllP cs) (hq : PartsR ρ ps qs.toList) :
    ∃ v', (Instr.build t qs).run E.P w = .ok v' w ∧ Den ρ v v' := by
  unfold evBuild at h
  split at h <;> try (cases h; done)
  rename_i z hz
  have hzr : ∃ it, E.P.info? t = some it ∧ it.zero = some (.agg z) := by
    unfold zeroO at hz
    split at hz
    · rename_i it hit; exact ⟨it, hit, hz⟩
    · cases hz
  obtain ⟨it, hit, hz⟩ := hzr
  have hzd : DenL ρ (lmap ofCell z.toList) z.toList := by simpa using denL_map (ρ := ρ) ofCell id z.toList fun x _ => den_ofCell x
  split at h
  · rename_i fs hu
    split at h <;> try (cases h; done)
    rename_i pl hpl
    split at h <;> cases h
    rename_i l hl
    obtain ⟨c', h1, h2⟩ := fill_sound _ _ _ _ _ _ z hl hc hzd hq
    refine ⟨.agg c', ?_, c', rfl, h2⟩
    refine run_build w t qs c' ?_
    simp only [Program.built, hit, hu, hz, places_run hpl]
    rw [← h1]
    congr 1
    funext i
    rw [nthG_eq]
    simp
  · rename_i n e hu
    split at h <;> try (cases h; done)
    rename_i m hm
    split at h <;> cases h
    rename_i l hl
    obtain ⟨c', h1, h2⟩ := fill_sound _ _ _ _ _ _ z hl hc hzd hq
    refine ⟨.agg c', ?_, c', rfl, h2⟩
    have hie : ∃ ie, E.P.info? e = some ie ∧ ie.size = m := by
      unfold sizeO at hm
      split at hm
      · rename_i ie hie; cases hm; exact ⟨ie, hie, rfl⟩
      · cases hm
    obtain ⟨ie, hie, rfl⟩ := hie
    refine run_build w t qs c' ?_
    simp only [Program.built, hit, hu, hz, hie]
    exact h1
  · cases h

theorem typeAssert_sound {t xt : TypeId} {ok : Bool} {x v : AV} {cs : List Prop} {u : Value} (h : evTypeAssert E.P t ok x = some (v, cs)) (hx : Den ρ x u) : ∃ v', (Instr.typeAssert u xt t ok).run E.P w = .ok v' w ∧ Den ρ v v' := by
  unfold evTypeAssert at h
  split at h <;> try (cases h; done)
  rename_i ti iv
  obtain ⟨z, rfl, hz⟩ := hx
  split at h <;> try (cases h; done)
  rename_i d hni hu
  have hmatch : ∀ (f g : Sem Value), (match d, Value.iface ti z with
    | .interface _, .nilIface => g
    | .interface want, .iface t _ => g
    | _, .nilIface => g
    | _, .iface t' v => if t' = t then f else g
    | _, _ => g : Sem Value) = if ti = t then f else g := by
    intro f g; cases d <;> first | rfl | exact (hni _ rfl).elim
  split at h
  · rename_i hb
    obtain rfl := Nat.eq_of_beq_eq_true hb
    cases h
    cases ok
    · exact ⟨z, by simp only [Instr.typeAssert, Sem.run_bind, run_underlying hu, Result.andThen_ok]; cases d <;> first | rfl | exact (hni _ rfl).elim | (simp; done), hz⟩
    · exact ⟨.tuple #[z, .bool true], by simp only [Instr.typeAssert, Sem.run_bind, run_underlying hu, Result.andThen_ok]; cases d <;> first | rfl | exact (hni _ rfl).elim | (simp; done), #[z, .bool true], rfl, z, _, rfl, hz, _, _, rfl, rfl, rfl⟩
  · rename_i hb
    have hne : ti ≠ t := by rintro rfl; simp at hb
    split at h <;> try (cases h; done)
    split at h <;> cases h
    rename_i z0 hz0
    have hzr : (zeroValue t).run E.P w = .ok z0 w := by
      unfold zeroO at hz0
      split at hz0
      · rename_i i hi; simp [zeroValue, typeInfo, hi, hz0]
      · cases hz0
    refine ⟨.tuple #[z0, .bool false], ?_, #[z0, .bool false], rfl, z0, _, rfl, den_ofVal z0, _, _, rfl, rfl, rfl⟩
    simp only [Instr.typeAssert, Sem.run_bind, run_underlying hu, Result.andThen_ok]
    cases d <;> first | exact (hni _ rfl).elim | (simp [hne, hzr]; done)

theorem nil_sound {x v : AV} {cs : List Prop} {u : Value} {o : Oper} {y : Operand} (ho : o.op = .nilCheck y) (hy : a.eval y = u) (h : evNilCheck x = some (v, cs)) (hx : Den ρ x u) : ∃ v', (execOp a.eval o).run E.P w = .ok (.value v') w ∧ Den ρ v v' := by
  unfold evNilCheck at h
  split at h <;> cases h
  · obtain ⟨l, hl, rfl⟩ := hx
    exact ⟨_, by simp [execOp, ho, hy], l, hl, rfl⟩
  · simp only [Den] at hx; subst hx
    exact ⟨_, by simp [execOp, ho, hy], rfl⟩
  · obtain ⟨f, c, rfl, h1⟩ := hx
    exact ⟨_, by simp [execOp, ho, hy], f, c, rfl, h1⟩
  · obtain ⟨z, rfl, h1⟩ := hx
    exact ⟨_, by simp [execOp, ho, hy], z, rfl, h1⟩

theorem omap_den (ht : RelT ρ tm a) (hg : RelG E.gc B w) (x : Option Operand) : OptDen ρ (omap (opv E tm) x) (x.map a.eval) := by
  cases x with
  | none => rfl
  | some x => exact ⟨_, rfl, den_opv ht hg x⟩
theorem lmap_den (ht : RelT ρ tm a) (hg : RelG E.gc B w) (l : List Operand) : DenL ρ (lmap (opv E tm) l) (l.map a.eval) := denL_map _ _ l fun x _ => den_opv ht hg x

/-- A quiet operation gives what the engine says. -/
theorem evQ_sound {o : Oper} {v : AV} {cs : List Prop} (h : evQ E o.op tm H = some (v, cs)) (hc : AllP cs) (ht : RelT ρ tm a) (hg : RelG E.gc B w) (hH : RelH B ρ H w) :
    ∃ v', (execOp a.eval o).run E.P w = .ok (.value v') w ∧ Den ρ v v' := by
  have D := den_opv (E := E) ht hg
  have lift : ∀ (s : Sem Value) , (∃ v', s.run E.P w = .ok v' w ∧ Den ρ v v') → ∃ v', (do pure (Next.value (← s)) : Sem Next).run E.P w = .ok (.value v') w ∧ Den ρ v v' := by
    rintro s ⟨v', h1, h2⟩
    exact ⟨v', by simp [h1], h2⟩
  obtain ⟨dst, op, ty, pos, after, guard⟩ := o
  cases op <;> simp only [evQ] at h <;> try (cases h; done)
  case move x => cases h; exact ⟨_, by simp [execOp], D x⟩
  case assign x => cases h; exact ⟨_, by simp [execOp], D x⟩
  case pick c p q =>
    obtain ⟨v', h1, h2⟩ := pick_sound (E := E) (w := w) h (D c) (D p) (D q)
    refine ⟨v', ?_, h2⟩
    simp only [execOp]
    simp only [Sem.run_bind] at h1 ⊢
    generalize (asBool (a.eval c)).run E.P w = r at h1
    cases r with
    | ok b w' => simp only [Result.andThen_ok, Sem.run_pure] at h1 ⊢; cases h1; rfl
    | halt x w' => simp [Result.andThen] at h1
  case load t x => exact lift _ (load_sound h hc (D x) hH hg)
  case nilCheck x => exact nil_sound (y := x) rfl rfl h (D x)
  case binOp op t x y yt => exact lift _ (bin_sound h hc (D x) (D y))
  case unOp op t x => exact lift _ (un_sound h (D x))
  case convert s d x => exact lift _ (convert_sound h (D x))
  case slice t x lo hi mx => exact lift _ (slice_sound h hc (D x) hH (omap_den ht hg lo) (omap_den ht hg hi) (omap_den ht hg mx))
  case fieldAddr s x f => exact lift _ (fieldAddr_sound h (D x))
  case field s x f => exact lift _ (field_sound h (D x))
  case indexAddr t x i => exact lift _ (indexAddr_sound h hc (D x) (D i) hH)
  case index t x i => exact lift _ (index_sound h hc (D x) (D i))
  case makeInterface t x =>
    split at h <;> cases h
    rename_i d hni hu
    refine lift _ ⟨.iface t (a.eval x), ?_, _, rfl, D x⟩
    simp only [Instr.makeInterface, Sem.run_bind, run_underlying hu, Result.andThen_ok]
    cases d <;> first | rfl | exact (hni _ rfl).elim
  case makeFunc fn fs cs =>
    cases h
    refine lift _ ⟨.func fn (fs.map a.eval) (cs.map a.eval), by simp [Instr.makeFunc], _, _, rfl, ?_, ?_⟩
    · simpa using lmap_den (E := E) ht hg fs.toList
    · simpa using lmap_den (E := E) ht hg cs.toList
  case extract t i =>
    split at h <;> try (cases h; done)
    rename_i vs htv
    split at h <;> cases h
    rename_i hn
    have hd := D t
    rw [htv] at hd
    obtain ⟨c, hc1, hc2⟩ := hd
    obtain ⟨v', h1, h2⟩ := denL_nth hc2 hn
    have h3 : c[i]? = some v' := by simpa using h1
    exact lift _ ⟨v', by simp [Instr.extract, hc1, h3], h2⟩
  case build t ps =>
    refine lift _ (build_sound h hc ?_)
    have := forall2_parts (E := E) ht hg ps.toList
    simpa using this
  case typeAssert x xt t ok => exact lift _ (typeAssert_sound h (D x))
  case call c =>
    obtain ⟨callee, args, ts⟩ := c
    cases callee <;> simp only at h <;> try (cases h; done)
    rename_i b
    obtain ⟨v', h1, h2⟩ := builtin_sound (w := w) (ty := ty) (cn := args.map fun | .const _ => true | _ => false) h (lmap_den (E := E) ht hg args.toList)
    refine ⟨v', ?_, h2⟩
    have e : (args.toList.map a.eval).toArray = args.map a.eval := Array.ext' (by rw [Array.toList_map])
    rw [e] at h1
    simp only [execOp, resolve, Sem.run_bind, Sem.run_pure, Result.andThen_ok, invoke]
    exact h1
end
end Go.Proofs.YtnheodgffackoaaDoor.E
