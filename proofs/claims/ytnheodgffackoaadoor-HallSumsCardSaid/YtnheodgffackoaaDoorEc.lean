/- The engine, third part: the quiet operations are as the model's. -/
import Derived.Test.YtnheodgffackoaaDoorEb
namespace Go.Proofs.YtnheodgffackoaaDoor.E
set_option linter.unusedSimpArgs false
set_option linter.unusedVariables false
open Go
section
variable {E : Env} {ρ : Rho} {tm : Tm} {a : Act} {H : Hp} {w : World} {B : Nat}

theorem bin_sound {op : BinOp} {t : TypeId} {x y : Operand} {p q v : AV} {cs : List Prop} {u z : Value} (h : evBin E op t x y p q = some (v, cs)) (hc : AllP cs) (hp : Den ρ p u) (hq : Den ρ q z) :
    ∃ v', (do eqGuard op t x y u z; binOp op t u z).run E.P w = .ok v' w ∧ Den ρ v v' := by
  unfold evBin at h
  split at h
  · rename_i j m k n
    simp only [Den] at hp hq
    subst hp hq
    split at h
    · cases h
      refine ⟨_, ?_, rfl⟩
      have h0 : ¬ n < 0 := by have := hc.1; omega
      simp [eqGuard_shl, binOp, Op.shift, h0]
    · cases h
      refine ⟨_, ?_, rfl⟩
      have h0 : ¬ n < 0 := by have := hc.1; omega
      simp [eqGuard_shr, binOp, Op.shift, h0]
    · rename_i h1 h2
      split at h
      · rename_i hk
        rw [← kindEq_eq hk]
        exact int_sound h hc (by rintro rfl; exact h1 rfl) (by rintro rfl; exact h2 rfl)
      · cases h
  · rename_i id off n
    obtain ⟨l, a, cap, hl, rfl, hn, hroom, hadr⟩ := hp
    simp only [Den] at hq; subst hq
    split at h <;> cases h
    · rename_i e hu
      obtain rfl := hadr (by have := hc.1; omega)
      have heq : (Op.equal t (.slice (some ⟨l.blk, l.base + off * l.sz, none⟩) n cap) (.slice none 0 0)).run E.P w = .ok false w := eqIn_of 0 fun d => by simp [Op.equalIn, run_underlying hu]
      exact ⟨.bool false, by simp [eqGuard_at_slice, binOp, heq], rfl⟩
    · rename_i e hu
      obtain rfl := hadr (by have := hc.1; omega)
      have heq : (Op.equal t (.slice (some ⟨l.blk, l.base + off * l.sz, none⟩) n cap) (.slice none 0 0)).run E.P w = .ok false w := eqIn_of 0 fun d => by simp [Op.equalIn, run_underlying hu]
      exact ⟨.bool true, by simp [eqGuard_at_slice, binOp, heq], rfl⟩
  · rename_i u0
    simp only [Den] at hp hq; subst hp hq
    split at h <;> cases h
    · rename_i e hu
      have h1 : isP u = true := hc.1
      cases u with
      | pointer a =>
        refine ⟨.bool (nilP (.pointer a)), ?_, rfl⟩
        have heq : (Op.equal t (.pointer a) (.pointer none)).run E.P w = .ok (nilP (.pointer a)) w := by cases a <;> exact eqIn_of 0 fun d => by simp [Op.equalIn, run_underlying hu, nilP]
        simp [eqGuard_at_pointer, binOp, heq]
      | _ => cases h1
    · rename_i e hu
      have h1 : isP u = true := hc.1
      cases u with
      | pointer a =>
        refine ⟨.bool (!nilP (.pointer a)), ?_, rfl⟩
        have heq : (Op.equal t (.pointer a) (.pointer none)).run E.P w = .ok (nilP (.pointer a)) w := by cases a <;> exact eqIn_of 0 fun d => by simp [Op.equalIn, run_underlying hu, nilP]
        simp [eqGuard_at_pointer, binOp, heq]
      | _ => cases h1
  · obtain ⟨ad, cap, rfl⟩ := hp
    simp only [Den] at hq; subst hq
    split at h <;> cases h
    · rename_i e hu
      have heq : (Op.equal t (.slice (some ad) 0 cap) (.slice none 0 0)).run E.P w = .ok false w := eqIn_of 0 fun d => by simp [Op.equalIn, run_underlying hu]
      exact ⟨.bool false, by simp [eqGuard_at_slice, binOp, heq], rfl⟩
    · rename_i e hu
      have heq : (Op.equal t (.slice (some ad) 0 cap) (.slice none 0 0)).run E.P w = .ok false w := eqIn_of 0 fun d => by simp [Op.equalIn, run_underlying hu]
      exact ⟨.bool true, by simp [eqGuard_at_slice, binOp, heq], rfl⟩
  · rename_i hni
    have hgen : ∀ v0, evEq E.P E.eqs t x y p q = some v0 → (eqGuard op t x y u z).run E.P w = .ok () w ∧ ∃ e, (Op.equal t u z).run E.P w = .ok e w ∧ (v0 = .bl e ∨ v0 = .bool e) := fun v0 h0 => eq_sound h0 hp hq op
    have hshape : ∀ v0, evEq E.P E.eqs t x y p q = some v0 → (∀ e, (Op.equal t u z).run E.P w = .ok e w → (binOp .eql t u z).run E.P w = .ok (.bool e) w ∧ (binOp .neq t u z).run E.P w = .ok (.bool (!e)) w) := by
      intro v0 h0 e he
      unfold evEq at h0
      split at h0 <;> try (cases h0; done)
      all_goals
        (try simp only [Den] at hp); (try simp only [Den] at hq)
        first | subst hp | obtain ⟨_, rfl, _⟩ := hp | obtain ⟨_, _, rfl⟩ := hp | obtain ⟨_, _, rfl, _⟩ := hp
        first | subst hq | obtain ⟨_, rfl, _⟩ := hq | obtain ⟨_, _, rfl⟩ := hq | obtain ⟨_, _, rfl, _⟩ := hq
        constructor <;> simp [binOp, he]
    split at h
    · split at h <;> cases h
      rename_i v0 h0
      obtain ⟨h1, e, h2, h3⟩ := hgen _ h0
      refine ⟨.bool e, ?_, ?_⟩
      · rw [Sem.run_bind, h1]; exact (hshape _ h0 e h2).1
      · rcases h3 with rfl | rfl <;> rfl
    · split at h <;> try (cases h; done)
      rename_i v0 h0
      split at h <;> cases h
      rename_i v1 hv1
      obtain ⟨h1, e, h2, h3⟩ := hgen _ h0
      refine ⟨.bool (!e), ?_, ?_⟩
      · rw [Sem.run_bind, h1]; exact (hshape _ h0 e h2).2
      · rcases h3 with rfl | rfl <;> (cases hv1; rfl)
    · cases h

theorem un_sound {op : UnOp} {p v : AV} {cs : List Prop} {u : Value} (h : evUn op p = some (v, cs)) (hp : Den ρ p u) : ∃ v', (Op.unary op u).run E.P w = .ok v' w ∧ Den ρ v v' := by
  unfold evUn at h
  split at h <;> cases h <;> (simp only [Den] at hp; subst hp; refine ⟨_, ?_, rfl⟩)
  · simp [Op.unary, Op.intArith]
  · simp [Op.unary, Op.intBits]
  · simp [Op.unary]
  · simp [Op.unary]

theorem pick_sound {c p q v : AV} {cs : List Prop} {b u z : Value} (h : evPick c p q = some (v, cs)) (hb : Den ρ c b) (hp : Den ρ p u) (hq : Den ρ q z) :
    ∃ v', (do pure (if ← asBool b then u else z) : Sem Value).run E.P w = .ok v' w ∧ Den ρ v v' := by
  unfold evPick at h
  split at h
  · cases h; simp only [Den] at hb; subst hb; exact ⟨u, by simp [asBool], hp⟩
  · cases h; simp only [Den] at hb; subst hb; exact ⟨z, by simp [asBool], hq⟩
  · rename_i c j m k n
    simp only [Den] at hb hp hq; subst hb hp hq
    split at h <;> cases h
    rename_i hk
    refine ⟨if c then .int j m else .int k n, by cases c <;> simp [asBool], ?_⟩
    simp only [Den, kindEq_eq hk]
    cases c <;> simp
  all_goals first
    | (cases h; done)
    | (rename_i c m n
       cases h; simp only [Den] at hb hp hq; subst hb hp hq
       refine ⟨if c then .bool m else .bool n, by cases c <;> simp [asBool], ?_⟩
       simp only [Den]
       cases c <;> simp)

def OptDen (ρ : Rho) : Option AV → Option Value → Prop
  | none, v => v = none
  | some a, v => ∃ b, v = some b ∧ Den ρ a b
theorem bound_sound {m n : Nat} {p : AV} {c : Prop} {u : Value} {code : BoundsCode} (h : bound m p = some (n, c)) (hc : c) (hp : Den ρ p u) : (Instr.sliceBound u m code).run E.P w = .ok n w ∧ n ≤ m := by
  unfold bound at h
  split at h <;> cases h
  simp only [Den] at hp; subst hp
  exact ⟨by simp [Instr.sliceBound, asIntOf, hc], by omega⟩

theorem bound_up {m n cap : Nat} {p : AV} {c : Prop} {u : Value} {code : BoundsCode} (h : bound m p = some (n, c)) (hc : c) (hp : Den ρ p u) (hm : m ≤ cap) : (Instr.sliceBound u cap code).run E.P w = .ok n w ∧ n ≤ m := by
  unfold bound at h
  split at h <;> cases h
  simp only [Den] at hp; subst hp
  have h1 := hc.1
  have h2 : ∀ i : Int, i ≤ m → i ≤ cap := fun i hi => by omega
  exact ⟨by simp [Instr.sliceBound, asIntOf, h1, h2 _ hc.2], by omega⟩
theorem sizeFits_run {t : TypeId} {id : Nat} (h : sizeFits E H t id = true) (hH : RelH B ρ H w) :
    ∃ e l, E.P.underlying t = some (.slice e) ∧ ρ id = some l ∧ (∀ w', (Go.sizeOf e).run E.P w' = .ok l.sz w') := by
  unfold sizeFits at h
  split at h <;> try (cases h; done)
  rename_i e he
  split at h <;> try (cases h; done)
  rename_i n hn
  split at h <;> try (cases h; done)
  rename_i m hm
  have hnm := Nat.eq_of_beq_eq_true h
  have hsl : ∃ l, ρ id = some l ∧ l.sz = m := by
    unfold szObj at hm
    cases ho : H.get id <;> rw [ho] at hm <;> simp only [reduceCtorEq, Option.some.injEq] at hm
    · rename_i own k xs
      obtain ⟨l, hl, hsz, _⟩ := (ho ▸ hH.obj id (by simp [ho]) : ∃ l, ρ id = some l ∧ ObjRel B ρ w l (.tab own k xs))
      exact ⟨l, hl, by omega⟩
    · rename_i sz cs
      obtain ⟨l, hl, _, _, hsz, _⟩ := (ho ▸ hH.obj id (by simp [ho]) : ∃ l, ρ id = some l ∧ ObjRel B ρ w l (.row sz cs))
      exact ⟨l, hl, by omega⟩
    · rename_i k0 P v0
      obtain ⟨l, hl, us, u, ws, _, _, _, hsz, _⟩ := (ho ▸ hH.obj id (by simp [ho]) : ∃ l, ρ id = some l ∧ ObjRel B ρ w l (.mix k0 P v0))
      exact ⟨l, hl, by omega⟩
  obtain ⟨l, hl, hsz⟩ := hsl
  refine ⟨e, l, ?_, hl, fun w' => ?_⟩
  · unfold elemO at he
    split at he <;> cases he
    assumption
  · rw [hsz, ← hnm]; exact sizeOf_run hn w'

theorem addr_add (b o n : Nat) : (⟨b, o, none⟩ : Addr).add n = ⟨b, o + n, none⟩ := by unfold Addr.add; split <;> simp_all

/-- A slice of a slice, as a value. -/
theorem den_cut {id off n l h m cap : Nat} {L : Loc} {a0 : Option Addr} (hl : ρ id = some L) (h1 : l ≤ h) (h2 : h ≤ m) (h3 : m ≤ cap) (h4 : off + cap ≤ L.room) (h5 : 0 < cap → a0 = some ⟨L.blk, L.base + off * L.sz, none⟩) :
    Den ρ (.slice id (off + l) (h - l)) (.slice (if m = l then a0 else a0.map (·.add (l * L.sz))) (h - l) (m - l)) := by
  refine ⟨L, _, _, hl, rfl, by omega, by omega, fun hpos => ?_⟩
  rw [if_neg (by omega), h5 (by omega)]
  simp only [Option.map_some, addr_add, Nat.add_mul, Nat.add_assoc]

theorem slice_sound {t : TypeId} {x v : AV} {lo hi mx : Option AV} {cs : List Prop} {u : Value} {lo' hi' mx' : Option Value} (h : evSlice E H t x lo hi mx = some (v, cs)) (hc : AllP cs) (hx : Den ρ x u) (hH : RelH B ρ H w)
    (hlo : OptDen ρ lo lo') (hhi : OptDen ρ hi hi') (hmx : OptDen ρ mx mx') :
    ∃ v', (Instr.sliceAt t u lo' hi' mx').run E.P w = .ok v' w ∧ Den ρ v v' := by
  unfold evSlice at h
  split at h
  · rename_i id off n
    obtain ⟨l, a, cap, hl, rfl, hn, hroom, haddr⟩ := hx
    cases hf : sizeFits E H t id <;> simp only [hf] at h <;> try (cases h; done)
    obtain ⟨e, l', hu, hl', hsz⟩ := sizeFits_run hf hH
    rw [hl] at hl'; cases hl'
    have hstart : ∀ lo hi mx, (Instr.sliceAt t (.slice a n cap) lo hi mx).run E.P w = ((Instr.sliceBounds true n cap lo hi mx).run E.P w).andThen fun r w' => .ok (.slice (if r.2.2 = r.1 then a else a.map (·.add (r.1 * l.sz))) (r.2.1 - r.1) (r.2.2 - r.1)) w' := by
      intro lo hi mx
      simp only [Instr.sliceAt, Instr.slice, Sem.run_bind, run_underlying hu, Result.andThen_ok]
      generalize (Instr.sliceBounds true n cap lo hi mx).run E.P w = r
      cases r with
      | ok r w' => simp only [Result.andThen_ok, Sem.run_bind, Sem.run_pure, hsz w']
      | halt x w' => simp [Result.andThen]
    split at h
    · cases h
      subst hlo hhi hmx
      rw [hstart]
      refine ⟨.slice a n cap, ?_, l, a, cap, hl, rfl, hn, hroom, haddr⟩
      simp [Instr.sliceBounds]
      intro hne; cases a <;> simp [Addr.add]
    · rename_i lv
      obtain ⟨lv', rfl, hlv⟩ := hlo
      subst hhi hmx
      split at h <;> cases h
      rename_i k c hb
      rw [hstart]
      have hbb := bound_sound (E := E) (w := w) (code := .sliceB) hb hc.1 hlv
      refine ⟨_, ?_, den_cut (n := n) (m := cap) hl hbb.2 hn (Nat.le_refl _) hroom haddr⟩
      simp [Instr.sliceBounds, hbb.1]
    · rename_i hv
      obtain ⟨hv', rfl, hhv⟩ := hhi
      subst hlo hmx
      split at h <;> cases h
      rename_i k c hb
      rw [hstart]
      have hbb := bound_up (E := E) (w := w) (code := .sliceAcap) hb hc.1 hhv hn
      have hk := hbb.2
      refine ⟨_, ?_, by have := den_cut (n := n) (l := 0) (h := k) (m := cap) hl (Nat.zero_le _) (by omega) (Nat.le_refl _) hroom haddr; simpa using this⟩
      simp [Instr.sliceBounds, hbb.1]
    · rename_i lv hv
      obtain ⟨lv', rfl, hlv⟩ := hlo
      obtain ⟨hv', rfl, hhv⟩ := hhi
      subst hmx
      split at h <;> try (cases h; done)
      rename_i k c hb
      split at h <;> cases h
      rename_i j c' hb'
      rw [hstart]
      have hbb := bound_up (E := E) (w := w) (code := .sliceAcap) hb hc.1 hhv hn
      have hk := hbb.2
      have hbb' := bound_sound (E := E) (w := w) (code := .sliceB) hb' hc.2.1 hlv
      refine ⟨_, ?_, den_cut (n := n) (m := cap) hl hbb'.2 (by omega) (Nat.le_refl _) hroom haddr⟩
      simp [Instr.sliceBounds, hbb.1, hbb'.1]
    · cases h
      obtain ⟨hv', rfl, hhv⟩ := hhi
      obtain ⟨mv', rfl, hmv⟩ := hmx
      subst hlo
      simp only [Den] at hhv hmv
      subst hhv hmv
      rw [hstart]
      refine ⟨.slice a 0 0, ?_, a, rfl⟩
      simp [Instr.sliceBounds, Instr.sliceBound, asIntOf]
    · obtain ⟨hv', rfl, hhv⟩ := hhi
      obtain ⟨mv', rfl, hmv⟩ := hmx
      subst hlo
      split at h <;> try (cases h; done)
      rename_i m c hb
      split at h <;> cases h
      rename_i k c' hb'
      rw [hstart]
      have hbb := bound_up (E := E) (w := w) (code := .slice3Acap) hb hc.1 hmv hn
      have hmn := hbb.2
      have hbb' := bound_sound (E := E) (w := w) (code := .slice3B) hb' hc.2.1 hhv
      refine ⟨_, ?_, by have := den_cut (n := n) (l := 0) (h := k) (m := m) hl (Nat.zero_le _) hbb'.2 (by omega) hroom haddr; simpa using this⟩
      simp [Instr.sliceBounds, hbb.1, hbb'.1]
    · cases h
  · cases h

theorem fieldO_run {s : TypeId} {f : Nat} {g : Field} (h : fieldO E.P s f = some g) : ∃ fs, E.P.underlying s = some (.struct fs) ∧ fs[f]? = some g := by
  unfold fieldO at h
  split at h <;> try (cases h; done)
  rename_i fs hu
  split at h <;> cases h
  rename_i hg
  exact ⟨fs, hu, hg⟩
theorem part_sound {P : Program} {t : TypeId} {l : List AV} {vs : Array Value} {off : Nat} {v : AV} (h : partA P t l off = some v) (hd : DenL ρ l vs.toList) : ∃ v', (part t vs off).run P w = .ok v' w ∧ Den ρ v v' := by
  unfold partA at h
  split at h
  · rename_i ha
    split at h <;> try (cases h; done)
    rename_i n hn
    split at h <;> cases h
    rename_i r hr
    have ⟨h1, h2⟩ := denL_cut hd hr
    refine ⟨.agg (vs.extract off (off + n)), by simp [part, isAgg_run ha, sizeOf_run hn], _, rfl, ?_⟩
    rw [Array.toList_extract]
    simpa [List.extract] using h2
  · rename_i ha
    obtain ⟨v', h1, h2⟩ := denL_nth hd h
    refine ⟨v', ?_, h2⟩
    have h3 : vs[off]? = some v' := by simpa using h1
    simp [part, isAgg_run ha, h3]
  · cases h
theorem field_sound {s : TypeId} {f : Nat} {x v : AV} {cs : List Prop} {u : Value} (h : evField E.P s f x = some (v, cs)) (hx : Den ρ x u) : ∃ v', (Instr.field s u f).run E.P w = .ok v' w ∧ Den ρ v v' := by
  unfold evField at h
  split at h <;> try (cases h; done)
  obtain ⟨c, rfl, hd⟩ := hx
  split at h <;> try (cases h; done)
  rename_i g hg
  split at h <;> cases h
  rename_i hv
  obtain ⟨fs, hu, hf⟩ := fieldO_run hg
  obtain ⟨v', h1, h2⟩ := part_sound (w := w) hv hd
  exact ⟨v', by simp [Instr.field, run_underlying hu, hf, asAgg, h1], h2⟩
theorem fieldAddr_sound {s : TypeId} {f : Nat} {x v : AV} {cs : List Prop} {u : Value} (h : evFieldAddr E.P s f x = some (v, cs)) (hx : Den ρ x u) : ∃ v', (Instr.fieldAt s u f).run E.P w = .ok v' w ∧ Den ρ v v' := by
  unfold evFieldAddr at h
  split at h <;> try (cases h; done)
  · rename_i id ix fld
    obtain ⟨l, hl, rfl⟩ := hx
    split at h <;> try (cases h; done)
    rename_i g hg
    split at h <;> cases h
    rename_i n h0 hn
    obtain ⟨fs, hu, hf⟩ := fieldO_run hg
    refine ⟨.pointer (some ⟨l.blk, l.base + ix * l.sz + (fld + g.offset), none⟩), ?_, l, hl, rfl⟩
    have hz : n ≠ 0 := by rintro rfl; exact h0 rfl
    simp [Instr.fieldAt, run_underlying hu, hf, Instr.sureAddr, fieldPlace, sizeOf_run hn, hz, addr_add, Nat.add_assoc]
  · rename_i b fld
    simp only [Den] at hx; subst hx
    split at h <;> try (cases h; done)
    rename_i g hg
    split at h <;> cases h
    rename_i n h0 hn
    obtain ⟨fs, hu, hf⟩ := fieldO_run hg
    refine ⟨.pointer (some ⟨b, fld + g.offset, none⟩), ?_, rfl⟩
    have hz : n ≠ 0 := by rintro rfl; exact h0 rfl
    simp [Instr.fieldAt, run_underlying hu, hf, Instr.sureAddr, fieldPlace, sizeOf_run hn, hz, addr_add]
theorem indexAddr_sound {t : TypeId} {x i v : AV} {cs : List Prop} {u z : Value} (h : evIndexAddr E H t x i = some (v, cs)) (hc : AllP cs) (hx : Den ρ x u) (hi : Den ρ i z) (hH : RelH B ρ H w) :
    ∃ v', (Instr.indexAt t u z).run E.P w = .ok v' w ∧ Den ρ v v' := by
  unfold evIndexAddr at h
  split at h <;> try (cases h; done)
  · rename_i id off n k i
    obtain ⟨l, a, cap, hl, rfl, hn, hroom, haddr⟩ := hx
    simp only [Den] at hi; subst hi
    split at h <;> cases h
    rename_i hf
    obtain ⟨e, l', hu, hl', hsz⟩ := sizeFits_run hf hH
    rw [hl] at hl'; cases hl'
    obtain ⟨⟨h0, h1⟩, _⟩ := hc
    obtain rfl := haddr (by omega)
    refine ⟨.pointer (some ⟨l.blk, l.base + (i.toNat + off) * l.sz + 0, none⟩), ?_, l, hl, rfl⟩
    simp [Instr.indexAt, asIntOf, run_underlying hu, h0, h1, hsz, addr_add, Nat.add_mul, Nat.add_assoc]
  · rename_i id ix fld k i
    obtain ⟨l, hl, rfl⟩ := hx
    simp only [Den] at hi; subst hi
    split at h <;> try (cases h; done)
    rename_i n e hu
    split at h <;> cases h
    rename_i m hm
    obtain ⟨⟨h0, h1⟩, _⟩ := hc
    refine ⟨.pointer (some ⟨l.blk, l.base + ix * l.sz + (fld + i.toNat * m), none⟩), ?_, l, hl, rfl⟩
    simp [Instr.indexAt, asIntOf, run_underlying hu, h0, h1, Instr.sureAddr, sizeOf_run hm, addr_add, Nat.add_assoc]
  · rename_i g fld k i
    simp only [Den] at hx; subst hx
    simp only [Den] at hi; subst hi
    split at h <;> try (cases h; done)
    rename_i n e hu
    split at h <;> cases h
    · rename_i hm
      obtain ⟨⟨h0, h1⟩, _⟩ := hc
      refine ⟨.pointer (some ⟨g, fld + i.toNat, none⟩), ?_, rfl⟩
      simp [Instr.indexAt, asIntOf, run_underlying hu, h0, h1, Instr.sureAddr, sizeOf_run hm, addr_add]
    · rename_i m _ hm
      obtain ⟨⟨h0, h1⟩, _⟩ := hc
      refine ⟨.pointer (some ⟨g, fld + i.toNat * m, none⟩), ?_, rfl⟩
      simp [Instr.indexAt, asIntOf, run_underlying hu, h0, h1, Instr.sureAddr, sizeOf_run hm, addr_add]
theorem index_sound {t : TypeId} {x i v : AV} {cs : List Prop} {u z : Value} (h : evIndex E.P t x i = some (v, cs)) (hc : AllP cs) (hx : Den ρ x u) (hi : Den ρ i z) :
    ∃ v', (Instr.index t u z).run E.P w = .ok v' w ∧ Den ρ v v' := by
  unfold evIndex at h
  split at h <;> try (cases h; done)
  rename_i l k i
  obtain ⟨c, rfl, hd⟩ := hx
  simp only [Den] at hi; subst hi
  split at h <;> try (cases h; done)
  rename_i n e hu
  split at h <;> try (cases h; done)
  rename_i m hm
  split at h <;> cases h
  rename_i hv
  obtain ⟨⟨h0, h1⟩, _⟩ := hc
  obtain ⟨v', h2, h3⟩ := part_sound (w := w) hv hd
  exact ⟨v', by simpa [Instr.index, asIntOf, run_underlying hu, h0, h1, sizeOf_run hm] using h2, h3⟩
theorem convert_sound {s d : TypeId} {x v : AV} {cs : List Prop} {u : Value} (h : evConvert E.P s d x = some (v, cs)) (hx : Den ρ x u) : ∃ v', (convert s d u).run E.P w = .ok v' w ∧ Den ρ v v' := by
  unfold evConvert at h
  split at h <;> try (cases h; done)
  rename_i k n
  simp only [Den] at hx; subst hx
  split at h <;> cases h
  rename_i d1 k' hs hd
  exact ⟨_, by simp [convert, run_underlying hs, run_underlying hd, Conv.intToInt], rfl⟩
theorem len_sound {t : TypeId} {x v : AV} {cs : List Prop} {u : Value} {ts : Array TypeId} {ty : TypeId} (ht : ts[0]? = some t) (h : evLen E.P t x = some (v, cs)) (hx : Den ρ x u) : ∃ v', (Builtin.len_ ts ty #[u]).run E.P w = .ok v' w ∧ Den ρ v v' := by
  unfold evLen at h
  split at h <;> try (cases h; done)
  · cases h
    rename_i e id off n hu
    obtain ⟨l, a, cap, hl, rfl, _⟩ := hx
    exact ⟨_, by simp [Builtin.len_, ht, run_underlying hu, goInt], rfl⟩
  · cases h
    rename_i e hu
    simp only [Den] at hx; subst hx
    exact ⟨_, by simp [Builtin.len_, ht, run_underlying hu, goInt], rfl⟩
  · cases h
    rename_i e hu
    obtain ⟨a, rfl⟩ := hx
    exact ⟨_, by simp [Builtin.len_, ht, run_underlying hu, goInt], rfl⟩
  · cases h
    rename_i e hu
    obtain ⟨a, cap, rfl⟩ := hx
    exact ⟨_, by simp [Builtin.len_, ht, run_underlying hu, goInt], rfl⟩
  · cases h
    rename_i n e hu
    exact ⟨_, by simp [Builtin.len_, ht, run_underlying hu, goInt], rfl⟩
  · cases h
    rename_i k e hu
    simp only [Den] at hx; subst hx
    exact ⟨_, by simp [Builtin.len_, ht, run_underlying hu, goInt], rfl⟩
theorem fold_sound (f : Int → Int → Int) (g : Value → Value → Sem Value) (hg : ∀ k a b w, (g (.int k a) (.int k b)).run E.P w = .ok (.int k (f a b)) w) : ∀ (l : List AV) (k : IntKind) (a : Int) (v : AV) (cs : List Prop) (vs : List Value), evFold f (.int k a) l = some (v, cs) → DenL ρ l vs →
    ∃ v', (vs.foldlM g (.int k a)).run E.P w = .ok v' w ∧ Den ρ v v'
  | [], k, a, v, cs, vs, h, hd => by
    simp only [DenL] at hd; subst hd
    simp only [evFold, Option.some.injEq, Prod.mk.injEq] at h
    obtain ⟨rfl, _⟩ := h
    exact ⟨.int k a, by simp, rfl⟩
  | b :: l, k, a, v, cs, vs, h, hd => by
    obtain ⟨y, vs', rfl, h1, h2⟩ := hd
    cases b <;> simp only [evFold] at h <;> try (cases h; done)
    rename_i j b
    split at h <;> try (cases h; done)
    rename_i hk
    simp only [Den] at h1; subst h1
    rw [← kindEq_eq hk]
    obtain ⟨v', h3, h4⟩ := fold_sound f g hg l k (f a b) v cs vs' h h2
    exact ⟨v', by simp [hg, h3], h4⟩
theorem min_as_if (a b : Int) : min a b = if b < a then b else a := by split <;> omega
theorem max_as_if (a b : Int) : max a b = if b > a then b else a := by split <;> omega
theorem builtin_sound {b : Builtin} {ts : Array TypeId} {l : List AV} {v : AV} {cs : List Prop} {vs : List Value} {ty : TypeId} {cn : Array Bool} (h : evBuiltin E b ts l = some (v, cs)) (hd : DenL ρ l vs) :
    ∃ v', (builtin b ts ty cn vs.toArray).run E.P w = .ok (.value v') w ∧ Den ρ v v' := by
  unfold evBuiltin at h
  split at h <;> try (cases h; done)
  · obtain ⟨x, _, rfl, hx, hn⟩ := hd
    simp only [DenL] at hn; subst hn
    split at h <;> try (cases h; done)
    rename_i t ht
    obtain ⟨v', h1, h2⟩ := len_sound (w := w) (ty := ty) ht h hx
    exact ⟨v', by simp [builtin, h1], h2⟩
  · rename_i k a l
    obtain ⟨x, vs', rfl, hx, hn⟩ := hd
    simp only [Den] at hx; subst hx
    obtain ⟨v', h1, h2⟩ := fold_sound (E := E) (w := w) min Builtin.min2 (fun k a b w => by simp [Builtin.min2, min_as_if]) l k a v cs vs' h hn
    exact ⟨v', by simp [builtin, Builtin.min_, h1], h2⟩
  · rename_i k a l
    obtain ⟨x, vs', rfl, hx, hn⟩ := hd
    simp only [Den] at hx; subst hx
    obtain ⟨v', h1, h2⟩ := fold_sound (E := E) (w := w) max Builtin.max2 (fun k a b w => by simp [Builtin.max2, max_as_if]) l k a v cs vs' h hn
    exact ⟨v', by simp [builtin, Builtin.max_, h1], h2⟩
end
end Go.Proofs.YtnheodgffackoaaDoor.E
