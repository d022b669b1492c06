/- The engine: families: a table of one-cell values, each of which has an object of its own. -/
import Derived.Test.YtnheodgffackoaaDoorEr
namespace Go.Proofs.YtnheodgffackoaaDoor.E
set_option linter.unusedSimpArgs false
set_option linter.unusedVariables false
open Go
def noRef : AObj → Bool
  | .gone => true
  | .tab own _ _ => own
  | .map _ _ _ _ => true
  | _ => false
section
variable {ρ ρ' : Rho} {w w' : World} {B : Nat} {H : Hp}
theorem ObjRel.any {l : Loc} {o : AObj} (hn : noRef o = true) (h : ObjRel B ρ w l o) {B' : Nat} (hB : ∀ b, Foot l o b → B' ≤ b) : ObjRel B' ρ' w l o := by
  cases o <;> try (cases hn; done)
  case gone => trivial
  case tab own k xs =>
    cases own
    · cases hn
    · obtain ⟨h1, h2, h3, h4⟩ := h
      refine ⟨h1, h2, elems_ren h3, fun hr => ?_⟩
      obtain ⟨_, h5⟩ := h4 hr
      exact ⟨hB _ (.inl ⟨⟨rfl, hr⟩, rfl⟩), h5⟩
  case map kk vk c es =>
    obtain ⟨_, h5⟩ := h
    exact ⟨hB _ (.inl ⟨trivial, rfl⟩), h5⟩
theorem noRef_big {o : AObj} (hn : noRef o = true) : isBig o = false := by cases o <;> first | rfl | cases hn
abbrev Fam := List (AObj × AV)
abbrev rho0 : Rho := fun _ => none
/-- Objects and the values that point to them, some of a family. -/
structure FamAt (w : World) (p : Nat → Prop) (xs : Fam) (us : List Value) (ls : List Loc) : Prop where
  lu : us.length = xs.length
  ll : ls.length = xs.length
  obj : ∀ i x l u, p i → xs[i]? = some x → ls[i]? = some l → us[i]? = some u → ObjRel 0 rho0 w l x.1 ∧ Den (upd rho0 0 l) x.2 u ∧ noRef x.1 = true
  apart : ∀ i j x y l m b, p i → p j → i ≠ j → xs[i]? = some x → xs[j]? = some y → ls[i]? = some l → ls[j]? = some m → Foot l x.1 b → Foot m y.1 b → False
def famFoot (p : Nat → Prop) (xs : Fam) (ls : List Loc) (b : Nat) : Prop := ∃ i x l, p i ∧ xs[i]? = some x ∧ ls[i]? = some l ∧ Foot l x.1 b
theorem FamAt.kept {p : Nat → Prop} {xs : Fam} {us : List Value} {ls : List Loc} {X : Nat → Prop} (h : FamAt w p xs us ls) (hk : Kept X w w') (hX : ∀ b, famFoot p xs ls b → ¬ X b) : FamAt w' p xs us ls :=
  ⟨h.lu, h.ll, fun i x l u hp h1 h2 h3 => by
    obtain ⟨a, b, c⟩ := h.obj i x l u hp h1 h2 h3
    exact ⟨a.kept (fun _ _ h => h) hk (fun b hb => hX b ⟨i, x, l, hp, h1, h2, hb⟩) (fun _ _ => Nat.zero_le _), b, c⟩, h.apart⟩
/-- The whole family, its table too. -/
def FQ (xs : Fam) (w : World) (blk base sz room : Nat) : Prop := ∃ us ls, FamAt w (fun _ => True) xs us ls ∧ ObjRel 0 rho0 w ⟨blk, base, 1, room⟩ (.tab true .raw us) ∧ 0 < room ∧ ¬ famFoot (fun _ => True) xs ls blk ∧ ∀ b, sz.testBit b = true ↔ (b = blk ∨ famFoot (fun _ => True) xs ls b)
/-- All but one, whose values lie ahead of, and behind, its. -/
def RQ (k : Nat) (us ws : List Value) (xs : Fam) (w : World) (_ _ sz _ : Nat) : Prop := ∃ u ls, us.length = k ∧ FamAt w (· ≠ k) xs (us ++ u :: ws) ls ∧ ∀ b, sz.testBit b = true ↔ famFoot (· ≠ k) xs ls b
theorem bits_ex (P : Nat → Prop) : ∀ n : Nat, ∃ s : Nat, ∀ b, s.testBit b = true ↔ (b < n ∧ P b)
  | 0 => ⟨0, fun b => by simp⟩
  | n + 1 => by
    obtain ⟨s, hs⟩ := bits_ex P n
    by_cases h : P n
    · refine ⟨s ||| 2 ^ n, fun b => ?_⟩
      rw [Nat.testBit_or, Bool.or_eq_true, hs, Nat.testBit_two_pow, decide_eq_true_iff]
      constructor
      · rintro (⟨h1, h2⟩ | rfl)
        · exact ⟨by omega, h2⟩
        · exact ⟨by omega, h⟩
      · rintro ⟨h1, h2⟩
        by_cases hb : n = b
        · exact .inr hb
        · exact .inl ⟨by omega, h2⟩
    · refine ⟨s, fun b => ?_⟩
      rw [hs]
      constructor
      · rintro ⟨h1, h2⟩; exact ⟨by omega, h2⟩
      · rintro ⟨h1, h2⟩
        have : b ≠ n := by rintro rfl; exact h h2
        exact ⟨by omega, h2⟩
/-- A family is opened at one of its members. -/
theorem RelH.openF (h : RelH B ρ H w) {i j k : Nat} {xs : Fam} {o : AObj} {av : AV} (hi : H.get i = .link j) (hj : H.get j = .big (FQ xs)) (hk : xs[k]? = some (o, av)) :
    ∃ us ws ρ', us.length = k ∧ RelH B ρ' ((((H.set i (.mix k (fun a b => a = us ∧ b = ws) (av.ren fun _ => H.n))).set j .gone).new o).new (.big (RQ k us ws xs))) w ∧ (∀ q l, ρ q = some l → ρ' q = some l) ∧
      ∀ b, Blks ρ' ((((H.set i (.mix k (fun a b => a = us ∧ b = ws) (av.ren fun _ => H.n))).set j .gone).new o).new (.big (RQ k us ws xs))) b → Blks ρ H b := by
  obtain ⟨li, hli, hlink⟩ := h.obj i (by rw [hi]; simp)
  obtain ⟨lj, hlj, hbig⟩ := h.obj j (by rw [hj]; simp)
  rw [hi] at hlink
  rw [hj] at hbig
  obtain ⟨hz, m, hm, e1, e2, e3⟩ := hlink
  rw [hlj] at hm; cases hm
  obtain ⟨hfar, ⟨us0, ls, hF, htab, hroom, hblk, hbits⟩, _⟩ := hbig
  have hklt : k < xs.length := (List.getElem?_eq_some_iff.1 hk).1
  have hij : i ≠ j := by rintro rfl; rw [hi] at hj; cases hj
  obtain ⟨lk, hlk⟩ : ∃ lk, ls[k]? = some lk := ⟨_, List.getElem?_eq_getElem (by rw [hF.ll]; exact hklt)⟩
  obtain ⟨u, hu⟩ : ∃ u, us0[k]? = some u := ⟨_, List.getElem?_eq_getElem (by rw [hF.lu]; exact hklt)⟩
  have hus : us0 = us0.take k ++ u :: us0.drop (k + 1) := by
    have h1 : k < us0.length := by rw [hF.lu]; exact hklt
    have h2 : us0[k] = u := by rw [List.getElem?_eq_getElem h1] at hu; exact Option.some.inj hu
    rw [← h2, List.getElem_cons_drop, List.take_append_drop]
  have hlen : (us0.take k).length = k := by rw [List.length_take]; have := hF.lu; omega
  obtain ⟨ho, hd, hn⟩ := hF.obj k _ lk u trivial hk hlk hu
  simp only at ho hd hn
  have hFk : ∀ b, Foot lk o b → Far lj b := fun b hb => (hbits b).2 (.inr ⟨k, _, lk, trivial, hk, hlk, hb⟩)
  have hFr : ∀ b, famFoot (· ≠ k) xs ls b → Far lj b := fun b ⟨q, x, l, _, a2, a3, a4⟩ => (hbits b).2 (.inr ⟨q, x, l, trivial, a2, a3, a4⟩)
  have hFb : Far lj lj.blk := (hbits _).2 (.inl rfl)
  obtain ⟨sz', hsz⟩ := bits_ex (famFoot (· ≠ k) xs ls) w.heap.size
  have hsz' : ∀ b, sz'.testBit b = true ↔ famFoot (· ≠ k) xs ls b := fun b => (hsz b).trans ⟨And.right, fun hb => ⟨(hfar b (hFr b hb)).2, hb⟩⟩
  have hin : i < H.n := by
    apply Classical.byContradiction; intro hh
    have := (h.fresh i (by omega)).1; rw [hli] at this; cases this
  have hjn : j < H.n := by
    apply Classical.byContradiction; intro hh
    have := (h.fresh j (by omega)).1; rw [hlj] at this; cases this
  refine ⟨us0.take k, us0.drop (k + 1), upd (upd ρ H.n lk) (H.n + 1) ⟨lj.blk, lj.base, sz', lj.room⟩, hlen, ?_⟩
  generalize hH' : ((((H.set i (.mix k (fun a b => a = us0.take k ∧ b = us0.drop (k + 1)) (av.ren fun _ => H.n))).set j .gone).new o).new (.big (RQ k (us0.take k) (us0.drop (k + 1)) xs))) = H'
  have hg : ∀ q, H'.get q = if q = H.n + 1 then .big (RQ k (us0.take k) (us0.drop (k + 1)) xs) else if q = H.n then o else if q = j then .gone else if q = i then .mix k (fun a b => a = us0.take k ∧ b = us0.drop (k + 1)) (av.ren fun _ => H.n) else H.get q := by
    intro q; rw [← hH', get_new, get_new, get_set, get_set]; rfl
  have hn' : H'.n = H.n + 1 + 1 := by rw [← hH']; rfl
  generalize hρ' : upd (upd ρ H.n lk) (H.n + 1) ⟨lj.blk, lj.base, sz', lj.room⟩ = ρ'
  have hr : ∀ q, ρ' q = if q = H.n + 1 then some ⟨lj.blk, lj.base, sz', lj.room⟩ else if q = H.n then some lk else ρ q := by
    intro q; rw [← hρ']; simp only [upd]
  have hmono : ∀ q l, ρ q = some l → ρ' q = some l := fun q l hq => by
    have hlt : q < H.n := by
      apply Classical.byContradiction; intro hh
      have := (h.fresh q (by omega)).1; rw [hq] at this; cases this
    rw [hr, if_neg (by omega), if_neg (by omega)]; exact hq
  -- the objects that are new
  have oi : ObjRel B ρ' w li (.mix k (fun a b => a = us0.take k ∧ b = us0.drop (k + 1)) (av.ren fun _ => H.n)) := by
    obtain ⟨t1, t2, t3, t4⟩ := htab
    refine ⟨us0.take k, u, us0.drop (k + 1), hlen, ⟨rfl, rfl⟩, den_ren (fun q l hq => ?_) hd, hz, ?_, ?_, fun _ => ?_⟩
    · have : q = 0 ∧ l = lk := by
        simp only [upd] at hq
        split at hq
        · rename_i e; exact ⟨e, (Option.some.inj hq).symm⟩
        · cases hq
      rw [hr, if_neg (by omega), if_pos rfl, this.2]
    · rw [← hus, ← e3]; exact t2
    · rw [← hus]
      intro a x ha
      obtain ⟨vs, b1, b2, b3⟩ := t3 a x ha
      refine ⟨vs, enc_ren _ _ b1, b2, fun c v hv => ?_⟩
      rw [← e1, ← e2, hz]; exact b3 c v hv
    · obtain ⟨_, bc, t, b1, b2⟩ := t4 hroom
      refine ⟨by rw [← e1]; exact (hfar _ hFb).1, bc, t, by rw [← e1]; exact b1, ?_⟩
      rw [← e2, ← e3, hz]; exact b2
  have fi : ∀ b, Foot li (.mix k (fun a b => a = us0.take k ∧ b = us0.drop (k + 1)) (av.ren fun _ => H.n)) b → b = lj.blk := fun b hb => by rw [e1]; exact (hb.small rfl).2.symm
  have oo : ObjRel B ρ' w lk o := ho.any hn fun b hb => (hfar b (hFk b hb)).1
  have or_ : ObjRel B ρ' w ⟨lj.blk, lj.base, sz', lj.room⟩ (.big (RQ k (us0.take k) (us0.drop (k + 1)) xs)) := by
    have hF' : FamAt w (· ≠ k) xs (us0.take k ++ u :: us0.drop (k + 1)) ls := by
      rw [← hus]
      exact ⟨hF.lu, hF.ll, fun q x l v _ => hF.obj q x l v trivial, fun q r x y l m b _ _ => hF.apart q r x y l m b trivial trivial⟩
    refine ⟨fun b hb => hfar b (hFr b ((hsz' b).1 hb)), ⟨u, ls, hlen, hF', hsz'⟩, fun w' hk' => ⟨u, ls, hlen, hF'.kept hk' fun b hb hnb => hnb ((hsz' b).2 hb), hsz'⟩⟩
  have fr : ∀ b, Foot ⟨lj.blk, lj.base, sz', lj.room⟩ (.big (RQ k (us0.take k) (us0.drop (k + 1)) xs)) b → famFoot (· ≠ k) xs ls b := fun b hb => by
    rcases hb with hb | hb
    · exact hb.1.elim
    · exact (hsz' b).1 hb.2
  have whole : ∀ q l b, q = H.n + 1 ∨ q = H.n ∨ q = j ∨ q = i → ρ' q = some l → Foot l (H'.get q) b → Far lj b := by
    intro q l b hq hl hb
    rw [hr] at hl
    rw [hg] at hb
    rcases hq with rfl | rfl | rfl | rfl
    · rw [if_pos rfl] at hl hb; cases hl; exact hFr b (fr b hb)
    · rw [if_neg (by omega), if_pos rfl] at hl hb; cases hl; exact hFk b hb
    · rw [if_neg (by omega), if_neg (by omega), if_pos rfl] at hb; exact absurd rfl hb.ne
    · rw [if_neg (by omega), if_neg (by omega)] at hl
      rw [if_neg (by omega), if_neg (by omega), if_neg hij, if_pos rfl] at hb
      rw [hli] at hl; cases hl
      rw [fi b hb]; exact hFb
  refine ⟨h.step (fun q => q = H.n + 1 ∨ q = H.n ∨ q = j ∨ q = i) (X := Far lj) (Kept.refl _ _) (fun b hb => ⟨j, lj, hlj, .inr ⟨by rw [hj]; rfl, hb⟩⟩) hmono (fun q hq => ?_) (fun q l b hq hl hb hf => ?_) (fun q hq hne => ?_) (fun q r lq lr b hq hrr hqr h1 h2 h3 h4 => ?_) (fun q hq => ?_), hmono, fun b hb => ?_⟩
  · have c1 : q ≠ H.n + 1 := fun e => hq (.inl e)
    have c2 : q ≠ H.n := fun e => hq (.inr (.inl e))
    have c3 : q ≠ j := fun e => hq (.inr (.inr (.inl e)))
    have c4 : q ≠ i := fun e => hq (.inr (.inr (.inr e)))
    exact ⟨by rw [hg, if_neg c1, if_neg c2, if_neg c3, if_neg c4], by rw [hr, if_neg c1, if_neg c2]⟩
  · have c3 : q ≠ j := fun e => hq (.inr (.inr (.inl e)))
    exact h.sepF q j l lj b c3 hl hlj hb (.inr ⟨by rw [hj]; rfl, hf⟩)
  · have w1 := fun l b (hl : ρ' q = some l) hb => whole q l b hq hl hb
    rcases hq with rfl | rfl | rfl | rfl
    · have e : ρ' (H.n + 1) = some ⟨lj.blk, lj.base, sz', lj.room⟩ := by rw [hr, if_pos rfl]
      exact ⟨_, e, by rw [hg, if_pos rfl]; exact or_, fun b hb => .inl (w1 _ b e hb)⟩
    · have e : ρ' H.n = some lk := by rw [hr, if_neg (by omega), if_pos rfl]
      exact ⟨_, e, by rw [hg, if_neg (by omega), if_pos rfl]; exact oo, fun b hb => .inl (w1 _ b e hb)⟩
    · rw [hg, if_neg (by omega), if_neg (by omega), if_pos rfl] at hne; exact absurd rfl hne
    · have e : ρ' q = some li := hmono _ _ hli
      exact ⟨_, e, by rw [hg, if_neg (by omega), if_neg (by omega), if_neg hij, if_pos rfl]; exact oi, fun b hb => .inl (w1 _ b e hb)⟩
  · -- apart
    have f1 : ∀ q l, q = H.n + 1 → ρ' q = some l → Foot l (H'.get q) b → famFoot (· ≠ k) xs ls b := by
      rintro q l rfl hl hb
      rw [hr, if_pos rfl] at hl; cases hl
      rw [hg, if_pos rfl] at hb
      exact fr b hb
    have f2 : ∀ q l, q = H.n → ρ' q = some l → Foot l (H'.get q) b → Foot lk o b := by
      rintro q l rfl hl hb
      rw [hr, if_neg (by omega), if_pos rfl] at hl; cases hl
      rw [hg, if_neg (by omega), if_pos rfl] at hb
      exact hb
    have f3 : ∀ q l, q = j → Foot l (H'.get q) b → False := by
      rintro q l rfl hb
      rw [hg, if_neg (by omega), if_neg (by omega), if_pos rfl] at hb
      exact hb.ne rfl
    have f4 : ∀ q l, q = i → ρ' q = some l → Foot l (H'.get q) b → b = lj.blk := by
      rintro q l rfl hl hb
      rw [hmono _ _ hli] at hl; cases hl
      rw [hg, if_neg (by omega), if_neg (by omega), if_neg hij, if_pos rfl] at hb
      exact fi b hb
    have d1 : Foot lk o b → famFoot (· ≠ k) xs ls b → False := fun hb ⟨z, x, l, a1, a2, a3, a4⟩ => hF.apart k z _ x lk l b trivial trivial (Ne.symm a1) hk a2 hlk a3 hb a4
    have d2 : Foot lk o b → b = lj.blk → False := fun hb e => hblk ⟨k, _, lk, trivial, hk, hlk, e ▸ hb⟩
    have d3 : famFoot (· ≠ k) xs ls b → b = lj.blk → False := fun ⟨z, x, l, _, a2, a3, a4⟩ e => hblk ⟨z, x, l, trivial, a2, a3, e ▸ a4⟩
    rcases hq with e | e | e | e <;> rcases hrr with e' | e' | e' | e'
    · exact hqr (e.trans e'.symm)
    · exact d1 (f2 r lr e' h2 h4) (f1 q lq e h1 h3)
    · exact f3 r lr e' h4
    · exact d3 (f1 q lq e h1 h3) (f4 r lr e' h2 h4)
    · exact d1 (f2 q lq e h1 h3) (f1 r lr e' h2 h4)
    · exact hqr (e.trans e'.symm)
    · exact f3 r lr e' h4
    · exact d2 (f2 q lq e h1 h3) (f4 r lr e' h2 h4)
    · exact f3 q lq e h3
    · exact f3 q lq e h3
    · exact f3 q lq e h3
    · exact f3 q lq e h3
    · exact d3 (f1 r lr e' h2 h4) (f4 q lq e h1 h3)
    · exact d2 (f2 r lr e' h2 h4) (f4 q lq e h1 h3)
    · exact f3 r lr e' h4
    · exact hqr (e.trans e'.symm)
  · rw [hn'] at hq
    refine ⟨by rw [hr, if_neg (by omega), if_neg (by omega)]; exact (h.fresh q (by omega)).1, ?_⟩
    rw [hg, if_neg (by omega), if_neg (by omega), if_neg (by omega), if_neg (by omega)]; exact (h.fresh q (by omega)).2
  · obtain ⟨q, l, h1, h2⟩ := hb
    by_cases hq : q = H.n + 1 ∨ q = H.n ∨ q = j ∨ q = i
    · exact ⟨j, lj, hlj, .inr ⟨by rw [hj]; rfl, whole q l b hq h1 h2⟩⟩
    · have c1 : q ≠ H.n + 1 := fun e => hq (.inl e)
      have c2 : q ≠ H.n := fun e => hq (.inr (.inl e))
      have c3 : q ≠ j := fun e => hq (.inr (.inr (.inl e)))
      have c4 : q ≠ i := fun e => hq (.inr (.inr (.inr e)))
      rw [hr, if_neg c1, if_neg c2] at h1
      rw [hg, if_neg c1, if_neg c2, if_neg c3, if_neg c4] at h2
      exact ⟨q, l, h1, h2⟩
theorem foot_link {l : Loc} {j b : Nat} (h : Foot l (.link j) b) : False := h.elim (fun h => h.1) fun h => by cases h.1
theorem foot_gone {l : Loc} {b : Nat} (h : Foot l .gone b) : False := h.ne rfl
/-- .. and closed, the member being what it is now. -/
theorem RelH.closeF (h : RelH B ρ H w) {i j r k : Nat} {xs : Fam} {us ws : List Value} {o : AObj} {av av' : AV} (hi : H.get i = .mix k (fun a b => a = us ∧ b = ws) av') (hj : H.get j = o) (hr : H.get r = .big (RQ k us ws xs)) (hk : k < xs.length) (hn : noRef o = true) (hne : o ≠ .gone)
    (hav : ∀ l u, ρ j = some l → Den ρ av' u → Den (upd rho0 0 l) av u) :
    ∃ ρ', RelH B ρ' ((((H.set i (.link H.n)).set j .gone).set r .gone).new (.big (FQ (xs.set k (o, av))))) w ∧ (∀ q l, ρ q = some l → ρ' q = some l) ∧
      ∀ b, Blks ρ' ((((H.set i (.link H.n)).set j .gone).set r .gone).new (.big (FQ (xs.set k (o, av))))) b → Blks ρ H b := by
  obtain ⟨li, hli, hmix⟩ := h.obj i (by rw [hi]; simp)
  obtain ⟨lj, hlj, ho⟩ := h.obj j (by rw [hj]; exact hne)
  obtain ⟨lr, hlr, hbig⟩ := h.obj r (by rw [hr]; simp)
  rw [hi] at hmix
  rw [hj] at ho
  rw [hr] at hbig
  obtain ⟨us1, u', ws1, _, ⟨rfl, rfl⟩, hd, hz, hlen, hel, hrow⟩ := hmix
  obtain ⟨hfar, ⟨u, ls, hlk, hF, hbits⟩, _⟩ := hbig
  have hroom : 0 < li.room := by simp at hlen; omega
  have hnb := noRef_big hn
  have hij : i ≠ j := by rintro rfl; rw [hi] at hj; subst hj; cases hn
  have hir : i ≠ r := by rintro rfl; rw [hi] at hr; cases hr
  have hjr : j ≠ r := by rintro rfl; rw [hr] at hj; subst hj; cases hn
  have hOi : Foot li (H.get i) li.blk := .inl ⟨by rw [hi]; exact ⟨rfl, hroom⟩, rfl⟩
  have hFj : ∀ b, Foot lj o b → Foot lj (H.get j) b := fun b hb => by rw [hj]; exact hb
  have hFr : ∀ b, Far lr b → Foot lr (H.get r) b := fun b hb => .inr ⟨by rw [hr]; rfl, hb⟩
  have hll : k < ls.length := by rw [hF.ll]; exact hk
  have hlu := hF.lu
  -- the family, whole
  have hxk : (xs.set k (o, av))[k]? = some (o, av) := by simp [hk]
  have hlk' : (ls.set k lj)[k]? = some lj := by simp [hll]
  have huk : (us1 ++ u' :: ws1)[k]? = some u' := by rw [← hlk]; simp
  have hxn : ∀ q, q ≠ k → (xs.set k (o, av))[q]? = xs[q]? := fun q hq => List.getElem?_set_ne (Ne.symm hq)
  have hln : ∀ q, q ≠ k → (ls.set k lj)[q]? = ls[q]? := fun q hq => List.getElem?_set_ne (Ne.symm hq)
  have hun : ∀ q, q ≠ k → (us1 ++ u' :: ws1)[q]? = (us1 ++ u :: ws1)[q]? := fun q hq => by
    simp only [List.getElem?_append]
    split
    · rfl
    · obtain ⟨z, hz⟩ : ∃ z, q - us1.length = z + 1 := ⟨q - us1.length - 1, by omega⟩
      rw [hz]; rfl
  have hff : ∀ b, famFoot (fun _ => True) (xs.set k (o, av)) (ls.set k lj) b ↔ (Foot lj o b ∨ famFoot (· ≠ k) xs ls b) := by
    intro b
    constructor
    · rintro ⟨q, x, l, _, a2, a3, a4⟩
      by_cases hq : q = k
      · subst hq
        rw [hxk] at a2; cases a2
        rw [hlk'] at a3; cases a3
        exact .inl a4
      · rw [hxn q hq] at a2
        rw [hln q hq] at a3
        exact .inr ⟨q, x, l, hq, a2, a3, a4⟩
    · rintro (hb | ⟨q, x, l, hq, a2, a3, a4⟩)
      · exact ⟨k, _, lj, trivial, hxk, hlk', hb⟩
      · exact ⟨q, x, l, trivial, by rw [hxn q hq]; exact a2, by rw [hln q hq]; exact a3, a4⟩
  have hrest : ∀ b, famFoot (· ≠ k) xs ls b → Far lr b := fun b hb => (hbits b).2 hb
  have d1 : ∀ b, Foot lj o b → famFoot (· ≠ k) xs ls b → False := fun b h1 h2 => h.sepF j r lj lr b hjr hlj hlr (hFj b h1) (hFr b (hrest b h2))
  have hF' : FamAt w (fun _ => True) (xs.set k (o, av)) (us1 ++ u' :: ws1) (ls.set k lj) := by
    refine ⟨?_, by rw [List.length_set, List.length_set]; exact hF.ll, fun q x l v _ a2 a3 a4 => ?_, fun p q x y l m b _ _ hpq a1 a2 a3 a4 a5 a6 => ?_⟩
    · rw [List.length_set, ← hlu]; simp
    · by_cases hq : q = k
      · subst hq
        rw [hxk] at a2; cases a2
        rw [hlk'] at a3; cases a3
        rw [huk] at a4; cases a4
        exact ⟨ho.any hn fun _ _ => Nat.zero_le _, hav lj u' hlj hd, hn⟩
      · rw [hxn q hq] at a2
        rw [hln q hq] at a3
        rw [hun q hq] at a4
        exact hF.obj q x l v hq a2 a3 a4
    · by_cases hp : p = k
      · by_cases hq : q = k
        · exact hpq (hp.trans hq.symm)
        · subst hp
          rw [hxk] at a1; cases a1
          rw [hlk'] at a3; cases a3
          rw [hxn q hq] at a2
          rw [hln q hq] at a4
          exact d1 b a5 ⟨q, y, m, hq, a2, a4, a6⟩
      · by_cases hq : q = k
        · subst hq
          rw [hxk] at a2; cases a2
          rw [hlk'] at a4; cases a4
          rw [hxn p hp] at a1
          rw [hln p hp] at a3
          exact d1 b a6 ⟨p, x, l, hp, a1, a3, a5⟩
        · rw [hxn p hp] at a1
          rw [hxn q hq] at a2
          rw [hln p hp] at a3
          rw [hln q hq] at a4
          exact hF.apart p q x y l m b hp hq hpq a1 a2 a3 a4 a5 a6
  have hblk : ¬ famFoot (fun _ => True) (xs.set k (o, av)) (ls.set k lj) li.blk := fun hb => by
    rcases (hff _).1 hb with hb | hb
    · exact h.sepF i j li lj _ hij hli hlj hOi (hFj _ hb)
    · exact h.sepF i r li lr _ hir hli hlr hOi (hFr _ (hrest _ hb))
  have hall : ∀ b, (b = li.blk ∨ famFoot (fun _ => True) (xs.set k (o, av)) (ls.set k lj) b) → Blks ρ H b := fun b hb => by
    rcases hb with rfl | hb
    · exact ⟨i, li, hli, hOi⟩
    · rcases (hff _).1 hb with hb | hb
      · exact ⟨j, lj, hlj, hFj _ hb⟩
      · exact ⟨r, lr, hlr, hFr _ (hrest _ hb)⟩
  have hbnd : ∀ b, Blks ρ H b → B ≤ b ∧ b < w.heap.size := fun b ⟨q, l, h1, h2⟩ => by
    obtain ⟨l', h3, h4⟩ := h.obj q h2.ne
    rw [h1] at h3; cases h3
    exact Foot.blk h4 h2
  obtain ⟨sz', hsz⟩ := bits_ex (fun b => b = li.blk ∨ famFoot (fun _ => True) (xs.set k (o, av)) (ls.set k lj) b) w.heap.size
  have hsz' : ∀ b, sz'.testBit b = true ↔ (b = li.blk ∨ famFoot (fun _ => True) (xs.set k (o, av)) (ls.set k lj) b) := fun b => (hsz b).trans ⟨And.right, fun hb => ⟨(hbnd b (hall b hb)).2, hb⟩⟩
  have lt : ∀ q l, ρ q = some l → q < H.n := fun q l hq => by
    apply Classical.byContradiction; intro hh
    have := (h.fresh q (by omega)).1; rw [hq] at this; cases this
  have hin := lt i _ hli
  have hjn := lt j _ hlj
  have hrn := lt r _ hlr
  refine ⟨upd ρ H.n ⟨li.blk, li.base, sz', li.room⟩, ?_⟩
  have hmono := upd_mono h ⟨li.blk, li.base, sz', li.room⟩
  generalize hH' : ((((H.set i (.link H.n)).set j .gone).set r .gone).new (.big (FQ (xs.set k (o, av))))) = H'
  have hg : ∀ q, H'.get q = if q = H.n then .big (FQ (xs.set k (o, av))) else if q = r then .gone else if q = j then .gone else if q = i then .link H.n else H.get q := by
    intro q; rw [← hH', get_new, get_set, get_set, get_set]; rfl
  have hn' : H'.n = H.n + 1 := by rw [← hH']; rfl
  generalize hρ' : upd ρ H.n ⟨li.blk, li.base, sz', li.room⟩ = ρ' at hmono
  have hr' : ∀ q, ρ' q = if q = H.n then some ⟨li.blk, li.base, sz', li.room⟩ else ρ q := by intro q; rw [← hρ']; simp only [upd]
  have hnew : ρ' H.n = some ⟨li.blk, li.base, sz', li.room⟩ := by rw [hr', if_pos rfl]
  have onew : ObjRel B ρ' w ⟨li.blk, li.base, sz', li.room⟩ (.big (FQ (xs.set k (o, av)))) := by
    have ht : ObjRel 0 rho0 w ⟨li.blk, li.base, 1, li.room⟩ (.tab true .raw (us1 ++ u' :: ws1)) := by
      refine ⟨rfl, hlen, ?_, fun _ => ?_⟩
      · intro a x ha
        obtain ⟨vs, b1, b2, b3⟩ := hel a x ha
        refine ⟨vs, enc_ren _ _ b1, b2, fun c v hv => ?_⟩
        have := b3 c v hv
        rw [hz] at this; exact this
      · obtain ⟨_, bc, t, b1, b2⟩ := hrow hroom
        exact ⟨Nat.zero_le _, bc, t, b1, by rw [hz] at b2; exact b2⟩
    refine ⟨fun b hb => hbnd b (hall b ((hsz' b).1 hb)), ⟨_, _, hF', ht, hroom, hblk, hsz'⟩, fun w' hk' => ⟨_, _, hF'.kept hk' fun b hb hnb => hnb ((hsz' b).2 (.inr hb)), ht.kept (fun _ _ h => h) hk' (fun b hb hnb => ?_) (fun _ _ => Nat.zero_le _), hroom, hblk, hsz'⟩⟩
    obtain ⟨_, hb2⟩ := hb.small rfl
    exact hnb ((hsz' b).2 (.inl hb2.symm))
  have fnew : ∀ b, Foot ⟨li.blk, li.base, sz', li.room⟩ (.big (FQ (xs.set k (o, av)))) b → Blks ρ H b := fun b hb => by
    rcases hb with hb | hb
    · exact hb.1.elim
    · exact hall b ((hsz' b).1 hb.2)
  have none_ : ∀ q l b, (q = r ∨ q = j ∨ q = i) → Foot l (H'.get q) b → False := by
    intro q l b hq hb
    rw [hg] at hb
    rcases hq with rfl | rfl | rfl
    · rw [if_neg (by omega), if_pos rfl] at hb; exact foot_gone hb
    · rw [if_neg (by omega), if_neg hjr, if_pos rfl] at hb; exact foot_gone hb
    · rw [if_neg (by omega), if_neg hir, if_neg hij, if_pos rfl] at hb; exact foot_link hb
  refine ⟨h.step (fun q => q = H.n ∨ q = r ∨ q = j ∨ q = i) (X := fun b => b = li.blk ∨ Foot lj o b ∨ Far lr b) (Kept.refl _ _) (fun b hb => ?_) hmono (fun q hq => ?_) (fun q l b hq hl hb hx => ?_) (fun q hq hne' => ?_) (fun p q lp lq b hp hq hpq h1 h2 h3 h4 => ?_) (fun q hq => ?_), hmono, fun b hb => ?_⟩
  · rcases hb with rfl | hb | hb
    · exact ⟨i, li, hli, hOi⟩
    · exact ⟨j, lj, hlj, hFj _ hb⟩
    · exact ⟨r, lr, hlr, hFr _ hb⟩
  · have c1 : q ≠ H.n := fun e => hq (.inl e)
    have c2 : q ≠ r := fun e => hq (.inr (.inl e))
    have c3 : q ≠ j := fun e => hq (.inr (.inr (.inl e)))
    have c4 : q ≠ i := fun e => hq (.inr (.inr (.inr e)))
    exact ⟨by rw [hg, if_neg c1, if_neg c2, if_neg c3, if_neg c4], by rw [hr', if_neg c1]⟩
  · have c2 : q ≠ r := fun e => hq (.inr (.inl e))
    have c3 : q ≠ j := fun e => hq (.inr (.inr (.inl e)))
    have c4 : q ≠ i := fun e => hq (.inr (.inr (.inr e)))
    rcases hx with rfl | hx | hx
    · exact h.sepF q i l li _ c4 hl hli hb hOi
    · exact h.sepF q j l lj b c3 hl hlj hb (hFj _ hx)
    · exact h.sepF q r l lr b c2 hl hlr hb (hFr _ hx)
  · rcases hq with rfl | rfl | rfl | rfl
    · refine ⟨_, hnew, by rw [hg, if_pos rfl]; exact onew, fun b hb => .inl ?_⟩
      rw [hg, if_pos rfl] at hb
      rcases hb with hb | hb
      · exact hb.1.elim
      · rcases (hsz' b).1 hb.2 with hb | hb
        · exact .inl hb
        · rcases (hff _).1 hb with hb | hb
          · exact .inr (.inl hb)
          · exact .inr (.inr (hrest _ hb))
    · exact absurd (by rw [hg, if_neg (by omega), if_pos rfl]) hne'
    · exact absurd (by rw [hg, if_neg (by omega), if_neg hjr, if_pos rfl]) hne'
    · refine ⟨li, hmono _ _ hli, ?_, fun b hb => (none_ _ _ b (.inr (.inr rfl)) hb).elim⟩
      rw [hg, if_neg (by omega), if_neg hir, if_neg hij, if_pos rfl]
      exact ⟨hz, _, hnew, rfl, rfl, rfl⟩
  · rcases hp with hp | hp
    · rcases hq with hq | hq
      · exact hpq (hp.trans hq.symm)
      · exact none_ q lq b hq h4
    · exact none_ p lp b hp h3
  · rw [hn'] at hq
    refine ⟨by rw [hr', if_neg (by omega)]; exact (h.fresh q (by omega)).1, ?_⟩
    rw [hg, if_neg (by omega), if_neg (by omega), if_neg (by omega), if_neg (by omega)]; exact (h.fresh q (by omega)).2
  · obtain ⟨q, l, h1, h2⟩ := hb
    by_cases hq : q = H.n
    · subst hq
      rw [hnew] at h1; cases h1
      rw [hg, if_pos rfl] at h2
      exact fnew b h2
    · by_cases hq2 : q = r ∨ q = j ∨ q = i
      · exact (none_ q l b hq2 h2).elim
      · rw [hr', if_neg hq] at h1
        have c2 : q ≠ r := fun e => hq2 (.inl e)
        have c3 : q ≠ j := fun e => hq2 (.inr (.inl e))
        have c4 : q ≠ i := fun e => hq2 (.inr (.inr e))
        rw [hg, if_neg hq, if_neg c2, if_neg c3, if_neg c4] at h2
        exact ⟨q, l, h1, h2⟩
end
/-- A contract over other words for what lies there. -/
theorem Tri.ghost {α : Type} {E : Env} {f : FuncId} {args : List AV} {os os' : List AObj} {v : AV} {os2 os2' : α → List AObj} {v2 : α → AV} (en : ∀ xs w, (callFunc f xs).run E.P w = .ok (.enter f xs) w)
    (pre : ∀ B ρ w, RelH B ρ (hp os) w → ∃ x ρ2, RelH B ρ2 (hp (os2 x)) w ∧ (∀ q l, ρ q = some l → ρ2 q = some l) ∧ ∀ b, Blks ρ2 (hp (os2 x)) b → Blks ρ (hp os) b)
    (hl : ∀ x, os.length ≤ (os2 x).length) (T : ∀ x, Tri E f args (os2 x) (v2 x) (os2' x))
    (post : ∀ x B ρ w, RelH B ρ (hp (os2' x)) w → ∃ ρ', RelH B ρ' (hp os') w ∧ (∀ q l, ρ q = some l → ρ' q = some l) ∧ (∀ b, Blks ρ' (hp os') b → Blks ρ (hp (os2' x)) b) ∧ ∀ u, Den ρ (v2 x) u → Den ρ' v u) : Tri E f args os v os' := by
  refine ⟨en, fun B ρ w vs hH hg hd => ?_⟩
  obtain ⟨x, ρ2, h1, h2, h3⟩ := pre B ρ w hH
  refine ((T x).run B ρ2 w vs h1 hg (DenL.mono h2 hd)).mono fun e w' hp' => ?_
  obtain ⟨ρ', u, rfl, hv, hr, hk, hb, hs⟩ := hp'
  obtain ⟨ρ3, q1, q2, q3, q4⟩ := post x B ρ' w' hr
  exact ⟨ρ3, u, rfl, q4 u hv, q1, hk.mono h3, fun b hb' => (hb b (q3 b hb')).imp (h3 b) (fun h => h), fun i l hi hl' => q2 i l (hs i l (Nat.lt_of_lt_of_le hi (hl x)) (h2 i l hl'))⟩
def sameObjs (H : Hp) (i : Nat) : List AObj → Prop
  | [] => H.n = i
  | o :: os => H.get i = o ∧ sameObjs H (Nat.succ i) os
theorem sameObjs_get {H : Hp} : ∀ {os : List AObj} {i : Nat}, sameObjs H i os → H.n = i + os.length ∧ ∀ q o, os[q]? = some o → H.get (i + q) = o
  | [], i, h => ⟨h, fun q o hq => by simp at hq⟩
  | o :: os, i, h => by
    obtain ⟨h1, h2⟩ := sameObjs_get h.2
    refine ⟨by rw [h1]; simp; omega, fun q o' hq => ?_⟩
    cases q with
    | zero => cases hq; exact h.1
    | succ q => have := h2 q o' hq; rwa [show i.succ + q = i + (q + 1) by omega] at this
/-- A contract, in a greater heap: what that comes to. -/
def frameYes (args argsO : List AV) (os os' : List AObj) (v : AV) (OS OS' : List AObj) (V : AV) : Prop := match uni (hp OS) [] args argsO os with
  | none => False
  | some (S, cs) => match and (distinct (allIds S)) (belowN (hp OS).n (allIds S)) with
    | false => False
    | true => match Nat.ble (len os) (len os') with
      | false => False
      | true => match rn (extS S (hp OS).n 0 os') with
        | r => v.ren r = V ∧ sameObjs (putAll r S 0 (hp OS) os') 0 OS' ∧ AllP cs
theorem Tri.frameE {E : Env} {f : FuncId} {args argsO : List AV} {os os' OS OS' : List AObj} {v V : AV} (T : Tri E f args os v os') (h : frameYes args argsO os os' v OS OS' V) : Tri E f argsO OS V OS' := by
  unfold frameYes at h
  split at h <;> try (exact h.elim)
  rename_i S cs hu
  split at h <;> try (exact h.elim)
  rename_i hd
  split at h <;> try (exact h.elim)
  rename_i hle
  obtain ⟨rfl, hs, hc⟩ := h
  rw [Bool.and_eq_true] at hd
  have hle := Nat.le_of_ble_eq_true hle
  rw [len_eq, len_eq] at hle
  obtain ⟨hn, hget⟩ := sameObjs_get hs
  refine ⟨T.enters, fun B ρ w vs hH hg hdv => ?_⟩
  have hU := uni_sound hu hc (fun _ _ h => by simp [lookO] at h) ρ
  refine (T.run B (rho S ρ os) w vs (hU.rel hH) hg (hU.den vs hdv)).mono fun e w' hp' => ?_
  obtain ⟨u, ρ2, rfl, hL⟩ := frame hU (distinct_nodup hd.1) hle hH (fun j i hj => belowN_spec hd.2 i (mem_allIds hj)) hp'
  generalize putAll (rn (extS S (hp OS).n 0 os')) S 0 (hp OS) os' = H at *
  rw [Nat.zero_add] at hn
  have hg2 : ∀ i, (hp OS').get i = H.get i := by
    intro i
    rw [hp_get]
    by_cases hi : i < OS'.length
    · have := hget i OS'[i] (by simp [hi])
      rw [Nat.zero_add] at this
      rw [this]; simp [List.getD, hi]
    · rw [(hL.rel.fresh i (by omega)).2]; simp [List.getD, show OS'.length ≤ i by omega]
  exact ⟨ρ2, u, rfl, hL.den, hL.rel.ext hg2 (by rw [hp_n, hn]), hL.kept, fun b hb => hL.own b (Blks.ext hg2 hb), fun i l _ hl => hL.mono i l hl⟩
/-- The heap of a row, where a member is set, or comes behind. -/
theorem hp_eq {H : Hp} {os : List AObj} (hn : H.n = os.length) (hg : ∀ i, i < os.length → H.get i = os.getD i .gone) {B : Nat} {ρ : Rho} {w : World} (h : RelH B ρ H w) : RelH B ρ (hp os) w ∧ ∀ b, Blks ρ (hp os) b → Blks ρ H b := by
  have e : ∀ i, (hp os).get i = H.get i := by
    intro i
    by_cases hi : i < os.length
    · rw [hp_get, hg i hi]
    · rw [(h.fresh i (by omega)).2, hp_get]; simp [List.getD, show os.length ≤ i by omega]
  exact ⟨h.ext e (by rw [hp_n, hn]), fun b hb => Blks.ext e hb⟩
theorem den_slice0 {ρ : Rho} {j m : Nat} {l : Loc} {u : Value} (hl : ρ j = some l) (h : Den ρ (.slice j 0 m) u) : Den (upd rho0 0 l) (.slice 0 0 m) u := by
  obtain ⟨l', a, cap, h1, h2⟩ := h
  rw [hl] at h1; cases h1
  exact ⟨l, a, cap, by simp [upd], h2⟩
theorem den_map0 {ρ : Rho} {j : Nat} {l : Loc} {u : Value} (hl : ρ j = some l) (h : Den ρ (.map j) u) : Den (upd rho0 0 l) (.map 0) u := by
  obtain ⟨l', h1, h2⟩ := h
  rw [hl] at h1; cases h1
  exact ⟨l, by simp [upd], h2⟩
end Go.Proofs.YtnheodgffackoaaDoor.E
