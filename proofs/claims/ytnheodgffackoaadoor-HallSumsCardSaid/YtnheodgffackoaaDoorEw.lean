/- The engine: families that grow. -/
import Derived.Test.YtnheodgffackoaaDoorEs
namespace Go.Proofs.YtnheodgffackoaaDoor.E
set_option linter.unusedSimpArgs false
set_option linter.unusedVariables false
open Go
/-- A family without its table. -/
def GQ (us : List Value) (xs : Fam) (w : World) (_ _ sz _ : Nat) : Prop := ∃ ls, FamAt w (fun _ => True) xs us ls ∧ ∀ b, sz.testBit b = true ↔ famFoot (fun _ => True) xs ls b
section
variable {ρ ρ' : Rho} {w w' : World} {B : Nat} {H : Hp}
theorem RelH.lt (h : RelH B ρ H w) {q : Nat} {l : Loc} (hq : ρ q = some l) : q < H.n := by
  apply Classical.byContradiction; intro hh
  have := (h.fresh q (by omega)).1; rw [hq] at this; cases this
/-- A family that owns nothing. -/
theorem RelH.emptyG (h : RelH B ρ H w) {us : List Value} {xs : Fam} {ls : List Loc} (hF : FamAt w (fun _ => True) xs us ls) (he : ∀ b, ¬ famFoot (fun _ => True) xs ls b) :
    RelH B (upd ρ H.n ⟨0, 0, 0, 0⟩) (H.new (.big (GQ us xs))) w ∧ ∀ b, Blks (upd ρ H.n ⟨0, 0, 0, 0⟩) (H.new (.big (GQ us xs))) b → Blks ρ H b := by
  have hbit : ∀ b, (0 : Nat).testBit b = true ↔ famFoot (fun _ => True) xs ls b := fun b => by
    rw [Nat.zero_testBit]; exact ⟨fun h => (by cases h), fun h => absurd h (he b)⟩
  have hno : ∀ b, ¬ Foot ⟨0, 0, 0, 0⟩ (.big (GQ us xs)) b := fun b hb => by
    rcases hb with hb | hb
    · exact hb.1.elim
    · exact he b ((hbit b).1 hb.2)
  have ho : ObjRel B (upd ρ H.n ⟨0, 0, 0, 0⟩) w ⟨0, 0, 0, 0⟩ (.big (GQ us xs)) :=
    ⟨fun b hb => absurd ((hbit b).1 hb) (he b), ⟨ls, hF, hbit⟩, fun w' hk => ⟨ls, hF.kept hk fun b hb => absurd hb (he b), hbit⟩⟩
  refine ⟨h.step (· = H.n) (X := fun _ => False) (Kept.refl _ _) (fun _ hb => hb.elim) (upd_mono h _) (fun i hi => ⟨by rw [get_new, if_neg hi], by simp [upd, hi]⟩) (fun _ _ _ _ _ _ hb => hb) ?_ ?_ ?_, ?_⟩
  · rintro i rfl _
    exact ⟨_, upd_self .., by rw [get_new, if_pos rfl]; exact ho, fun b hb => by rw [get_new, if_pos rfl] at hb; exact absurd hb (hno b)⟩
  · rintro i j li lj b rfl rfl hij; exact absurd rfl hij
  · intro i hi
    have hi : H.n + 1 ≤ i := hi
    have hne : i ≠ H.n := by omega
    rw [get_new, if_neg hne]
    simp only [upd, if_neg hne]
    exact h.fresh i (by omega)
  · rintro b ⟨q, l, h1, h2⟩
    by_cases hq : q = H.n
    · subst hq
      rw [upd_self] at h1; cases h1
      rw [get_new, if_pos rfl] at h2; exact absurd h2 (hno b)
    · simp only [upd, if_neg hq] at h1
      rw [get_new, if_neg hq] at h2
      exact ⟨q, l, h1, h2⟩
/-- What lies where some objects lay, is a new one. -/
theorem RelH.merge (h : RelH B ρ H w) (D : Nat → Prop) [DecidablePred D] {H' : Hp} {o : AObj} {ln : Loc} (hn' : H'.n = H.n + 1) (hg : ∀ q, q ≠ H.n → H'.get q = if D q then .gone else H.get q) (hnew : H'.get H.n = o) (hD : ∀ q, D q → q < H.n) (ho : ObjRel B (upd ρ H.n ln) w ln o) (hsub : ∀ b, Foot ln o b → ∃ q l, D q ∧ ρ q = some l ∧ Foot l (H.get q) b) :
    RelH B (upd ρ H.n ln) H' w ∧ (∀ q l, ρ q = some l → upd ρ H.n ln q = some l) ∧ ∀ b, Blks (upd ρ H.n ln) H' b → Blks ρ H b := by
  have hmono := upd_mono h ln
  refine ⟨h.step (fun q => q = H.n ∨ D q) (X := fun b => ∃ q l, D q ∧ ρ q = some l ∧ Foot l (H.get q) b) (Kept.refl _ _) (fun b ⟨q, l, _, h1, h2⟩ => ⟨q, l, h1, h2⟩) hmono ?_ ?_ ?_ ?_ ?_, hmono, ?_⟩
  · intro q hq
    have c1 : q ≠ H.n := fun e => hq (.inl e)
    exact ⟨by rw [hg q c1, if_neg fun e => hq (.inr e)], by simp [upd, c1]⟩
  · rintro q l b hq hl hb ⟨r, l', hr, h1, h2⟩
    exact h.sepF q r l l' b (fun e => hq (.inr (e ▸ hr))) hl h1 hb h2
  · intro q hq hne
    rcases hq with rfl | hq
    · refine ⟨ln, upd_self .., by rw [hnew]; exact ho, fun b hb => .inl (hsub b ?_)⟩
      rw [hnew] at hb; exact hb
    · exact absurd (by rw [hg q (by have := hD q hq; omega), if_pos hq]) hne
  · intro p q lp lq b hp hq hpq h1 h2 h3 h4
    have gone_ : ∀ q l, D q → Foot l (H'.get q) b → False := fun q l hq hb => by
      rw [hg q (by have := hD q hq; omega), if_pos hq] at hb; exact hb.ne rfl
    rcases hp with hp | hp
    · rcases hq with hq | hq
      · exact hpq (hp.trans hq.symm)
      · exact gone_ q lq hq h4
    · exact gone_ p lp hp h3
  · intro q hq
    rw [hn'] at hq
    have c1 : q ≠ H.n := by omega
    refine ⟨by simp only [upd, if_neg c1]; exact (h.fresh q (by omega)).1, ?_⟩
    rw [hg q c1]
    split
    · rfl
    · exact (h.fresh q (by omega)).2
  · rintro b ⟨q, l, h1, h2⟩
    by_cases hq : q = H.n
    · subst hq
      rw [upd_self] at h1; cases h1
      rw [hnew] at h2
      obtain ⟨r, l', _, h3, h4⟩ := hsub b h2
      exact ⟨r, l', h3, h4⟩
    · simp only [upd, if_neg hq] at h1
      rw [hg q hq] at h2
      split at h2
      · exact absurd rfl h2.ne
      · exact ⟨q, l, h1, h2⟩
/-- One member more. -/
theorem RelH.absorbG (h : RelH B ρ H w) {j r : Nat} {us : List Value} {u : Value} {xs : Fam} {o : AObj} {av : AV} {lj : Loc} (hlj : ρ j = some lj) (hj : H.get j = o) (hr : H.get r = .big (GQ us xs)) (hn : noRef o = true) (hne : o ≠ .gone) (hav : Den (upd rho0 0 lj) av u) :
    ∃ ρ', RelH B ρ' (((H.set j .gone).set r .gone).new (.big (GQ (us ++ [u]) (xs ++ [(o, av)])))) w ∧ (∀ q l, ρ q = some l → ρ' q = some l) ∧ ∀ b, Blks ρ' (((H.set j .gone).set r .gone).new (.big (GQ (us ++ [u]) (xs ++ [(o, av)])))) b → Blks ρ H b := by
  obtain ⟨lj', hlj', ho⟩ := h.obj j (by rw [hj]; exact hne)
  rw [hlj] at hlj'; cases hlj'
  obtain ⟨lr, hlr, hbig⟩ := h.obj r (by rw [hr]; simp)
  rw [hj] at ho
  rw [hr] at hbig
  obtain ⟨hfar, ⟨ls, hF, hbits⟩, _⟩ := hbig
  have hjr : j ≠ r := by rintro rfl; rw [hr] at hj; subst hj; cases hn
  have hFj : ∀ b, Foot lj o b → Foot lj (H.get j) b := fun b hb => by rw [hj]; exact hb
  have hFr : ∀ b, Far lr b → Foot lr (H.get r) b := fun b hb => .inr ⟨by rw [hr]; rfl, hb⟩
  have hlu := hF.lu
  have hll := hF.ll
  have get_app : ∀ {β : Type} (l : List β) (z : β) (i : Nat) (v : β), (l ++ [z])[i]? = some v → (i < l.length ∧ l[i]? = some v) ∨ (i = l.length ∧ v = z) := by
    intro β l z i v hv
    rw [List.getElem?_append] at hv
    split at hv
    · rename_i hlt; exact .inl ⟨hlt, hv⟩
    · rename_i hge
      right
      cases hq : i - l.length with
      | zero => rw [hq] at hv; exact ⟨by omega, (Option.some.inj hv).symm⟩
      | succ q => rw [hq] at hv; simp at hv
  have hff : ∀ b, famFoot (fun _ => True) (xs ++ [(o, av)]) (ls ++ [lj]) b ↔ (Foot lj o b ∨ famFoot (fun _ => True) xs ls b) := by
    intro b
    constructor
    · rintro ⟨q, x, l, _, a2, a3, a4⟩
      rcases get_app _ _ _ _ a2 with ⟨c1, c2⟩ | ⟨c1, rfl⟩
      · rcases get_app _ _ _ _ a3 with ⟨d1, d2⟩ | ⟨d1, _⟩
        · exact .inr ⟨q, x, l, trivial, c2, d2, a4⟩
        · omega
      · rcases get_app _ _ _ _ a3 with ⟨d1, _⟩ | ⟨_, rfl⟩
        · omega
        · exact .inl a4
    · rintro (hb | ⟨q, x, l, _, a2, a3, a4⟩)
      · exact ⟨xs.length, (o, av), lj, trivial, by simp, by rw [← hll]; simp, hb⟩
      · have c1 := (List.getElem?_eq_some_iff.1 a2).1
        have c2 := (List.getElem?_eq_some_iff.1 a3).1
        exact ⟨q, x, l, trivial, by rw [List.getElem?_append_left c1]; exact a2, by rw [List.getElem?_append_left c2]; exact a3, a4⟩
  have d1 : ∀ b, Foot lj o b → famFoot (fun _ => True) xs ls b → False := fun b h1 h2 => h.sepF j r lj lr b hjr hlj hlr (hFj b h1) (hFr b ((hbits b).2 h2))
  have hF' : FamAt w (fun _ => True) (xs ++ [(o, av)]) (us ++ [u]) (ls ++ [lj]) := by
    refine ⟨by simp [hlu], by simp [hll], fun q x l v _ a2 a3 a4 => ?_, fun p q x y l m b _ _ hpq a1 a2 a3 a4 a5 a6 => ?_⟩
    · rcases get_app _ _ _ _ a2 with ⟨c1, c2⟩ | ⟨c1, rfl⟩
      · rcases get_app _ _ _ _ a3 with ⟨e1, e2⟩ | ⟨e1, _⟩
        · rcases get_app _ _ _ _ a4 with ⟨f1, f2⟩ | ⟨f1, _⟩
          · exact hF.obj q x l v trivial c2 e2 f2
          · omega
        · omega
      · rcases get_app _ _ _ _ a3 with ⟨e1, _⟩ | ⟨_, rfl⟩
        · omega
        · rcases get_app _ _ _ _ a4 with ⟨f1, _⟩ | ⟨_, rfl⟩
          · omega
          · exact ⟨ho.any hn fun _ _ => Nat.zero_le _, hav, hn⟩
    · rcases get_app _ _ _ _ a1 with ⟨c1, c2⟩ | ⟨c1, rfl⟩ <;> rcases get_app _ _ _ _ a2 with ⟨e1, e2⟩ | ⟨e1, rfl⟩
      · rcases get_app _ _ _ _ a3 with ⟨f1, f2⟩ | ⟨f1, _⟩
        · rcases get_app _ _ _ _ a4 with ⟨g1, g2⟩ | ⟨g1, _⟩
          · exact hF.apart p q x y l m b trivial trivial hpq c2 e2 f2 g2 a5 a6
          · omega
        · omega
      · rcases get_app _ _ _ _ a3 with ⟨f1, f2⟩ | ⟨f1, _⟩
        · rcases get_app _ _ _ _ a4 with ⟨g1, _⟩ | ⟨_, rfl⟩
          · omega
          · exact d1 b a6 ⟨p, x, l, trivial, c2, f2, a5⟩
        · omega
      · rcases get_app _ _ _ _ a4 with ⟨f1, f2⟩ | ⟨f1, _⟩
        · rcases get_app _ _ _ _ a3 with ⟨g1, _⟩ | ⟨_, rfl⟩
          · omega
          · exact d1 b a5 ⟨q, y, m, trivial, e2, f2, a6⟩
        · omega
      · omega
  obtain ⟨sz', hsz⟩ := bits_ex (famFoot (fun _ => True) (xs ++ [(o, av)]) (ls ++ [lj])) w.heap.size
  have hall : ∀ b, famFoot (fun _ => True) (xs ++ [(o, av)]) (ls ++ [lj]) b → ∃ q l, (q = j ∨ q = r) ∧ ρ q = some l ∧ Foot l (H.get q) b := fun b hb => by
    rcases (hff b).1 hb with hb | hb
    · exact ⟨j, lj, .inl rfl, hlj, hFj b hb⟩
    · exact ⟨r, lr, .inr rfl, hlr, hFr b ((hbits b).2 hb)⟩
  have hbnd : ∀ b, famFoot (fun _ => True) (xs ++ [(o, av)]) (ls ++ [lj]) b → B ≤ b ∧ b < w.heap.size := fun b hb => by
    obtain ⟨q, l, _, h1, h2⟩ := hall b hb
    obtain ⟨l', h3, h4⟩ := h.obj q h2.ne
    rw [h1] at h3; cases h3
    exact Foot.blk h4 h2
  have hsz' : ∀ b, sz'.testBit b = true ↔ famFoot (fun _ => True) (xs ++ [(o, av)]) (ls ++ [lj]) b := fun b => (hsz b).trans ⟨And.right, fun hb => ⟨(hbnd b hb).2, hb⟩⟩
  have hlt1 := h.lt hlj
  have hlt2 := h.lt hlr
  refine ⟨upd ρ H.n ⟨0, 0, sz', 0⟩, h.merge (fun q => q = j ∨ q = r) (o := .big (GQ (us ++ [u]) (xs ++ [(o, av)]))) rfl (fun q hq => ?_) ?_ (fun q hq => ?_) ⟨fun b hb => hbnd b ((hsz' b).1 hb), ⟨_, hF', hsz'⟩, fun w' hk => ⟨_, hF'.kept hk fun b hb hnb => hnb ((hsz' b).2 hb), hsz'⟩⟩ fun b hb => ?_⟩
  · rw [get_new, get_set, get_set]
    show (if q = H.n then _ else _) = _
    rw [if_neg hq]
    by_cases h1 : q = r
    · rw [if_pos h1, if_pos (.inr h1)]
    · rw [if_neg h1]
      by_cases h2 : q = j
      · rw [if_pos h2, if_pos (.inl h2)]
      · rw [if_neg h2, if_neg fun hh => hh.elim h2 h1]
  · rw [get_new]; exact if_pos rfl
  · rcases hq with rfl | rfl <;> assumption
  · rcases hb with hb | hb
    · exact hb.1.elim
    · exact hall b ((hsz' b).1 hb.2)
theorem RelH.setLink (h : RelH B ρ H w) {i m : Nat} {li : Loc} (hi : ρ i = some li) (hl : ObjRel B ρ w li (.link m)) : RelH B ρ (H.set i (.link m)) w ∧ ∀ b, Blks ρ (H.set i (.link m)) b → Blks ρ H b := by
  have hlt := h.lt hi
  refine ⟨h.weak rfl (fun j hj => ?_) fun j hj => ?_, fun b hb => Blks.weak (fun j l q h1 h2 => ?_) hb⟩
  · rw [get_set] at hj ⊢
    by_cases e : j = i
    · subst e; rw [if_pos rfl]; exact ⟨li, hi, hl, fun q hq => (foot_link hq).elim⟩
    · rw [if_neg e] at hj ⊢
      obtain ⟨l, h1, h2⟩ := h.obj j hj
      exact ⟨l, h1, h2, fun _ h => h⟩
  · rw [get_set, if_neg (by omega)]; exact (h.fresh j hj).2
  · rw [get_set] at h2
    by_cases e : j = i
    · subst e; rw [if_pos rfl] at h2; exact (foot_link h2).elim
    · rw [if_neg e] at h2; exact h2
/-- The table, and its family. -/
theorem RelH.wrapG (h : RelH B ρ H w) {i r : Nat} {us : List Value} {xs : Fam} (hi : H.get i = .tab true .raw us) (hr : H.get r = .big (GQ us xs)) (h0 : 0 < us.length) :
    ∃ ρ', RelH B ρ' ((((H.set i .gone).set r .gone).new (.big (FQ xs))).set i (.link H.n)) w ∧ (∀ q l, ρ q = some l → ρ' q = some l) ∧ ∀ b, Blks ρ' ((((H.set i .gone).set r .gone).new (.big (FQ xs))).set i (.link H.n)) b → Blks ρ H b := by
  obtain ⟨li, hli, hoi⟩ := h.obj i (by rw [hi]; simp)
  obtain ⟨lr, hlr, hbig⟩ := h.obj r (by rw [hr]; simp)
  rw [hi] at hoi
  rw [hr] at hbig
  obtain ⟨hz, hlen, hel, hrow⟩ := hoi
  obtain ⟨hfar, ⟨ls, hF, hbits⟩, _⟩ := hbig
  have hroom : 0 < li.room := by omega
  have hz1 : li.sz = 1 := hz
  have hir : i ≠ r := by rintro rfl; rw [hi] at hr; cases hr
  have hOi : Foot li (H.get i) li.blk := .inl ⟨by rw [hi]; exact ⟨rfl, hroom⟩, rfl⟩
  have hFr : ∀ b, Far lr b → Foot lr (H.get r) b := fun b hb => .inr ⟨by rw [hr]; rfl, hb⟩
  have hblk : ¬ famFoot (fun _ => True) xs ls li.blk := fun hb => h.sepF i r li lr _ hir hli hlr hOi (hFr _ ((hbits _).2 hb))
  have hall : ∀ b, (b = li.blk ∨ famFoot (fun _ => True) xs ls b) → ∃ q l, (q = i ∨ q = r) ∧ ρ q = some l ∧ Foot l (H.get q) b := fun b hb => by
    rcases hb with rfl | hb
    · exact ⟨i, li, .inl rfl, hli, hOi⟩
    · exact ⟨r, lr, .inr rfl, hlr, hFr b ((hbits b).2 hb)⟩
  have hbnd : ∀ b, (b = li.blk ∨ famFoot (fun _ => True) xs ls b) → B ≤ b ∧ b < w.heap.size := fun b hb => by
    obtain ⟨q, l, _, h1, h2⟩ := hall b hb
    obtain ⟨l', h3, h4⟩ := h.obj q h2.ne
    rw [h1] at h3; cases h3
    exact Foot.blk h4 h2
  obtain ⟨sz', hsz⟩ := bits_ex (fun b => b = li.blk ∨ famFoot (fun _ => True) xs ls b) w.heap.size
  have hsz' : ∀ b, sz'.testBit b = true ↔ (b = li.blk ∨ famFoot (fun _ => True) xs ls b) := fun b => (hsz b).trans ⟨And.right, fun hb => ⟨(hbnd b hb).2, hb⟩⟩
  have ht : ObjRel 0 rho0 w ⟨li.blk, li.base, 1, li.room⟩ (.tab true .raw us) := by
    refine ⟨rfl, hlen, ?_, fun _ => ?_⟩
    · intro a x ha
      obtain ⟨vs, b1, b2, b3⟩ := hel a x ha
      refine ⟨vs, enc_ren _ _ b1, b2, fun c v hv => ?_⟩
      have := b3 c v hv
      rw [hz1] at this; exact this
    · obtain ⟨_, bc, t, b1, b2⟩ := hrow hroom
      exact ⟨Nat.zero_le _, bc, t, b1, by rw [hz1] at b2; exact b2⟩
  have hlt1 := h.lt hli
  have hlt2 := h.lt hlr
  have hm := h.merge (fun q => q = i ∨ q = r) (H' := ((H.set i .gone).set r .gone).new (.big (FQ xs))) (o := .big (FQ xs)) (ln := ⟨li.blk, li.base, sz', li.room⟩) rfl (fun q hq => by
      rw [get_new, get_set, get_set]
      show (if q = H.n then _ else _) = _
      rw [if_neg hq]
      by_cases h1 : q = r
      · rw [if_pos h1, if_pos (.inr h1)]
      · rw [if_neg h1]
        by_cases h2 : q = i
        · rw [if_pos h2, if_pos (.inl h2)]
        · rw [if_neg h2, if_neg fun hh => hh.elim h2 h1]) (by rw [get_new]; exact if_pos rfl) (fun q hq => by rcases hq with rfl | rfl <;> assumption)
    ⟨fun b hb => hbnd b ((hsz' b).1 hb), ⟨_, _, hF, ht, hroom, hblk, hsz'⟩, fun w' hk' => ⟨_, _, hF.kept hk' fun b hb hnb => hnb ((hsz' b).2 (.inr hb)), ht.kept (fun _ _ h => h) hk' (fun b hb hnb => hnb ((hsz' b).2 (.inl (hb.small rfl).2.symm))) (fun _ _ => Nat.zero_le _), hroom, hblk, hsz'⟩⟩
    fun b hb => by
      rcases hb with hb | hb
      · exact hb.1.elim
      · exact hall b ((hsz' b).1 hb.2)
  obtain ⟨r1, m1, b1⟩ := hm
  obtain ⟨r2, b2⟩ := r1.setLink (i := i) (m := H.n) (m1 i li hli) ⟨hz1, _, upd_self .., rfl, rfl, rfl⟩
  exact ⟨_, r2, m1, fun b hb => b1 b (b2 b hb)⟩
end
end Go.Proofs.YtnheodgffackoaaDoor.E
