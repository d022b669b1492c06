/- The engine, second part: what abstract values and heaps say of real ones; the quiet operations. -/
import Derived.Test.YtnheodgffackoaaDoorEa
import Derived.Laws.Tables
import Derived.Laws.StructEq
import Derived.LaidEql
import Derived.MapKept
namespace Go.Proofs.YtnheodgffackoaaDoor.E
set_option linter.unusedSimpArgs false
set_option linter.unusedVariables false
open Go

abbrev Rho := Nat → Option Loc

mutual
def Den (ρ : Rho) : AV → Value → Prop
  | .any, _ => True
  | .undef, v => v = Go.undef
  | .int k n, v => v = .int k n
  | .bl b, v => v = .bool b
  | .bool b, v => v = .bool b
  | .str s, v => v = .string s
  | .nilptr, v => v = .pointer none
  | .ptr id ix fld, v => ∃ l, ρ id = some l ∧ v = .pointer (some ⟨l.blk, l.base + ix * l.sz + fld, none⟩)
  | .glob g fld, v => v = .pointer (some ⟨g, fld, none⟩)
  | .nilslice, v => v = .slice none 0 0
  | .empty, v => ∃ a, v = .slice a 0 0
  | .eslice, v => ∃ a cap, v = .slice (some a) 0 cap
  | .slice id off n, v => ∃ l a cap, ρ id = some l ∧ v = .slice a n cap ∧ n ≤ cap ∧ off + cap ≤ l.room ∧ (0 < cap → a = some ⟨l.blk, l.base + off * l.sz, none⟩)
  | .nilfunc, v => v = .nilFunc
  | .func fn fs cs, v => ∃ f c, v = .func fn f c ∧ DenL ρ fs f.toList ∧ DenL ρ cs c.toList
  | .niliface, v => v = .nilIface
  | .iface t a, v => ∃ u, v = .iface t u ∧ Den ρ a u
  | .agg cs, v => ∃ c, v = .agg c ∧ DenL ρ cs c.toList
  | .tuple cs, v => ∃ c, v = .tuple c ∧ DenL ρ cs c.toList
  | .nilmap, v => v = .map none
  | .map id, v => ∃ l, ρ id = some l ∧ v = .map (some l.blk)
  | .raw u, v => v = u
def DenL (ρ : Rho) : List AV → List Value → Prop
  | [], vs => vs = []
  | a :: l, vs => ∃ v vs', vs = v :: vs' ∧ Den ρ a v ∧ DenL ρ l vs'
end
def AllP : List Prop → Prop
  | [] => True
  | p :: ps => p ∧ AllP ps
theorem allP_app2 : ∀ {a b : List Prop}, AllP (app2 a b) → AllP a ∧ AllP b
  | [], _, h => ⟨trivial, h⟩
  | _ :: _, _, h => let ⟨h1, h2⟩ := allP_app2 h.2; ⟨⟨h.1, h1⟩, h2⟩

section
variable {ρ ρ' : Rho}
theorem denL_len : ∀ {l : List AV} {vs : List Value}, DenL ρ l vs → len l = vs.length
  | [], _, h => by cases h; rfl
  | _ :: l, _, h => by obtain ⟨v, vs', rfl, _, h2⟩ := h; simp [len, denL_len h2]
theorem denL_nth : ∀ {l : List AV} {vs : List Value} {i : Nat} {u : AV}, DenL ρ l vs → nth l i = some u → ∃ v, vs[i]? = some v ∧ Den ρ u v
  | [], _, _, _, _, h => by cases h
  | _ :: _, _, 0, _, h, h2 => by obtain ⟨v, vs', rfl, h3, _⟩ := h; cases h2; exact ⟨v, rfl, h3⟩
  | _ :: _, _, i + 1, _, h, h2 => by obtain ⟨v, vs', rfl, _, h3⟩ := h; exact denL_nth (i := i) h3 h2
theorem denL_take : ∀ {l : List AV} {vs : List Value} {n : Nat} {r : List AV}, DenL ρ l vs → take? l n = some r → n ≤ vs.length ∧ DenL ρ r (vs.take n)
  | l, vs, 0, r, _, h2 => by
    cases l <;> (cases h2; exact ⟨Nat.zero_le _, by simp [DenL]⟩)
  | [], _, _ + 1, _, _, h => by cases h
  | u :: l, _, n + 1, r, h, h2 => by
    obtain ⟨v, vs', rfl, h3, h4⟩ := h
    simp only [take?] at h2
    split at h2
    · rename_i l' hl
      cases h2
      have ⟨h5, h6⟩ := denL_take h4 hl
      exact ⟨by simp; omega, v, _, rfl, h3, h6⟩
    · cases h2
theorem denL_cut : ∀ {l : List AV} {vs : List Value} {i n : Nat} {r : List AV}, DenL ρ l vs → cutn l i n = some r → i + n ≤ vs.length ∧ DenL ρ r ((vs.drop i).take n)
  | l, vs, 0, n, r, h, h2 => by
    have : take? l n = some r := by cases l <;> exact h2
    have ⟨h3, h4⟩ := denL_take h this
    exact ⟨by omega, by simpa using h4⟩
  | [], _, _ + 1, _, _, _, h => by cases h
  | _ :: l, _, i + 1, n, r, h, h2 => by
    obtain ⟨v, vs', rfl, h3, h4⟩ := h
    have ⟨h5, h6⟩ := denL_cut (i := i) h4 h2
    exact ⟨by simp; omega, by simpa using h6⟩
theorem denL_map {β : Type} (f : β → AV) (g : β → Value) : ∀ (l : List β), (∀ x, x ∈ l → Den ρ (f x) (g x)) → DenL ρ (lmap f l) (l.map g)
  | [], _ => rfl
  | x :: l, h => ⟨g x, l.map g, rfl, h x (by simp), denL_map f g l fun y hy => h y (by simp [hy])⟩
theorem den_ofCell (v : Value) : Den ρ (ofCell v) v := by
  unfold ofCell; split <;> simp [Den]
theorem den_ofVal (v : Value) : Den ρ (ofVal v) v := by
  unfold ofVal
  split
  · rename_i cs
    have := denL_map (ρ := ρ) ofCell id cs.toList fun x _ => den_ofCell x
    exact ⟨cs, rfl, by simpa using this⟩
  · exact den_ofCell _
mutual
theorem Den.mono (h : ∀ i l, ρ i = some l → ρ' i = some l) : ∀ {a : AV} {v : Value}, Den ρ a v → Den ρ' a v
  | .any, _, _ => trivial
  | .undef, _, h1 | .int _ _, _, h1 | .bl _, _, h1 | .bool _, _, h1 | .str _, _, h1 | .nilptr, _, h1 | .glob _ _, _, h1 | .nilslice, _, h1 | .nilfunc, _, h1 | .niliface, _, h1 | .nilmap, _, h1 | .raw _, _, h1 | .empty, _, h1 | .eslice, _, h1 => by simpa [Den] using h1
  | .ptr _ _ _, _, h1 => by obtain ⟨l, h2, h3⟩ := h1; exact ⟨l, h _ _ h2, h3⟩
  | .slice _ _ _, _, h1 => by obtain ⟨l, a, cap, h2, h3⟩ := h1; exact ⟨l, a, cap, h _ _ h2, h3⟩
  | .map _, _, h1 => by obtain ⟨l, h2, h3⟩ := h1; exact ⟨l, h _ _ h2, h3⟩
  | .func _ _ _, _, h1 => by obtain ⟨f, c, h2, h3, h4⟩ := h1; exact ⟨f, c, h2, DenL.mono h h3, DenL.mono h h4⟩
  | .iface _ _, _, h1 => by obtain ⟨u, h2, h3⟩ := h1; exact ⟨u, h2, Den.mono h h3⟩
  | .agg _, _, h1 => by obtain ⟨c, h2, h3⟩ := h1; exact ⟨c, h2, DenL.mono h h3⟩
  | .tuple _, _, h1 => by obtain ⟨c, h2, h3⟩ := h1; exact ⟨c, h2, DenL.mono h h3⟩
theorem DenL.mono (h : ∀ i l, ρ i = some l → ρ' i = some l) : ∀ {a : List AV} {v : List Value}, DenL ρ a v → DenL ρ' a v
  | [], _, h1 => by simpa [DenL] using h1
  | _ :: _, _, h1 => by obtain ⟨v, vs, h2, h3, h4⟩ := h1; exact ⟨v, vs, h2, Den.mono h h3, DenL.mono h h4⟩
end
end

def cellsV : (k : K) → ty k → List Value
  | .int k, x => [.int k x]
  | .bool, x => [.bool x]
  | .unit, _ => []
  | .pair a b, x => cellsV a x.1 ++ cellsV b x.2
  | .raw, x => [x]
def valV : (k : K) → ty k → Value
  | .int k, x => .int k x
  | .bool, x => .bool x
  | .raw, x => x
  | .unit, _ => .agg #[]
  | .pair a b, x => .agg (cellsV (.pair a b) x).toArray
def entV {kk vk : K} (e : Ent kk vk) : MapEntry := ⟨valV kk e.1, valV vk e.2.1, e.2.2⟩
/-- All blocks but those of X are as they were; nothing else has turned. -/
structure Kept (X : Nat → Prop) (w w' : World) : Prop where
  os : w'.os = w.os
  tape : w'.tape = w.tape
  output : w'.output = w.output
  size : w.heap.size ≤ w'.heap.size
  block : ∀ b, b < w.heap.size → ¬ X b → w'.heap[b]? = w.heap[b]?
/-- The blocks of an object of many. -/
def Far (l : Loc) (b : Nat) : Prop := l.sz.testBit b = true
/-- What holds of an object that lies there. -/
def Elems (ρ : Rho) (w : World) (l : Loc) (k : K) (xs : List (ty k)) : Prop :=
  ∀ j x, xs[j]? = some x → ∃ vs, DenL ρ (enc k x) vs ∧ (∀ v ∈ vs, v.oneCell' = true) ∧ ∀ i v, vs[i]? = some v → w.cell? ⟨l.blk, l.base + j * l.sz + i, none⟩ = some v
def Row (w : World) (l : Loc) (B : Nat) : Prop := B ≤ l.blk ∧ ∃ bc t, w.heap[l.blk]? = some (.cells bc t (0, 0)) ∧ bc.size = l.base + l.room * l.sz
/-- Where some objects lie. -/
def LocsL (ρ : Rho) : List Nat → List Loc → Prop
  | [], [] => True
  | i :: is, l :: ls => ρ i = some l ∧ LocsL ρ is ls
  | _, _ => False
theorem LocsL.map {ρ ρ' : Rho} {r : Nat → Nat} : ∀ {is : List Nat} {ls : List Loc}, (∀ i l, i ∈ is → ρ i = some l → ρ' (r i) = some l) → LocsL ρ is ls → LocsL ρ' (is.map r) ls
  | [], [], _, _ => trivial
  | [], _ :: _, _, h => h.elim
  | _ :: _, [], _, h => h.elim
  | i :: is, l :: ls, hm, h => ⟨hm i l (by simp) h.1, LocsL.map (fun j m hj => hm j m (by simp [hj])) h.2⟩
def ObjRel (B : Nat) (ρ : Rho) (w : World) (l : Loc) : AObj → Prop
  | .gone => True
  | .cells cs => B ≤ l.blk ∧ l.base = 0 ∧ ∃ bc t, w.heap[l.blk]? = some (.cells bc t (0, 0)) ∧ DenL ρ cs bc.toList
  | .tab own k xs => l.sz = k.size ∧ xs.length ≤ l.room ∧ Elems ρ w l k xs ∧ (if own then 0 < l.room → Row w l B else 0 < xs.length → l.blk < B)
  | .row sz cs => B ≤ l.blk ∧ l.base = 0 ∧ l.sz = sz ∧ ∃ bc t, w.heap[l.blk]? = some (.cells bc t (0, 0)) ∧ DenL ρ cs bc.toList ∧ bc.size = l.room * l.sz
  | .map _ _ c es => B ≤ l.blk ∧ ∃ ents, w.heap[l.blk]? = some (.map ents c) ∧ ents.toList = es.map entV
  | .mix k P v => ∃ us u ws, us.length = k ∧ P us ws ∧ Den ρ v u ∧ l.sz = 1 ∧ (us ++ u :: ws).length ≤ l.room ∧ Elems ρ w l .raw (us ++ u :: ws) ∧ (0 < l.room → Row w l B)
  | .iter id c seen => B ≤ l.blk ∧ l.base = 0 ∧ ∃ lm s, ρ id = some lm ∧ w.heap[l.blk]? = some (.mapIter (some lm.blk) c s c) ∧ s.toList = seen
  | .iterX id c seen bs => B ≤ l.blk ∧ l.base = 0 ∧ ∃ lm s b, ρ id = some lm ∧ w.heap[l.blk]? = some (.mapIter (some lm.blk) c s c) ∧ s.toList = seen ++ [b] ∧ b ∈ bs ∧ b ∉ seen
  | .big Q => (∀ b, Far l b → B ≤ b ∧ b < w.heap.size) ∧ Q w l.blk l.base l.sz l.room ∧ ∀ w', Kept (fun b => ¬ Far l b) w w' → Q w' l.blk l.base l.sz l.room
  | .box _ ids P => (∀ b, Far l b → B ≤ b ∧ b < w.heap.size) ∧ ∃ ls, LocsL ρ ids ls ∧ P ls w l.sz ∧ ∀ w', Kept (fun b => B ≤ b ∧ ¬ Far l b) w w' → P ls w' l.sz
  | .link id => l.sz = 1 ∧ ∃ m, ρ id = some m ∧ m.blk = l.blk ∧ m.base = l.base ∧ m.room = l.room
def Owned (l : Loc) : AObj → Prop
  | .gone => False
  | .cells _ => True
  | .tab own _ _ => own = true ∧ 0 < l.room
  | .row _ _ => True
  | .map _ _ _ _ => True
  | .mix _ _ _ => true = true ∧ 0 < l.room
  | .iter _ _ _ => True
  | .iterX _ _ _ _ => True
  | .big _ => False
  | .link _ => False
  | .box _ _ _ => False
/-- The blocks that are an object's own. -/
def Foot (l : Loc) (o : AObj) (b : Nat) : Prop := (Owned l o ∧ l.blk = b) ∨ (isBig o = true ∧ Far l b)
structure RelH (B : Nat) (ρ : Rho) (H : Hp) (w : World) : Prop where
  obj : ∀ i, H.get i ≠ .gone → ∃ l, ρ i = some l ∧ ObjRel B ρ w l (H.get i)
  sepF : ∀ i j li lj b, i ≠ j → ρ i = some li → ρ j = some lj → Foot li (H.get i) b → Foot lj (H.get j) b → False
  fresh : ∀ i, H.n ≤ i → ρ i = none ∧ H.get i = .gone
  bound : B ≤ w.heap.size
theorem RelH.sep {B : Nat} {ρ : Rho} {H : Hp} {w : World} (h : RelH B ρ H w) : ∀ i j li lj, i ≠ j → ρ i = some li → ρ j = some lj → Owned li (H.get i) → Owned lj (H.get j) → li.blk ≠ lj.blk :=
  fun i j li lj hij h1 h2 h3 h4 he => h.sepF i j li lj li.blk hij h1 h2 (.inl ⟨h3, rfl⟩) (.inl ⟨h4, he.symm⟩)
theorem Foot.small {l : Loc} {o : AObj} {b : Nat} (h : Foot l o b) (hn : isBig o = false) : Owned l o ∧ l.blk = b := h.elim id fun h => by rw [hn] at h; cases h.1
theorem Owned.small {l : Loc} {o : AObj} (h : Owned l o) : isBig o = false := by cases o <;> first | rfl | exact h.elim
def RelT (ρ : Rho) (tm : Tm) (a : Act) : Prop := ∀ t, Den ρ (look .any tm t) (a.tmps.getD t Go.undef)
def RelG (gc : List (Nat × List AV)) (B : Nat) (w : World) : Prop := ∀ g cs, lookO gc g = some cs → g < B ∧ ∃ bc t fr, w.heap[g]? = some (.cells bc t fr) ∧ ∀ ρ, DenL ρ cs bc.toList

section
variable {E : Env} {ρ : Rho} {tm : Tm} {a : Act} {H : Hp} {w : World} {B : Nat}
theorem den_opv (ht : RelT ρ tm a) (hg : RelG E.gc B w) (x : Operand) : Den ρ (opv E tm x) (a.eval x) := by
  cases x with
  | tmp t => exact ht t
  | const v => exact den_ofVal v
  | global g => rfl
  | func f => exact ⟨#[], #[], rfl, rfl, rfl⟩
theorem enc_len : ∀ (k : K) (x : ty k) {vs : List Value}, DenL ρ (enc k x) vs → vs.length = k.size
  | .int _, _, _, h => by obtain ⟨_, _, rfl, _, h2⟩ := h; simp only [DenL] at h2; subst h2; rfl
  | .bool, _, _, h => by obtain ⟨_, _, rfl, _, h2⟩ := h; simp only [DenL] at h2; subst h2; rfl
  | .unit, _, _, h => by simp only [enc, DenL] at h; subst h; rfl
  | .raw, _, _, h => by obtain ⟨_, _, rfl, _, h2⟩ := h; simp only [DenL] at h2; subst h2; rfl
  | .pair a b, x, vs, h => by
    have key : ∀ (l l' : List AV) (vs : List Value), DenL ρ (app l l') vs → ∃ v1 v2, vs = v1 ++ v2 ∧ DenL ρ l v1 ∧ DenL ρ l' v2 := by
      intro l l'
      induction l with
      | nil => exact fun vs h => ⟨[], vs, rfl, rfl, h⟩
      | cons u l ih =>
        rintro vs ⟨v, vs', rfl, h1, h2⟩
        obtain ⟨v1, v2, rfl, h3, h4⟩ := ih _ h2
        exact ⟨v :: v1, v2, rfl, ⟨v, v1, rfl, h1, h3⟩, h4⟩
    obtain ⟨v1, v2, rfl, h1, h2⟩ := key _ _ _ h
    rw [List.length_append, enc_len a _ h1, enc_len b _ h2]
    rfl

theorem run_loadCells_at (P : Program) (w : World) (b off : Nat) (vs : List Value) (n : Nat) (hn : vs.length = n) (h : ∀ i v, vs[i]? = some v → w.cell? ⟨b, off + i, none⟩ = some v) :
    (loadCells ⟨b, off, none⟩ n).run P w = .ok vs.toArray w := by
  subst hn
  refine run_loadCells_list w _ vs fun j v hv => ?_
  have e : (⟨b, off, none⟩ : Addr).add j = ⟨b, off + j, none⟩ := by unfold Addr.add; split <;> simp_all
  rw [e]; exact h j v hv
/-- What is read: the cells from a place on. -/
theorem rd_sound {id ix fld n : Nat} {r : List AV} {cs : List Prop} (h : rdCells H id ix fld n = some (r, cs)) (hc : AllP cs) (hH : RelH B ρ H w) :
    ∃ l vs, ρ id = some l ∧ DenL ρ r vs ∧ vs.length = n ∧ ∀ i v, vs[i]? = some v → w.cell? ⟨l.blk, l.base + ix * l.sz + fld + i, none⟩ = some v := by
  unfold rdCells at h
  split at h
  · cases h
  · rename_i cs0 ho
    split at h
    · split at h
      · rename_i r' hcut
        cases h
        obtain ⟨l, hl, hb, h0, bc, t, hheap, hd⟩ := (ho ▸ hH.obj id (by simp [ho]) : ∃ l, ρ id = some l ∧ ObjRel B ρ w l (.cells cs0))
        obtain ⟨h1, h2⟩ := denL_cut hd hcut
        refine ⟨l, _, hl, h2, by simp at h1 ⊢; omega, fun i v hv => ?_⟩
        rw [h0, Nat.zero_mul, Nat.zero_add]
        have hi : i < n := by have := (List.getElem?_eq_some_iff.1 hv).1; simp at this; omega
        rw [List.getElem?_take_of_lt hi, List.getElem?_drop] at hv
        simpa [World.cell?, hheap] using hv
      · cases h
    · cases h
  · rename_i own k xs ho
    split at h
    · rename_i r' hcut
      cases h
      obtain ⟨hix, _⟩ := hc
      obtain ⟨l, hl, hsz, hlen, hel, hown⟩ := (ho ▸ hH.obj id (by simp [ho]) : ∃ l, ρ id = some l ∧ ObjRel B ρ w l (.tab own k xs))
      obtain ⟨vs, hd, _, hcell⟩ := hel ix (xs.getD ix (dfl k)) (by simp [List.getD, hix])
      obtain ⟨h1, h2⟩ := denL_cut hd hcut
      refine ⟨l, _, hl, h2, by simp at h1 ⊢; omega, fun i v hv => ?_⟩
      have hi : i < n := by have := (List.getElem?_eq_some_iff.1 hv).1; simp at this; omega
      rw [List.getElem?_take_of_lt hi, List.getElem?_drop] at hv
      have := hcell _ _ hv
      rwa [Nat.add_assoc (l.base + ix * l.sz) fld i]
    · cases h
  · rename_i sz cs0 ho
    split at h
    · rename_i r' hcut
      cases h
      obtain ⟨l, hl, hb, h0, hsz, bc, t, hheap, hd, _⟩ := (ho ▸ hH.obj id (by simp [ho]) : ∃ l, ρ id = some l ∧ ObjRel B ρ w l (.row sz cs0))
      obtain ⟨h1, h2⟩ := denL_cut hd hcut
      simp only [Nat.add_eq, Nat.mul_eq] at h1 h2
      refine ⟨l, _, hl, h2, by simp at h1 ⊢; omega, fun i v hv => ?_⟩
      rw [h0, Nat.zero_add, hsz]
      have hi : i < n := by have := (List.getElem?_eq_some_iff.1 hv).1; simp at this; omega
      rw [List.getElem?_take_of_lt hi, List.getElem?_drop] at hv
      simpa [World.cell?, hheap] using hv
    · cases h
  · cases h
  · rename_i k0 P v0 ho
    split at h <;> cases h
    obtain ⟨l, hl, us, u, ws, hus, _, hd, hsz, hlen, hel, hown⟩ := (ho ▸ hH.obj id (by simp [ho]) : ∃ l, ρ id = some l ∧ ObjRel B ρ w l (.mix k0 P v0))
    obtain ⟨hix, _⟩ := hc
    subst hix
    obtain ⟨vs, hd2, _, hcell⟩ := hel ix u (by rw [← hus]; simp)
    obtain ⟨v', vs', rfl, hv, hn⟩ := hd2
    simp only [DenL] at hn; subst hn
    simp only [Den] at hv; subst hv
    exact ⟨l, [v'], hl, ⟨v', [], rfl, hd, rfl⟩, rfl, fun i v hv => hcell i v hv⟩
  · cases h
  · cases h
  · cases h
  · cases h
  · cases h

theorem isAgg_run {P : Program} {t : TypeId} {b : Bool} (h : isAggO P t = some b) (w : World) : (isAgg t).run P w = .ok b w := by
  unfold isAggO at h
  unfold isAgg
  split at h <;> cases h <;> (rename_i hu; simp only [Sem.run_bind, run_underlying hu, Result.andThen_ok])
  · rfl
  · rfl
  · rename_i d h1 h2
    first
      | rfl
      | (split
         · exact (h1 _ hu).elim
         · exact (h2 _ _ hu).elim
         · rfl)
theorem sizeOf_run {P : Program} {t : TypeId} {n : Nat} (h : sizeO P t = some n) (w : World) : (Go.sizeOf t).run P w = .ok n w := by
  unfold sizeO at h
  split at h
  · rename_i i hi; cases h; simp [Go.sizeOf, typeInfo, hi]
  · cases h

theorem bytesA_get : ∀ {cs : List AV} {l : List Int} {vs : List Value} {i : Nat}, bytesA cs = some l → DenL ρ cs vs → i < l.length → vs[i]? = some (.int .u8 (l.getD i 0))
  | [], l, vs, i, h, _, hi => by cases h; simp at hi
  | v :: cs, l, vs, i, h, hd, hi => by
    unfold bytesA at h
    split at h <;> try (cases h; done)
    · rename_i he; cases he
    · rename_i n cs' he
      cases he
      split at h <;> cases h
      rename_i r hr
      obtain ⟨x, xs, rfl, h1, h2⟩ := hd
      simp only [Den] at h1; subst h1
      cases i with
      | zero => rfl
      | succ i => simpa using bytesA_get hr h2 (by simpa using hi)
theorem load_sound {t : TypeId} {p v : AV} {cs : List Prop} {pv : Value} (h : evLoad E H t p = some (v, cs)) (hc : AllP cs) (hp : Den ρ p pv) (hH : RelH B ρ H w) (hg : RelG E.gc B w) :
    ∃ v', (Instr.loadAt t pv).run E.P w = .ok v' w ∧ Den ρ v v' := by
  unfold evLoad at h
  split at h
  · rename_i id ix fld
    obtain ⟨l0, hl0, rfl⟩ := hp
    split at h
    · rename_i ha
      split at h
      · rename_i n hn
        split at h
        · rename_i r cs' hr
          cases h
          obtain ⟨l, vs, hl, hd, hlen, hcell⟩ := rd_sound hr hc hH
          rw [hl0] at hl; cases hl
          refine ⟨.agg vs.toArray, ?_, vs.toArray, rfl, by simpa using hd⟩
          simp only [Instr.loadAt, Instr.sureAddr, loadVar, Sem.run_bind, Sem.run_pure, Result.andThen_ok, isAgg_run ha, if_true, sizeOf_run hn, run_loadCells_at E.P w _ _ vs n hlen hcell]
        · cases h
      · cases h
    · rename_i ha
      split at h
      · rename_i r cs' hr
        split at h
        · cases h
          obtain ⟨l, vs, hl, hd, hlen, hcell⟩ := rd_sound hr hc hH
          rw [hl0] at hl; cases hl
          obtain ⟨v', vs', rfl, hd1, hd2⟩ := hd
          simp only [DenL] at hd2; subst hd2
          refine ⟨v', ?_, hd1⟩
          have := hcell 0 v' rfl
          simp only [Instr.loadAt, Instr.sureAddr, loadVar, Sem.run_bind, Sem.run_pure, Result.andThen_ok, isAgg_run ha, Bool.false_eq_true, if_false, run_load]
          rw [Nat.add_zero] at this
          rw [this]
        · cases h
      · cases h
    · cases h
  · rename_i g fld
    simp only [Den] at hp; subst hp
    split at h <;> try (cases h; done)
    rename_i cs0 hcs
    obtain ⟨_, bc, tt, fr, hheap, hd⟩ := hg _ _ hcs
    have hcell : ∀ i, w.cell? ⟨g, i, none⟩ = bc.toList[i]? := by intro i; simp [World.cell?, hheap]
    split at h <;> try (cases h; done)
    · rename_i ha
      split at h <;> try (cases h; done)
      rename_i n hn
      split at h <;> cases h
      rename_i r hr
      obtain ⟨h1, h2⟩ := denL_cut (hd ρ) hr
      refine ⟨.agg ((bc.toList.drop fld).take n).toArray, ?_, _, rfl, by simpa using h2⟩
      have hlen : ((bc.toList.drop fld).take n).length = n := by simp at h1 ⊢; omega
      have hc' : ∀ i v, ((bc.toList.drop fld).take n)[i]? = some v → w.cell? ⟨g, fld + i, none⟩ = some v := by
        intro i v hv
        have hi : i < n := by have := (List.getElem?_eq_some_iff.1 hv).1; simp at this; omega
        rw [List.getElem?_take_of_lt hi, List.getElem?_drop] at hv
        rw [hcell]; exact hv
      simp only [Instr.loadAt, Instr.sureAddr, loadVar, Sem.run_bind, Sem.run_pure, Result.andThen_ok, isAgg_run ha, if_true, sizeOf_run hn, run_loadCells_at E.P w _ _ _ n hlen hc']
    · rename_i ha
      split at h
      · rename_i l0 hl0
        cases h
        have h1 := bytesA_get hl0 (hd ρ) hc.1
        exact ⟨_, by simp only [Instr.loadAt, Instr.sureAddr, loadVar, Sem.run_bind, Sem.run_pure, Result.andThen_ok, isAgg_run ha, Bool.false_eq_true, if_false, run_load, hcell, h1], rfl⟩
      split at h <;> cases h
      rename_i hv
      obtain ⟨v', h1, h2⟩ := denL_nth (hd ρ) hv
      refine ⟨v', ?_, h2⟩
      simp only [Instr.loadAt, Instr.sureAddr, loadVar, Sem.run_bind, Sem.run_pure, Result.andThen_ok, isAgg_run ha, Bool.false_eq_true, if_false, run_load, hcell, h1]
  · cases h

theorem kindEq_rfl (k : IntKind) : kindEq k k = true := by cases k <;> rfl
theorem int_sound {op : BinOp} {t : TypeId} {x y : Operand} {k : IntKind} {m n : Int} {v : AV} {cs : List Prop} (h : evInt op k m n = some (v, cs)) (hc : AllP cs) (hs : op ≠ .shl) (hs' : op ≠ .shr) :
    ∃ v', (do eqGuard op t x y (.int k m) (.int k n); binOp op t (.int k m) (.int k n)).run E.P w = .ok v' w ∧ Den ρ v v' := by
  have hg : eqGuard op t x y (.int k m) (.int k n) = pure () := eqGuard_at_int ..
  rw [hg]
  cases op <;> simp only [evInt, Option.some.injEq, Prod.mk.injEq, reduceCtorEq] at h <;> first
    | (exact absurd rfl hs) | (exact absurd rfl hs') | (cases h; done)
    | (obtain ⟨rfl, rfl⟩ := h
       refine ⟨_, ?_, rfl⟩
       first
         | (simp [binOp, Op.intArith]; done)
         | (simp [binOp, Op.intBits]; done)
         | (simp [binOp, Op.intCmp]; done)
         | (have h0 := hc.1; simp [binOp, Op.intDiv, h0]; done))

theorem eqScal_sound {P : Program} {t : TypeId} {a b : AV} {e : Bool} {x y : Value} (d : Nat) (h : eqScal P t a b = some e) (ha : Den ρ a x) (hb : Den ρ b y) :
    (Op.equalIn (d + 1) t x y).run P w = .ok e w ∧ isAggO P t = some false := by
  unfold eqScal at h
  split at h <;> try (cases h; done)
  · split at h <;> try (cases h; done)
    rename_i q hq
    split at h <;> cases h
    rename_i hk
    simp only [Den] at ha hb
    subst ha hb
    rw [kindEq_eq hk]
    exact ⟨run_equalIn_int w d _ _ _ _ _ hq, by simp [isAggO, hq]⟩
  all_goals
    split at h <;> cases h
    rename_i hq
    simp only [Den] at ha hb
    subst ha hb
    exact ⟨run_equalIn_bool w d _ _ _ hq, by simp [isAggO, hq]⟩
theorem eqFields_sound (P : Program) (d : Nat) : ∀ (fs : List Field) (i : Nat) (us vs : List AV) (r : Bool) (u v : List Value) (pu pv : List Value), eqFields P i fs us vs = some r → DenL ρ us u → DenL ρ vs v → pu.length = i → pv.length = i →
    (Op.eqFields (d + 1) (pu ++ u).toArray (pv ++ v).toArray fs).run P w = .ok r w
  | [], i, us, vs, r, u, v, pu, pv, he, _, _, _, _ => by
    cases us with
    | cons a l => simp [eqFields] at he
    | nil =>
      cases vs with
      | cons a l => simp [eqFields] at he
      | nil => cases he; simp [Op.eqFields]
  | f :: fs, i, us, vs, r, u, v, pu, pv, he, hu, hv, h1, h2 => by
    cases us with
    | nil => simp [eqFields] at he
    | cons a us =>
      cases vs with
      | nil => simp [eqFields] at he
      | cons b vs =>
        simp only [eqFields] at he
        split at he <;> try (cases he; done)
        rename_i e hsc
        split at he <;> try (cases he; done)
        rename_i hoff
        split at he <;> try (cases he; done)
        rename_i hname
        split at he <;> cases he
        rename_i r' hr'
        have hoff : f.offset = i := Nat.eq_of_beq_eq_true hoff
        have hname : f.name ≠ "_" := by simpa using hname
        obtain ⟨x, u', rfl, ha, hu'⟩ := hu
        obtain ⟨y, v', rfl, hb, hv'⟩ := hv
        have ⟨hq, hag⟩ := eqScal_sound (w := w) d hsc ha hb
        have hagg := isAgg_run hag
        have ih := eqFields_sound P d fs (Nat.succ i) us vs r' u' v' (pu ++ [x]) (pv ++ [y]) hr' hu' hv' (by simp [h1]) (by simp [h2])
        simp only [List.append_assoc, List.singleton_append] at ih
        have hx : (part f.type (pu ++ x :: u').toArray f.offset).run P w = .ok x w := by
          simp [part, hagg, hoff, ← h1]
        have hy : (part f.type (pv ++ y :: v').toArray f.offset).run P w = .ok y w := by
          simp [part, hagg, hoff, ← h2]
        simp only [Op.eqFields, hname, ne_eq, not_false_eq_true, if_true, Sem.run_bind, hx, hy, hq, Result.andThen_ok]
        cases e
        · simp
        · simp [ih]
theorem eqIn_of (d : Nat) {P : Program} {t : TypeId} {u z : Value} {e : Bool} (h : ∀ d, (Op.equalIn (d + 1) t u z).run P w = .ok e w) : (Op.equal t u z).run P w = .ok e w := h 9999
theorem memN_iff {l : List Nat} {j : Nat} : memN l j = true ↔ j ∈ l := by
  induction l with
  | nil => simp [memN]
  | cons i l ih =>
    simp only [memN]
    split
    · rename_i h; have := Nat.eq_of_beq_eq_true h; simp [this]
    · rename_i h
      rw [ih]
      have : j ≠ i := by rintro rfl; simp at h
      simp [this]
def wrapV (P : Program) (t : TypeId) (u : List Value) : Value := match isAggO P t with
  | some true => .agg u.toArray
  | _ => u.getD 0 Go.undef
theorem cellsAt_sound {P : Program} {t : TypeId} {l a : List AV} {vs : List Value} {off : Nat} (h : cellsAt P t l off = some a) (hd : DenL ρ l vs) : ∃ u, (part t vs.toArray off).run P w = .ok (wrapV P t u) w ∧ DenL ρ a u := by
  unfold cellsAt at h
  split at h
  · rename_i ha
    split at h <;> try (cases h; done)
    rename_i n hn
    obtain ⟨h1, h2⟩ := denL_cut hd h
    refine ⟨(vs.drop off).take n, ?_, h2⟩
    simp [part, isAgg_run ha, sizeOf_run hn, wrapV, ha, List.extract]
  · rename_i ha
    split at h <;> cases h
    rename_i v hv
    obtain ⟨v', h1, h2⟩ := denL_nth hd hv
    refine ⟨[v'], ?_, v', [], rfl, h2, rfl⟩
    simp [part, isAgg_run ha, wrapV, ha, h1]
  · cases h
theorem eqFs_sound {P : Program} {f : TypeId → List AV → List AV → Option Bool} {k : Nat} (hf : ∀ t a b e (u v : List Value), f t a b = some e → DenL ρ a u → DenL ρ b v → (Op.equalIn k t (wrapV P t u) (wrapV P t v)).run P w = .ok e w) : ∀ (fs : List Field) (us vs : List AV) (r : Bool) (u v : List Value), eqFs P f fs us vs = some r → DenL ρ us u → DenL ρ vs v → (Op.eqFields k u.toArray v.toArray fs).run P w = .ok r w
  | [], us, vs, r, u, v, he, _, _ => by cases he; simp [Op.eqFields]
  | g :: gs, us, vs, r, u, v, he, hu, hv => by
    simp only [eqFs] at he
    split at he <;> try (cases he; done)
    rename_i hname
    split at he <;> try (cases he; done)
    rename_i a b ha hb
    split at he <;> try (cases he; done)
    rename_i e hfe
    split at he <;> cases he
    rename_i r' hr
    have hname : g.name ≠ "_" := by simpa using hname
    obtain ⟨x, hx, hxd⟩ := cellsAt_sound (w := w) ha hu
    obtain ⟨y, hy, hyd⟩ := cellsAt_sound (w := w) hb hv
    have hq := hf _ _ _ _ _ _ hfe hxd hyd
    have ih := eqFs_sound hf gs us vs r' u v hr hu hv
    simp only [Op.eqFields, hname, ne_eq, not_false_eq_true, if_true, Sem.run_bind, hx, hy, hq, Result.andThen_ok]
    cases e
    · simp
    · simp [ih]
theorem eqC_sound {P : Program} {es : List TypeId} (hes : ∀ t, t ∈ es → P.stoodInHeld t = false) : ∀ (n : Nat) (d : Nat) (t : TypeId) (a b : List AV) (e : Bool) (u v : List Value), eqC P es n t a b = some e → DenL ρ a u → DenL ρ b v → (Op.equalIn (d + n) t (wrapV P t u) (wrapV P t v)).run P w = .ok e w
  | 0, _, _, _, _, _, _, _, h, _, _ => by cases h
  | n + 1, d, t, a, b, e, u, v, h, ha, hb => by
    simp only [eqC] at h
    split at h
    · rename_i fs hu
      split at h <;> try (cases h; done)
      rename_i hm
      have hag : isAggO P t = some true := by simp [isAggO, hu]
      have hf : P.fieldsOf t = fs := by simp [Program.fieldsOf, hu]
      have h1 := run_equalIn_struct (P := P) w (d + n) t u.toArray v.toArray (by rw [hf]; exact hu) (hes t (memN_iff.1 hm))
      rw [hf] at h1
      simp only [wrapV, hag]
      show (Op.equalIn (d + n + 1) t _ _).run P w = _
      rw [h1]
      exact eqFs_sound (fun t a b e u v q1 q2 q3 => eqC_sound hes n d t a b e u v q1 q2 q3) _ _ _ _ _ _ h ha hb
    · split at h <;> try (cases h; done)
      obtain ⟨x, _, rfl, h1, h2⟩ := ha
      obtain ⟨y, _, rfl, h3, h4⟩ := hb
      simp only [DenL] at h2 h4
      subst h2 h4
      obtain ⟨h5, h6⟩ := eqScal_sound (w := w) (d + n) h h1 h3
      simp only [wrapV, h6, List.getD_cons_zero]
      exact h5
theorem ptrEq_sound {i a f j b g : Nat} {r : Bool} {li lj : Loc} (h : ptrEq H i a f j b g = some r) (hi : ρ i = some li) (hj : ρ j = some lj) (hH : RelH B ρ H w) (P : Program) :
    (sameAddr ⟨li.blk, li.base + a * li.sz + f, none⟩ ⟨lj.blk, lj.base + b * lj.sz + g, none⟩).run P w = .ok r w := by
  unfold ptrEq at h
  split at h
  · rename_i hij
    obtain rfl := Nat.eq_of_beq_eq_true hij
    split at h <;> cases h
    rename_i h1 h2 h3
    obtain rfl := Nat.eq_of_beq_eq_true h1
    obtain rfl := Nat.eq_of_beq_eq_true h2
    obtain rfl := Nat.eq_of_beq_eq_true h3
    rw [hi] at hj; cases hj
    exact run_sameAddr_same w _
  · rename_i hij
    have hne : i ≠ j := by rintro rfl; simp at hij
    split at h <;> cases h
    rename_i h1 h2
    have key : ∀ o, isCells o = true → ∃ cs, o = .cells cs := by intro o ho; cases o <;> first | exact ⟨_, rfl⟩ | cases ho
    obtain ⟨c1, e1⟩ := key _ h1
    obtain ⟨c2, e2⟩ := key _ h2
    obtain ⟨l1, q1, _, _, bc, t, q2, _⟩ := (e1 ▸ hH.obj i (by simp [e1]) : ∃ l, ρ i = some l ∧ ObjRel B ρ w l (.cells c1))
    obtain ⟨l2, q3, _, _, bc', t', q4, _⟩ := (e2 ▸ hH.obj j (by simp [e2]) : ∃ l, ρ j = some l ∧ ObjRel B ρ w l (.cells c2))
    rw [hi] at q1; cases q1
    rw [hj] at q3; cases q3
    have hb : li.blk ≠ lj.blk := hH.sep i j li lj hne hi hj (by rw [e1]; trivial) (by rw [e2]; trivial)
    exact run_sameAddr_other w (by intro he; injection he with he; exact hb he) q2 q4
theorem eq_sound {t : TypeId} {x y : Operand} {a b v : AV} {u z : Value} (h : evEq E.P E.eqs t x y a b = some v) (ha : Den ρ a u) (hb : Den ρ b z) (op : BinOp) :
    (eqGuard op t x y u z).run E.P w = .ok () w ∧ ∃ e, (Op.equal t u z).run E.P w = .ok e w ∧ (v = .bl e ∨ v = .bool e) := by
  unfold evEq at h
  split at h <;> ((try simp only [Den] at ha); (try simp only [Den] at hb); (try subst ha); (try subst hb)) <;> try (cases h; done)
  · split at h <;> cases h
    rename_i hq
    exact ⟨by simp [eqGuard_at_bool], _, eqIn_of 0 fun d => run_equalIn_bool w d _ _ _ hq, .inl rfl⟩
  · split at h <;> cases h
    rename_i hq
    exact ⟨by simp [eqGuard_at_bool], _, eqIn_of 0 fun d => run_equalIn_bool w d _ _ _ hq, .inr rfl⟩
  · split at h <;> cases h
    rename_i hq
    exact ⟨by simp [eqGuard_at_bool], _, eqIn_of 0 fun d => run_equalIn_bool w d _ _ _ hq, .inr rfl⟩
  · split at h <;> cases h
    rename_i hq
    exact ⟨by simp [eqGuard_at_bool], _, eqIn_of 0 fun d => run_equalIn_bool w d _ _ _ hq, .inr rfl⟩
  · obtain ⟨ca, rfl, hca⟩ := ha
    obtain ⟨cb, rfl, hcb⟩ := hb
    split at h <;> try (cases h; done)
    rename_i fs hu
    split at h <;> try (cases h; done)
    rename_i hmem
    obtain ⟨hsi, hgt⟩ := E.eqOk t (memN_iff.1 hmem)
    have hg0 : (eqGuard op t x y (.agg ca) (.agg cb)).run E.P w = .ok () w := by
      unfold eqGuard
      cases op <;> simp [hgt]
    split at h
    rotate_left
    · split at h <;> cases h
      rename_i r hr
      have hag : isAggO E.P t = some true := by simp [isAggO, hu]
      have h2 : ∀ d, (Op.equalIn (d + 5) t (.agg ca) (.agg cb)).run E.P w = .ok r w := fun d => by
        have := eqC_sound (w := w) (fun t ht => (E.eqOk t ht).1) 5 d t _ _ r ca.toList cb.toList hr hca hcb
        simpa only [wrapV, hag] using this
      exact ⟨hg0, r, h2 9995, .inr rfl⟩
    cases h
    rename_i r hr
    have hf : E.P.fieldsOf t = fs := by simp [Program.fieldsOf, hu]
    have h1 := fun d => run_equalIn_struct (P := E.P) w d t ca cb (by rw [hf]; exact hu) hsi
    rw [hf] at h1
    have h2 := fun d => eqFields_sound (w := w) (ρ := ρ) E.P d fs.toList 0 _ _ r ca.toList cb.toList [] [] hr hca hcb rfl rfl
    simp at h2
    have h3 : ∀ d, (Op.equalIn (d + 1 + 1) t (.agg ca) (.agg cb)).run E.P w = .ok r w := fun d => by rw [h1]; exact h2 d
    refine ⟨?_, r, h3 9998, .inr rfl⟩
    unfold eqGuard
    cases op <;> simp [hgt]
  · split at h <;> cases h
    rename_i e hq
    exact ⟨by simp [eqGuard_at_pointer], true, eqIn_of 0 fun d => by simp [Op.equalIn, run_underlying hq], .inl rfl⟩
  · obtain ⟨l, _, rfl⟩ := ha
    split at h <;> cases h
    rename_i e hq
    exact ⟨by simp [eqGuard_at_pointer], false, eqIn_of 0 fun d => by simp [Op.equalIn, run_underlying hq], .inl rfl⟩
  · obtain ⟨l, _, rfl⟩ := hb
    split at h <;> cases h
    rename_i e hq
    exact ⟨by simp [eqGuard_at_pointer], false, eqIn_of 0 fun d => by simp [Op.equalIn, run_underlying hq], .inl rfl⟩
  · split at h <;> cases h
    rename_i e hq
    exact ⟨by simp [eqGuard_at_map], true, eqIn_of 0 fun d => by simp [Op.equalIn, run_underlying hq], .inl rfl⟩
  · obtain ⟨l, _, rfl⟩ := ha
    split at h <;> cases h
    rename_i e hq
    exact ⟨by simp [eqGuard_at_map], false, eqIn_of 0 fun d => by simp [Op.equalIn, run_underlying hq], .inl rfl⟩
  · obtain ⟨l, _, rfl⟩ := hb
    split at h <;> cases h
    rename_i e hq
    exact ⟨by simp [eqGuard_at_map], false, eqIn_of 0 fun d => by simp [Op.equalIn, run_underlying hq], .inl rfl⟩
  · split at h <;> cases h
    rename_i e hq
    exact ⟨by simp [eqGuard_at_nilFunc], true, eqIn_of 0 fun d => by simp [Op.equalIn, run_underlying hq], .inl rfl⟩
  · obtain ⟨f, c, rfl, _⟩ := ha
    split at h <;> cases h
    rename_i e hq
    exact ⟨by simp [eqGuard_at_func], false, eqIn_of 0 fun d => by simp [Op.equalIn, run_underlying hq], .inl rfl⟩
  · obtain ⟨f, c, rfl, _⟩ := hb
    split at h <;> cases h
    rename_i e hq
    exact ⟨by simp [eqGuard_at_nilFunc], false, eqIn_of 0 fun d => by simp [Op.equalIn, run_underlying hq], .inl rfl⟩
  · split at h <;> cases h
    rename_i e hq
    exact ⟨by simp [eqGuard_at_slice], true, eqIn_of 0 fun d => by simp [Op.equalIn, run_underlying hq], .inl rfl⟩
  · split at h <;> try (cases h; done)
    rename_i e hq
    have hcon : (∃ c, x = .const c) ∨ (∃ c, y = .const c) := by
      cases x <;> cases y <;> simp_all [isConst]
    have hv : v = .bl true := by
      split at h
      · cases h; rfl
      · split at h <;> cases h; rfl
    refine ⟨?_, true, eqIn_of 0 fun d => by simp [Op.equalIn, run_underlying hq], .inl hv⟩
    rcases hcon with ⟨c, rfl⟩ | ⟨c, rfl⟩
    · simp [eqGuard_nil_constL]
    · simp [eqGuard_nil_constR]
  · obtain ⟨c, rfl, _⟩ := ha
    split at h <;> cases h
    rename_i e hq
    exact ⟨by simp [eqGuard_at_iface], false, eqIn_of 0 fun d => by simp [Op.equalIn, run_underlying hq], .inl rfl⟩
  · obtain ⟨c, rfl, _⟩ := hb
    split at h <;> cases h
    rename_i e hq
    exact ⟨by simp [eqGuard_nil_iface], false, eqIn_of 0 fun d => by simp [Op.equalIn, run_underlying hq], .inl rfl⟩
end
end Go.Proofs.YtnheodgffackoaaDoor.E
