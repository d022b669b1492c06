/- The engine: opening arguments: whatever reads as data of a plain type becomes abstract values, over objects that are only read; and what a law's contract says of its row. -/
import Derived.Test.YtnheodgffackoaaDoorEk
import Derived.ProofKit
import Derived.OpenShut
import Derived.Below
import Derived.Carry
import Derived.SizedLaws
import Derived.Deep.Slices
namespace Go.Proofs.YtnheodgffackoaaDoor.E
set_option linter.unusedSimpArgs false
set_option linter.unusedVariables false
open Go Go.RowKit Go.ChangeShapes Go.WideShapes

/-- The plain types. -/
inductive Sh where
  | int (k : IntKind)
  | bool
  | unit
  | pair (a b : Sh)
  | slice (e : Sh)

def Sh.size : Sh → Nat
  | .int _ => 1
  | .bool => 1
  | .unit => 0
  | .pair a b => a.size + b.size
  | .slice _ => 1

def Sh.rep (e : Sh) : Nat → Sh
  | 0 => .unit
  | n + 1 => .pair e (e.rep n)

/-- A slice's elements, cell by cell. -/
def RowsAt (w : World) (a : Option Addr) (sz : Nat) (rows : List (List Value)) : Prop :=
  ∀ i r, rows[i]? = some r → ∃ b off, a = some ⟨b, off, none⟩ ∧ b < w.heap.size ∧ ∀ j u, r[j]? = some u → w.cell? ⟨b, off + (i * sz + j), none⟩ = some u

def Fit (w : World) : Sh → List Value → Prop
  | .int k, cs => ∃ n, cs = [.int k n] ∧ (Lit.int k n).wf = true
  | .bool, cs => ∃ b, cs = [.bool b]
  | .unit, cs => cs = []
  | .pair a b, cs => ∃ c1 c2, cs = c1 ++ c2 ∧ Fit w a c1 ∧ Fit w b c2
  | .slice e, cs => ∃ a len cap rows, cs = [.slice a len cap] ∧ len ≤ cap ∧ cap ≤ maxLen ∧ (a = none → len = 0 ∧ cap = 0) ∧ rows.length = len ∧ (∀ r, r ∈ rows → Fit w e r) ∧ (0 < e.size → RowsAt w a e.size rows ∧ (0 < cap → ∃ b off, a = some ⟨b, off, none⟩ ∧ b < w.heap.size))

theorem Fit.len {w : World} : ∀ {s : Sh} {cs : List Value}, Fit w s cs → cs.length = s.size
  | .int _, _, h => by obtain ⟨_, rfl, _⟩ := h; rfl
  | .bool, _, h => by obtain ⟨_, rfl⟩ := h; rfl
  | .unit, _, h => by cases h; rfl
  | .pair _ _, _, h => by obtain ⟨_, _, rfl, h1, h2⟩ := h; simp [Sh.size, h1.len, h2.len]
  | .slice _, _, h => by obtain ⟨_, _, _, _, rfl, _⟩ := h; rfl

def shapeFields (sh : TypeId → Option Sh) : Nat → List Field → Option Sh
  | _, [] => some .unit
  | off, f :: r => if f.offset = off then (sh f.type).bind fun a => (shapeFields sh (off + a.size) r).map fun b => .pair a b else none

/-- A type's shape; none: it is no plain one. -/
def shape (P : Program) : Nat → TypeId → Option Sh
  | 0, _ => none
  | n + 1, t =>
    let s : Option Sh := match P.underlying t with
      | some .bool => some .bool
      | some (.int k) => some (.int k)
      | some (.slice e) => (shape P n e).map .slice
      | some (.struct fs) => shapeFields (shape P n) 0 fs.toList
      | some (.array m e) => (shape P n e).map (·.rep m)
      | _ => none
    s.bind fun s => if P.cellsOf t = s.size then some s else none

section
variable {H : Type} {enc : TypeId × Value → H} {P : Program} {w : World} {base : Nat} {spare : Nat → Bool} {held : Bool}

theorem shape_cells {n : Nat} {t : TypeId} {s : Sh} (h : shape P n t = some s) : P.cellsOf t = s.size := by
  cases n with
  | zero => simp [shape] at h
  | succ n =>
    unfold shape at h
    obtain ⟨s', _, hs⟩ := Option.bind_eq_some_iff.1 h
    split at hs
    · cases hs; assumption
    · cases hs

theorem fields_fit {sh : TypeId → Option Sh} {cs : List Value} (hsz : ∀ t s, sh t = some s → P.cellsOf t = s.size)
    {tr : TypeId → List Value → Prop} (hfit : ∀ t s c, sh t = some s → tr t c → Fit w s c) :
    ∀ (l : List Field) (off : Nat) (s : Sh), shapeFields sh off l = some s → (∀ f, f ∈ l → tr f.type ((cs.drop f.offset).take (P.cellsOf f.type))) → off + s.size ≤ cs.length → Fit w s ((cs.drop off).take s.size)
  | [], off, s, h, _, _ => by simp only [shapeFields, Option.some.injEq] at h; subst h; simp [Fit, Sh.size]
  | f :: r, off, s, h, ht, hle => by
    unfold shapeFields at h
    split at h
    case isFalse => cases h
    case isTrue ho =>
      obtain ⟨a, ha, h2⟩ := Option.bind_eq_some_iff.1 h
      obtain ⟨b, hb, rfl⟩ := Option.map_eq_some_iff.1 h2
      simp only [Sh.size] at hle
      have h1 := hfit f.type a _ ha (ht f (by simp))
      rw [ho, hsz _ _ ha] at h1
      have h3 := fields_fit hsz hfit r (off + a.size) b hb (fun f hf => ht f (by simp [hf])) (by omega)
      refine ⟨_, _, ?_, h1, h3⟩
      simp only [Sh.size]
      rw [List.take_add, List.drop_drop]

theorem rep_fit {e : Sh} {cs : List Value} (m : Nat) (h : ∀ i, i < m → Fit w e ((cs.drop (i * e.size)).take e.size)) : ∀ (k i : Nat), i + k = m → Fit w (e.rep k) ((cs.drop (i * e.size)).take (e.rep k).size)
  | 0, i, _ => by simp [Sh.rep, Fit, Sh.size]
  | k + 1, i, hk => by
    refine ⟨_, _, ?_, h i (by omega), rep_fit m h k (i + 1) (by omega)⟩
    simp only [Sh.rep, Sh.size]
    rw [List.take_add, List.drop_drop, Nat.succ_mul]

theorem rep_size (e : Sh) (m : Nat) : (e.rep m).size = m * e.size := by
  induction m with
  | zero => simp [Sh.rep, Sh.size]
  | succ n ih => simp [Sh.rep, Sh.size, ih, Nat.succ_mul, Nat.add_comm]

theorem cells_at {a : Addr} {n : Nat} {cs : List Value} (h : w.cells? base a n = some cs) : cs.length = n ∧ ∀ j u, cs[j]? = some u → w.cell? (a.add j) = some u := by
  unfold World.cells? at h
  split at h
  case isFalse => cases h
  case isTrue =>
    have hl := mapM_some_length h
    refine ⟨by simpa using hl, fun j u hu => ?_⟩
    have hj : j < n := by have := (List.getElem?_eq_some_iff.1 hu).1; simp at hl; omega
    have := mapM_some_get h j j (by simp [hj])
    rw [this, hu]

theorem addr_form {a : Addr} {u : Value} (h : w.cell? a = some u) : a = ⟨a.block, a.off, none⟩ := by
  obtain ⟨b, o, s⟩ := a
  unfold World.cell? at h
  cases s with
  | none => rfl
  | some x =>
    exfalso
    revert h
    cases w.heap[b]? with
    | none => simp
    | some o => cases o <;> simp

theorem shape_fit (hsp : ∀ b, spare b = true) : ∀ (n : Nat) (t : TypeId) (s : Sh), shape P n t = some s → ∀ (fuel : Nat) (cs : List Value) (x : DataW H × List MemPlace), DataW.trod enc P w base spare held fuel t cs = some x → Fit w s cs
  | 0, _, _, h, _, _, _, _ => by simp [shape] at h
  | n + 1, t, s, h, fuel, cs, x, hx => by
    have hc := shape_cells h
    unfold shape at h
    obtain ⟨s', h1, h2⟩ := Option.bind_eq_some_iff.1 h
    split at h2
    case isFalse => cases h2
    case isTrue hcc =>
    cases h2
    split at h1
    · rename_i hu
      cases h1
      obtain ⟨b, rfl, _⟩ := DataW.trod_bool hu hx
      exact ⟨b, rfl⟩
    · rename_i k hu
      cases h1
      obtain ⟨m, rfl, _, hw⟩ := DataW.trod_int hu hx
      exact ⟨m, rfl, hw⟩
    · rename_i e hu
      obtain ⟨se, he, rfl⟩ := Option.map_eq_some_iff.1 h1
      have hce := shape_cells he
      rcases DataW.trod_slice hu hx with ⟨rfl, _⟩ | ⟨a, len, cap, elems, rest, m, _, rfl, _, hb, hlc, hcm, hel, hev, hrest, _⟩
      · exact ⟨none, 0, 0, [], rfl, Nat.le_refl _, Nat.zero_le _, fun _ => ⟨rfl, rfl⟩, rfl, by simp, fun _ => ⟨fun i r hr => by simp at hr, fun h => absurd h (Nat.lt_irrefl _)⟩⟩
      · have hrow : ∀ i, i < len → ∃ r, w.cells? base (a.add (i * se.size)) se.size = some r ∧ Fit w se r := by
          intro i hi
          have h3 := hev i hi
          rw [hce] at h3
          have h4 : (elems[i]?).isSome := by simp [hel, hi]
          rw [← h3] at h4
          obtain ⟨y, hy⟩ := Option.isSome_iff_exists.1 h4
          obtain ⟨r, hr, hy2⟩ := Option.bind_eq_some_iff.1 hy
          exact ⟨r, hr, shape_fit hsp n e se he _ _ _ hy2⟩
        obtain ⟨f, hf⟩ := Deep.choose_lt hrow
        refine ⟨some a, len, cap, (List.range len).map f, rfl, hlc, hcm, by simp, by simp, ?_, ?_⟩
        · intro r hr
          obtain ⟨i, hi, rfl⟩ := List.mem_map.1 hr
          exact (hf i (by simpa using hi)).2
        · intro hpos
          refine ⟨?_, fun hcap => ?_⟩
          rotate_left
          · obtain ⟨hrl, hrest⟩ := hrest (hsp _)
            rcases Nat.eq_zero_or_pos len with h0 | h0
            · subst h0
              have h3 := hrest 0 (by omega)
              have h4 : (rest[0]?).isSome := by simp [hrl, hcap]
              rw [← h3] at h4
              obtain ⟨y, hy⟩ := Option.isSome_iff_exists.1 h4
              obtain ⟨r, hr, _⟩ := Option.bind_eq_some_iff.1 hy
              obtain ⟨hlen0, hcell0⟩ := cells_at hr
              have h00 : 0 < r.length := by rw [hlen0, hce]; exact hpos
              have hc0 := hcell0 0 _ (List.getElem?_eq_getElem h00)
              have hform := addr_form hc0
              have hlt := World.block_lt_of_cell? w _ hc0
              simp [Addr.add] at hform hlt
              exact ⟨a.block, a.off, by rw [← hform], hlt⟩
            · obtain ⟨hlen0, hcell0⟩ := cells_at (hf 0 h0).1
              have h00 : 0 < (f 0).length := by omega
              have hc0 := hcell0 0 _ (List.getElem?_eq_getElem h00)
              have hform := addr_form hc0
              have hlt := World.block_lt_of_cell? w _ hc0
              simp [Addr.add] at hform hlt
              exact ⟨a.block, a.off, by rw [← hform], hlt⟩
          intro i r hr
          have hi : i < len := by have := (List.getElem?_eq_some_iff.1 hr).1; simpa using this
          have hr2 : f i = r := by simpa [hi] using hr
          subst hr2
          obtain ⟨hlen, hcell⟩ := cells_at (hf i hi).1
          have h0 : 0 < (f i).length := by omega
          have hc0 := hcell 0 _ (List.getElem?_eq_getElem h0)
          have hform := addr_form hc0
          have ha : a = ⟨a.block, a.off, none⟩ := by
            obtain ⟨hlen0, hcell0⟩ := cells_at (hf 0 (by omega)).1
            have h00 : 0 < (f 0).length := by omega
            have := addr_form (hcell0 0 _ (List.getElem?_eq_getElem h00))
            simpa [Addr.add] using this
          refine ⟨a.block, a.off, by rw [← ha], ?_, ?_⟩
          · have := World.block_lt_of_cell? w _ hc0
            simpa [Addr.add, apply_ite] using this
          · intro j u hu
            have := hcell j u hu
            rw [ha, Addr.add_lit, Addr.add_lit] at this
            rw [← Nat.add_assoc]
            exact this
    · rename_i fs hu
      obtain ⟨xs, m, _, _, hl, hxl, hf⟩ := DataW.trod_struct hu hx
      have := fields_fit (w := w) (P := P) (cs := cs) (sh := shape P n) (tr := fun t c => ∃ y, DataW.trod enc P w base spare held m t c = some y) (fun t s h => shape_cells h) (fun t s c h1 h2 => by obtain ⟨y, hy⟩ := h2; exact shape_fit hsp n t s h1 _ _ _ hy)
        fs.toList 0 s h1 (fun f hfm => by
          obtain ⟨i, hi⟩ := List.mem_iff_getElem?.1 hfm
          have h3 := hf i f (by simpa using hi)
          have hlt : i < fs.size := by have := (List.getElem?_eq_some_iff.1 hi).1; simpa using this
          exact ⟨xs[i]'(by omega), by rw [h3]; exact List.getElem?_eq_getElem _⟩) (by omega)
      rwa [List.drop_zero, List.take_of_length_le (by omega)] at this
    · rename_i m e hu
      obtain ⟨se, he, rfl⟩ := Option.map_eq_some_iff.1 h1
      have hce := shape_cells he
      obtain ⟨xs, q, _, _, hl, hxl, hf⟩ := DataW.trod_array hu hx
      have := rep_fit (w := w) (e := se) (cs := cs) m (fun i hi => by
        have h3 := hf i hi
        rw [hce] at h3
        exact shape_fit hsp n e se he _ _ (xs[i]'(by omega)) (by rw [h3]; exact List.getElem?_eq_getElem _)) m 0 (by omega)
      rwa [Nat.zero_mul, List.drop_zero, List.take_of_length_le (by omega)] at this
    · cases h1
end

/-- The kind of a plain type without slices. -/
def kSh : Sh → K
  | .int k => .int k
  | .bool => .bool
  | .unit => .raw
  | .slice _ => .raw
  | .pair a .unit => kSh a
  | .pair a b => .pair (kSh a) (kSh b)
def flat : Sh → Bool
  | .int _ => true
  | .bool => true
  | .unit => false
  | .slice _ => false
  | .pair a .unit => flat a
  | .pair a b => flat a && flat b
def okK : (k : K) → ty k → Prop
  | .int k, x => (Lit.int k x).wf = true
  | .bool, _ => True
  | .unit, _ => True
  | .pair a b, x => okK a x.1 ∧ okK b x.2
  | .raw, _ => True
theorem flat_size : ∀ {s : Sh}, flat s = true → s.size = (kSh s).size ∧ 0 < s.size
  | .int _, _ => ⟨rfl, Nat.one_pos⟩
  | .bool, _ => ⟨rfl, Nat.one_pos⟩
  | .unit, h => by cases h
  | .slice _, h => by cases h
  | .pair a b, h => by
    cases b with
    | unit => have := flat_size (s := a) h; simpa [Sh.size, kSh] using this
    | int k => have := flat_size (s := a) (by simpa [flat] using h); exact ⟨by simp [Sh.size, kSh, K.size, this.1], by simp [Sh.size]⟩
    | bool => have := flat_size (s := a) (by simpa [flat] using h); exact ⟨by simp [Sh.size, kSh, K.size, this.1], by simp [Sh.size]⟩
    | slice e => simp [flat] at h
    | pair c d =>
      have h' : flat a = true ∧ flat (.pair c d) = true := by simpa [flat] using h
      have h1 := flat_size h'.1
      have h2 := flat_size h'.2
      refine ⟨?_, ?_⟩
      · show a.size + (Sh.pair c d).size = (K.pair (kSh a) (kSh (.pair c d))).size
        rw [h1.1, h2.1]; rfl
      · show 0 < a.size + (Sh.pair c d).size; omega
theorem flat_dat {w : World} : ∀ {s : Sh} {cs : List Value}, flat s = true → Fit w s cs → ∃ x : ty (kSh s), (∀ ρ, DenL ρ (enc (kSh s) x) cs) ∧ okK (kSh s) x ∧ ∀ v ∈ cs, v.oneCell' = true
  | .int k, cs, _, h => by obtain ⟨n, rfl, hw⟩ := h; exact ⟨n, fun ρ => ⟨_, [], rfl, rfl, rfl⟩, hw, by simp [Value.oneCell']⟩
  | .bool, cs, _, h => by obtain ⟨b, rfl⟩ := h; exact ⟨b, fun ρ => ⟨_, [], rfl, rfl, rfl⟩, trivial, by simp [Value.oneCell']⟩
  | .unit, _, h, _ => by cases h
  | .slice _, _, h, _ => by cases h
  | .pair a b, cs, h, hf => by
    obtain ⟨c1, c2, rfl, h1, h2⟩ := hf
    have two : flat a = true → flat b = true → ∃ (x : ty (.pair (kSh a) (kSh b))), (∀ ρ, DenL ρ (enc (.pair (kSh a) (kSh b)) x) (c1 ++ c2)) ∧ okK (.pair (kSh a) (kSh b)) x ∧ ∀ v ∈ c1 ++ c2, v.oneCell' = true := by
      intro ha hb
      obtain ⟨x, d1, o1, e1⟩ := flat_dat ha h1
      obtain ⟨y, d2, o2, e2⟩ := flat_dat hb h2
      refine ⟨(x, y), fun ρ => app_enc (d1 ρ) (d2 ρ), ⟨o1, o2⟩, fun v hv => ?_⟩
      rcases List.mem_append.1 hv with hv | hv
      · exact e1 v hv
      · exact e2 v hv
    cases b with
    | unit =>
      obtain ⟨x, d1, o1, e1⟩ := flat_dat (s := a) h h1
      simp only [Fit] at h2
      subst h2
      refine ⟨x, fun ρ => by rw [List.append_nil]; exact d1 ρ, o1, by simpa using e1⟩
    | int k => exact two (by simpa [flat] using h) rfl
    | bool => exact two (by simpa [flat] using h) rfl
    | slice e => simp [flat] at h
    | pair c d =>
      have h' : flat a = true ∧ flat (.pair c d) = true := by simpa [flat] using h
      exact two h'.1 h'.2

/-- The data of an argument. -/
def dat : Sh → Type
  | .int _ => Int
  | .bool => Bool
  | .unit => Unit
  | .pair a b => dat a × dat b
  | .slice e => List (ty (kSh e))
def good : Sh → Bool
  | .int _ => true
  | .bool => true
  | .unit => true
  | .pair a b => good a && good b
  | .slice e => flat e
def datOk : (s : Sh) → dat s → Prop
  | .int k, x => (Lit.int k x).wf = true
  | .bool, _ => True
  | .unit, _ => True
  | .pair a b, x => datOk a x.1 ∧ datOk b x.2
  | .slice e, (x : List (ty (kSh e))) => x.length ≤ maxLen ∧ ∀ y ∈ x, okK (kSh e) y
def opnO : (s : Sh) → dat s → List AObj
  | .pair a b, x => opnO a x.1 ++ opnO b x.2
  | .slice e, (x : List (ty (kSh e))) => [.tab false (kSh e) x]
  | _, _ => []
def cnt : Sh → Nat
  | .pair a b => cnt a + cnt b
  | .slice _ => 1
  | _ => 0
def opnC : (s : Sh) → dat s → Nat → List AV
  | .int k, x, _ => [.int k x]
  | .bool, x, _ => [.bool x]
  | .unit, _, _ => []
  | .pair a b, x, n => app (opnC a x.1 n) (opnC b x.2 (n + cnt a))
  | .slice e, (x : List (ty (kSh e))), n => [.slice n 0 x.length]
theorem opnO_len : ∀ (s : Sh) (d : dat s), (opnO s d).length = cnt s
  | .int _, _ => rfl
  | .bool, _ => rfl
  | .unit, _ => rfl
  | .pair a b, x => by show (opnO a x.1 ++ opnO b x.2).length = cnt a + cnt b; rw [List.length_append, opnO_len a, opnO_len b]
  | .slice _, _ => rfl
/-- An argument that reads as data, opened. -/
structure Opened (w : World) (s : Sh) (cs : List Value) (d : dat s) (ls : List Loc) : Prop where
  len : ls.length = cnt s
  ok : datOk s d
  den : ∀ (n : Nat) (ρ : Rho), (∀ (i : Nat) (l : Loc), ls[i]? = some l → ρ (n + i) = some l) → DenL ρ (opnC s d n) cs
  obj : ∀ (ρ : Rho) (i : Nat) (o : AObj) (l : Loc), (opnO s d)[i]? = some o → ls[i]? = some l → ObjRel w.heap.size ρ w l o ∧ ∃ k xs, o = .tab false k xs
theorem open_fit {w : World} : ∀ {s : Sh} {cs : List Value}, good s = true → Fit w s cs → ∃ d ls, Opened w s cs d ls
  | .int k, cs, _, h => by obtain ⟨n, rfl, hw⟩ := h; exact ⟨n, [], rfl, hw, fun _ _ _ => ⟨_, [], rfl, rfl, rfl⟩, fun _ i o l h => by simp [opnO] at h⟩
  | .bool, cs, _, h => by obtain ⟨b, rfl⟩ := h; exact ⟨b, [], rfl, trivial, fun _ _ _ => ⟨_, [], rfl, rfl, rfl⟩, fun _ i o l h => by simp [opnO] at h⟩
  | .unit, cs, _, h => by simp only [Fit] at h; subst h; exact ⟨(), [], rfl, trivial, fun _ _ _ => rfl, fun _ i o l h => by simp [opnO] at h⟩
  | .pair a b, cs, hg, h => by
    have hg' : good a = true ∧ good b = true := by simpa [good] using hg
    obtain ⟨c1, c2, rfl, h1, h2⟩ := h
    obtain ⟨d1, l1, o1⟩ := open_fit hg'.1 h1
    obtain ⟨d2, l2, o2⟩ := open_fit hg'.2 h2
    refine ⟨(d1, d2), l1 ++ l2, by simp [cnt, o1.len, o2.len], ⟨o1.ok, o2.ok⟩, fun n ρ hρ => ?_, fun ρ i o l ho hl => ?_⟩
    · refine app_enc (o1.den n ρ fun i l hi => hρ i l ?_) (o2.den (n + cnt a) ρ fun i l hi => ?_)
      · rw [List.getElem?_append_left (List.getElem?_eq_some_iff.1 hi).1]; exact hi
      · have := hρ (cnt a + i) l (by rw [List.getElem?_append_right (by rw [o1.len]; omega), o1.len]; simpa using hi)
        rwa [← Nat.add_assoc] at this
    · simp only [opnO] at ho
      by_cases hi : i < cnt a
      · rw [List.getElem?_append_left (by rw [opnO_len]; exact hi)] at ho
        rw [List.getElem?_append_left (by rw [o1.len]; exact hi)] at hl
        exact o1.obj ρ i o l ho hl
      · rw [List.getElem?_append_right (by rw [opnO_len]; omega), opnO_len] at ho
        rw [List.getElem?_append_right (by rw [o1.len]; omega), o1.len] at hl
        exact o2.obj ρ _ o l ho hl
  | .slice e, cs, hg, h => by
    obtain ⟨a, len, cap, rows, rfl, h1, h2, h3, h4, h5, h6⟩ := h
    have hfl : flat e = true := hg
    obtain ⟨hsz, hpos⟩ := flat_size hfl
    obtain ⟨h6, h7⟩ := h6 hpos
    -- the rows as data
    have hrows : ∀ rows : List (List Value), (∀ r ∈ rows, Fit w e r) → ∃ xs : List (ty (kSh e)), xs.length = rows.length ∧ (∀ y ∈ xs, okK (kSh e) y) ∧ ∀ (i : Nat) (x : ty (kSh e)) (r : List Value), xs[i]? = some x → rows[i]? = some r → (∀ ρ, DenL ρ (enc (kSh e) x) r) ∧ ∀ v ∈ r, v.oneCell' = true := by
      intro rows
      induction rows with
      | nil => intro _; exact ⟨[], rfl, by simp, fun i x r h => by simp at h⟩
      | cons r rows ih =>
        intro hr
        obtain ⟨xs, e1, e2, e3⟩ := ih fun r' hr' => hr r' (by simp [hr'])
        obtain ⟨x, f1, f2, f3⟩ := flat_dat hfl (hr r (by simp))
        refine ⟨x :: xs, by simp [e1], by simpa using ⟨f2, e2⟩, fun i y r' hi hr' => ?_⟩
        cases i with
        | zero => cases hi; cases hr'; exact ⟨f1, f3⟩
        | succ i => exact e3 i y r' (by simpa using hi) (by simpa using hr')
    obtain ⟨xs, e1, e2, e3⟩ := hrows rows h5
    have hlen : xs.length = len := by rw [e1, h4]
    have hcap : cap ≤ maxLen := h2
    rcases Nat.eq_zero_or_pos cap with h0 | h0
    · subst h0
      have hl0 : len = 0 := by omega
      subst hl0
      have hx0 : xs = [] := List.eq_nil_of_length_eq_zero hlen
      subst hx0
      refine ⟨([] : List (ty (kSh e))), [⟨0, 0, (kSh e).size, 0⟩], rfl, ⟨by simp, by simp⟩, fun n ρ hρ => ?_, fun ρ i o l ho hl => ?_⟩
      · have := hρ 0 _ rfl
        exact ⟨_, [], rfl, ⟨⟨0, 0, (kSh e).size, 0⟩, a, 0, by simpa using this, rfl, Nat.le_refl _, by simp, fun h => absurd h (Nat.lt_irrefl _)⟩, rfl⟩
      · cases i with
        | zero =>
          cases ho; cases hl
          exact ⟨⟨rfl, Nat.le_refl _, fun j x hj => by simp at hj, fun h => absurd h (Nat.lt_irrefl _)⟩, _, _, rfl⟩
        | succ i => simp [opnO] at ho
    · obtain ⟨b, off, rfl, hb⟩ := h7 h0
      refine ⟨xs, [⟨b, off, (kSh e).size, cap⟩], rfl, ⟨by rw [hlen]; omega, e2⟩, fun n ρ hρ => ?_, fun ρ i o l ho hl => ?_⟩
      · have := hρ 0 _ rfl
        refine ⟨_, [], rfl, ⟨⟨b, off, (kSh e).size, cap⟩, some ⟨b, off, none⟩, cap, by simpa using this, ?_, ?_, by simp, fun _ => by simp⟩, rfl⟩
        · rw [hlen]
        · rw [hlen]; exact h1
      · cases i with
        | zero =>
          cases ho; cases hl
          refine ⟨⟨rfl, by show xs.length ≤ cap; omega, fun j x hj => ?_, fun _ => hb⟩, _, _, rfl⟩
          have hj' : j < rows.length := by have := (List.getElem?_eq_some_iff.1 hj).1; omega
          obtain ⟨g1, g2⟩ := e3 j x rows[j] hj (by simp [hj'])
          refine ⟨rows[j], g1 ρ, g2, fun i v hv => ?_⟩
          obtain ⟨b', off', he, _, hcell⟩ := h6 j rows[j] (by simp [hj'])
          cases he
          have := hcell i v hv
          rw [hsz] at this
          rwa [Nat.add_assoc]
        | succ i => simp [opnO] at ho

/-- All arguments of a law. -/
def FitArgs (w : World) : List (Bool × Sh) → List Value → Prop
  | [], vs => vs = []
  | (true, s) :: ss, vs => ∃ c vs', vs = .agg c :: vs' ∧ Fit w s c.toList ∧ FitArgs w ss vs'
  | (false, s) :: ss, vs => ∃ v vs', vs = v :: vs' ∧ Fit w s [v] ∧ FitArgs w ss vs'
def dats : List (Bool × Sh) → Type
  | [] => Unit
  | (_, s) :: ss => dat s × dats ss
def datsOk : (ss : List (Bool × Sh)) → dats ss → Prop
  | [], _ => True
  | (_, s) :: ss, d => datOk s d.1 ∧ datsOk ss d.2
def oneV : List AV → AV
  | [v] => v
  | _ => .any
def argsOf : (ss : List (Bool × Sh)) → dats ss → Nat → List AV
  | [], _, _ => []
  | (true, s) :: ss, d, n => .agg (opnC s d.1 n) :: argsOf ss d.2 (n + cnt s)
  | (false, s) :: ss, d, n => oneV (opnC s d.1 n) :: argsOf ss d.2 (n + cnt s)
def objsOf : (ss : List (Bool × Sh)) → dats ss → List AObj
  | [], _ => []
  | (_, s) :: ss, d => opnO s d.1 ++ objsOf ss d.2
def cnts : List (Bool × Sh) → Nat
  | [] => 0
  | (_, s) :: ss => cnt s + cnts ss
def goods : List (Bool × Sh) → Bool
  | [] => true
  | (_, s) :: ss => good s && goods ss
theorem objsOf_len : ∀ (ss : List (Bool × Sh)) (d : dats ss), (objsOf ss d).length = cnts ss
  | [], _ => rfl
  | (_, s) :: ss, d => by show (opnO s d.1 ++ objsOf ss d.2).length = cnt s + cnts ss; rw [List.length_append, opnO_len, objsOf_len ss]
structure OpenedA (w : World) (ss : List (Bool × Sh)) (vs : List Value) (d : dats ss) (ls : List Loc) : Prop where
  len : ls.length = cnts ss
  ok : datsOk ss d
  den : ∀ (n : Nat) (ρ : Rho), (∀ (i : Nat) (l : Loc), ls[i]? = some l → ρ (n + i) = some l) → DenL ρ (argsOf ss d n) vs
  obj : ∀ (ρ : Rho) (i : Nat) (o : AObj) (l : Loc), (objsOf ss d)[i]? = some o → ls[i]? = some l → ObjRel w.heap.size ρ w l o ∧ ∃ k xs, o = .tab false k xs
theorem oneV_den {ρ : Rho} {l : List AV} {v : Value} (h : DenL ρ l [v]) : Den ρ (oneV l) v := by
  match l, h with
  | [], h => cases h
  | [a], h => obtain ⟨_, _, he, h1, _⟩ := h; cases he; exact h1
  | _ :: _ :: _, h => trivial
theorem open_args {w : World} : ∀ {ss : List (Bool × Sh)} {vs : List Value}, goods ss = true → FitArgs w ss vs → ∃ d ls, OpenedA w ss vs d ls
  | [], vs, _, h => ⟨(), [], rfl, trivial, fun _ _ _ => h, fun _ i o l h => by simp [objsOf] at h⟩
  | (ag, s) :: ss, vs, hg, h => by
    have hg' : good s = true ∧ goods ss = true := by simpa [goods] using hg
    have key : ∀ (v : Value) (vs' cs : List Value), Fit w s cs → FitArgs w ss vs' → (∀ ρ (l : List AV), DenL ρ l cs → Den ρ (match ag with | true => .agg l | false => oneV l) v) → ∃ d ls, OpenedA w ((ag, s) :: ss) (v :: vs') d ls := by
      intro v vs' cs h1 h2 h3
      obtain ⟨d1, l1, o1⟩ := open_fit hg'.1 h1
      obtain ⟨d2, l2, o2⟩ := open_args hg'.2 h2
      refine ⟨(d1, d2), l1 ++ l2, by simp [cnts, o1.len, o2.len], ⟨o1.ok, o2.ok⟩, fun n ρ hρ => ?_, fun ρ i o l ho hl => ?_⟩
      · have e1 := h3 ρ _ (o1.den n ρ fun i l hi => hρ i l (by rw [List.getElem?_append_left (List.getElem?_eq_some_iff.1 hi).1]; exact hi))
        have e2 := o2.den (n + cnt s) ρ fun i l hi => by
          have := hρ (cnt s + i) l (by rw [List.getElem?_append_right (by rw [o1.len]; omega), o1.len]; simpa using hi)
          rwa [← Nat.add_assoc] at this
        cases ag <;> exact ⟨_, _, rfl, e1, e2⟩
      · simp only [objsOf] at ho
        by_cases hi : i < cnt s
        · rw [List.getElem?_append_left (by rw [opnO_len]; exact hi)] at ho
          rw [List.getElem?_append_left (by rw [o1.len]; exact hi)] at hl
          exact o1.obj ρ i o l ho hl
        · rw [List.getElem?_append_right (by rw [opnO_len]; omega), opnO_len] at ho
          rw [List.getElem?_append_right (by rw [o1.len]; omega), o1.len] at hl
          exact o2.obj ρ _ o l ho hl
    cases ag with
    | true =>
      obtain ⟨c, vs', rfl, h1, h2⟩ := h
      exact key _ _ _ h1 h2 fun ρ l hl => ⟨c, rfl, hl⟩
    | false =>
      obtain ⟨v, vs', rfl, h1, h2⟩ := h
      exact key _ _ _ h1 h2 fun ρ l hl => oneV_den hl
theorem okWide_arr {P : Program} {w : World} {r : Reach} {base : Nat} {t : TypeId} {v : Value} {m : Nat} {e : TypeId} (ht : P.underlying t = some (.array m e)) (h : Value.okWide P w r base t v) : ∃ cs, v = .agg cs ∧ cs.size = P.cellsOf t := by
  unfold Value.okWide at h
  rw [ht] at h
  obtain ⟨cs, h1, h2, _⟩ := h
  exact ⟨cs, h1, h2⟩
theorem maxLen_le {n : Nat} (h : n ≤ maxLen) : n ≤ 9223372036854775807 := h
def gones : Nat → List AObj
  | 0 => []
  | n + 1 => .gone :: gones n
/-- A law's contract is what its row wants. -/
theorem law_walk {E : Env} {f : FuncId} {W : World} {ss : List (Bool × Sh)} {vs : List Value} (hg : goods ss = true) (hf : FitArgs W ss vs) (hG : RelG E.gc W.heap.size W)
    (h : ∀ d, datsOk ss d → Tri E f (argsOf ss d 0) (objsOf ss d) (.bl true) (gones (cnts ss))) : Calls E.P f vs.toArray W fun e W' => e = .returned (.bool true) ∧ Below W.heap.size W W' := by
  obtain ⟨d, ls, o⟩ := open_args hg hf
  have hlen := objsOf_len ss d
  have hget : ∀ i o', (hp (objsOf ss d)).get i = o' → o' ≠ .gone → ∃ l, ls[i]? = some l ∧ (objsOf ss d)[i]? = some o' := by
    intro i o' he hne
    rw [hp_get] at he
    obtain ⟨o2, h1, h2⟩ := getD_some (by rw [he]; exact hne)
    have hlt : i < ls.length := by rw [o.len, ← hlen]; exact (List.getElem?_eq_some_iff.1 h1).1
    exact ⟨ls[i], by simp [hlt], by rw [h1, ← he, h2]⟩
  have hno : ∀ i l b, ¬ Foot l ((hp (objsOf ss d)).get i) b := by
    intro i l b ho
    obtain ⟨l', h1, h2⟩ := hget i _ rfl ho.ne
    obtain ⟨_, k, xs, he⟩ := o.obj (fun i => ls[i]?) i _ l' h2 h1
    rw [he] at ho
    cases (ho.small rfl).1.1
  have hrel : RelH W.heap.size (fun i => ls[i]?) (hp (objsOf ss d)) W := by
    refine ⟨fun i hi => ?_, fun i j li lj q hij h1 h2 h3 => absurd h3 (hno i li q), fun i hi => ?_, Nat.le_refl _⟩
    · obtain ⟨l, h1, h2⟩ := hget i _ rfl hi
      exact ⟨l, h1, (o.obj _ i _ l h2 h1).1⟩
    · rw [hp_n] at hi
      refine ⟨?_, ?_⟩
      · simp only [List.getElem?_eq_none_iff]; rw [o.len, ← hlen]; exact hi
      · rw [hp_get]; simp [List.getD, hi]
  refine ((h d o.ok).run W.heap.size (fun i => ls[i]?) W vs hrel hG (o.den 0 _ fun i l hi => by rw [Nat.zero_add]; exact hi)).mono fun e w' hp => ?_
  obtain ⟨ρ', u, rfl, hv, _, hk, _⟩ := hp
  simp only [Den] at hv
  refine ⟨by rw [hv], hk.os, hk.tape, hk.output, hk.size, fun b hb => hk.block b hb ?_⟩
  rintro ⟨i, l, _, ho⟩
  exact hno i l b ho
theorem relG_nil (B : Nat) (w : World) : RelG [] B w := fun g cs h => by simp [lookO] at h

/-- A slice without elements: nil, or not. -/
theorem Tri.slice0 {E : Env} {f : FuncId} {pre post : List AV} {i o : Nat} {os os' : List AObj} {v : AV} (h1 : Tri E f (app pre (.nilslice :: post)) os v os') (h2 : Tri E f (app pre (.eslice :: post)) os v os') : Tri E f (app pre (.slice i o 0 :: post)) os v os' := by
  refine ⟨h1.enters, fun B ρ w vs hH hg hd => ?_⟩
  obtain ⟨v1, v2, rfl, hp, x, v3, rfl, hx, hq⟩ := enc_app hd
  obtain ⟨l, a, cap, hl, rfl, hn, hroom, hadr⟩ := hx
  cases a with
  | none =>
    have : cap = 0 := by
      rcases Nat.eq_zero_or_pos cap with h0 | h0
      · exact h0
      · have := hadr h0; cases this
    subst this
    exact h1.run B ρ w _ hH hg (app_enc hp ⟨_, _, rfl, rfl, hq⟩)
  | some a => exact h2.run B ρ w _ hH hg (app_enc hp ⟨_, _, rfl, ⟨a, cap, rfl⟩, hq⟩)
/-- A row with room for nothing lies anywhere. -/
theorem RelH.room0 {B : Nat} {ρ : Rho} {w : World} {os : List AObj} (h : RelH B ρ (hp os) w) (k : K) : RelH B (upd ρ os.length ⟨0, 0, k.size, 0⟩) (hp (os ++ [.tab true k []])) w := by
  have hn := hp_n os
  have hg : ∀ i, (hp (os ++ [.tab true k []])).get i = if i = os.length then .tab true k [] else (hp os).get i := by
    intro i
    rw [hp_get, hp_get]
    simp only [List.getD, List.getElem?_append]
    by_cases h1 : i < os.length
    · rw [if_pos h1, if_neg (by omega)]
    · rw [if_neg h1]
      by_cases h2 : i = os.length
      · subst h2; simp
      · rw [if_neg h2]; simp [show os.length ≤ i by omega, show i - os.length ≠ 0 by omega, List.getElem?_eq_none (l := os) (show os.length ≤ i by omega)]
  refine h.step (X := fun _ => False) (· = os.length) (Kept.refl _ _) (fun _ hb => hb.elim) ?_ (fun i hi => ⟨by rw [hg, if_neg hi], by simp [upd, hi]⟩) (fun _ _ _ _ _ _ hb => hb) ?_ ?_ ?_
  · have := upd_mono h ⟨0, 0, k.size, 0⟩; rwa [hn] at this
  · rintro i rfl _
    refine ⟨_, upd_self .., ?_, fun b h1 => ?_⟩
    · rw [hg, if_pos rfl]; exact ⟨rfl, Nat.le_refl _, fun j x hj => by simp at hj, fun h => absurd h (Nat.lt_irrefl 0)⟩
    · rw [hg, if_pos rfl] at h1; exact absurd (h1.small rfl).1.2 (Nat.lt_irrefl 0)
  · rintro i j li lj b rfl rfl hij; exact absurd rfl hij
  · intro i hi
    have hi : os.length + 1 ≤ i := by have := hp_n (os ++ [.tab true k []]); simp at this; omega
    have hne : i ≠ os.length := by omega
    rw [hg, if_neg hne]
    simp only [upd, if_neg hne]
    exact h.fresh i (by omega)
theorem Blks.room0 {B : Nat} {ρ : Rho} {w : World} {os : List AObj} (h : RelH B ρ (hp os) w) (k : K) {b : Nat} (hb : Blks (upd ρ os.length ⟨0, 0, k.size, 0⟩) (hp (os ++ [.tab true k []])) b) : Blks ρ (hp os) b := by
  obtain ⟨i, l, h1, h2⟩ := hb
  by_cases hi : i = os.length
  · subst hi
    rw [upd_self] at h1; cases h1
    rw [hp_get] at h2; simp only [List.getD, List.getElem?_append, Nat.lt_irrefl, if_false, Nat.sub_self, List.getElem?_cons_zero, Option.getD_some] at h2
    exact absurd (h2.small rfl).1.2 (Nat.lt_irrefl 0)
  · simp only [upd, if_neg hi] at h1
    refine ⟨i, l, h1, ?_⟩
    have hlt : i < os.length := by
      apply Classical.byContradiction; intro hn
      have := (h.fresh i (by rw [hp_n]; omega)).1
      rw [h1] at this; cases this
    rw [hp_get] at h2 ⊢
    simpa [List.getD, List.getElem?_append, hlt] using h2
/-- An object says another thing of what lies there. -/
theorem RelH.say {B : Nat} {ρ : Rho} {w : World} {a b : List AObj} {o o' : AObj} (h : RelH B ρ (hp (a ++ o :: b)) w) (hr : ∀ l, ObjRel B ρ w l o → ObjRel B ρ w l o') (ho : ∀ l, Owned l o' → Owned l o) (hne : o ≠ .gone) (hnb : isBig o' = false := by rfl) : RelH B ρ (hp (a ++ o' :: b)) w := by
  have hg : ∀ (x : AObj) i, (hp (a ++ x :: b)).get i = if i = a.length then x else (hp (a ++ o :: b)).get i := by
    intro x i
    rw [hp_get, hp_get]
    simp only [List.getD, List.getElem?_append]
    by_cases h1 : i < a.length
    · rw [if_pos h1, if_neg (by omega), if_pos h1]
    · rw [if_neg h1, if_neg h1]
      by_cases h2 : i = a.length
      · subst h2; simp
      · obtain ⟨j, hj⟩ : ∃ j, i - a.length = j + 1 := ⟨i - a.length - 1, by omega⟩
        rw [if_neg h2, hj]; rfl
  refine ⟨fun i hi => ?_, fun i j li lj q hij h1 h2 h3 h4 => ?_, fun i hi => ?_, h.bound⟩
  · rw [hg] at hi ⊢
    by_cases he : i = a.length
    · subst he
      rw [if_pos rfl]
      obtain ⟨l, h1, h2⟩ := h.obj a.length (by rw [hg o, if_pos rfl]; exact hne)
      rw [hg o, if_pos rfl] at h2
      exact ⟨l, h1, hr l h2⟩
    · rw [if_neg he] at hi ⊢; exact h.obj i hi
  · have key : ∀ i l, Foot l ((hp (a ++ o' :: b)).get i) q → Foot l ((hp (a ++ o :: b)).get i) q := by
      intro i l hO
      rw [hg] at hO
      by_cases he : i = a.length
      · subst he; rw [if_pos rfl] at hO; rw [hg o, if_pos rfl]; exact foot_of hnb (ho l) hO
      · rwa [if_neg he] at hO
    exact h.sepF i j li lj q hij h1 h2 (key _ _ h3) (key _ _ h4)
  · have hn : (hp (a ++ o :: b)).n ≤ i := by rw [hp_n] at hi ⊢; simpa using hi
    have h1 := h.fresh i hn
    refine ⟨h1.1, ?_⟩
    rw [hg, if_neg (by rw [hp_n] at hi; simp at hi; omega)]
    exact h1.2
theorem Blks.say {ρ : Rho} {a b : List AObj} {o o' : AObj} (ho : ∀ l, Owned l o' → Owned l o) {q : Nat} (hb : Blks ρ (hp (a ++ o' :: b)) q) (hnb : isBig o' = false := by rfl) : Blks ρ (hp (a ++ o :: b)) q := by
  obtain ⟨i, l, h1, h2⟩ := hb
  refine ⟨i, l, h1, ?_⟩
  rw [hp_get] at h2 ⊢
  simp only [List.getD, List.getElem?_append] at h2 ⊢
  by_cases hi : i < a.length
  · rw [if_pos hi] at h2 ⊢; exact h2
  · rw [if_neg hi] at h2 ⊢
    cases hj : i - a.length with
    | zero => rw [hj] at h2; exact foot_of hnb (ho l) h2
    | succ j => rw [hj] at h2; exact h2
theorem den_nil0 {ρ : Rho} {j : Nat} {l : Loc} (h : ρ j = some l) : Den ρ (.slice j 0 0) (.slice none 0 0) := ⟨l, none, 0, h, rfl, Nat.le_refl _, Nat.zero_le _, fun h => absurd h (Nat.lt_irrefl 0)⟩
theorem denL_nil0 {ρ : Rho} {j : Nat} {l : Loc} (h : ρ j = some l) : ∀ {p q : List AV} {vs : List Value}, DenL ρ (p ++ .nilslice :: q) vs → DenL ρ (p ++ .slice j 0 0 :: q) vs
  | [], _, _, hd => by obtain ⟨v, vs', rfl, h1, h2⟩ := hd; simp only [Den] at h1; subst h1; exact ⟨_, _, rfl, den_nil0 h, h2⟩
  | _ :: p, _, _, hd => by obtain ⟨v, vs', rfl, h1, h2⟩ := hd; exact ⟨v, vs', rfl, h1, denL_nil0 (p := p) h h2⟩
/-- A slice that is nil, in a cell of what a call leaves: a row without elements, which may grow. -/
theorem Tri.nilCell {E : Env} {f : FuncId} {args : List AV} {os : List AObj} {v : AV} {pre post : List AObj} {cp cq : List AV} (k : K) (h : Tri E f args os v (pre ++ .cells (cp ++ .nilslice :: cq) :: post)) (hlen : os.length ≤ (pre ++ .cells (cp ++ .nilslice :: cq) :: post).length) :
    Tri E f args os v ((pre ++ .cells (cp ++ .slice (pre.length + (post.length + 1)) 0 0 :: cq) :: post) ++ [.tab true k []]) := by
  refine ⟨h.enters, fun B ρ w vs hH hg hd => (h.run B ρ w vs hH hg hd).mono fun e w' hp => ?_⟩
  obtain ⟨ρ', u, rfl, hv, hr, hk, hb, hs⟩ := hp
  have hn : (pre ++ AObj.cells (cp ++ .nilslice :: cq) :: post).length = pre.length + (post.length + 1) := by simp
  have hm := upd_mono hr ⟨0, 0, k.size, 0⟩
  rw [hp_n] at hm
  have h0 := hr.room0 k
  rw [List.append_assoc, List.cons_append] at h0
  refine ⟨_, u, rfl, hv.mono hm, ?_, hk, fun b hq => hb b ?_, fun i l hi hl => hm i l (hs i l hi hl)⟩
  · rw [List.append_assoc, List.cons_append]
    refine h0.say (fun l hl => ?_) (fun l hl => hl) (by simp)
    obtain ⟨h1, h2, bc, t, h3, h4⟩ := hl
    exact ⟨h1, h2, bc, t, h3, denL_nil0 (by rw [← hn]; exact upd_self ..) h4⟩
  · rw [List.append_assoc, List.cons_append] at hq
    have := Blks.say (o := .cells (cp ++ .nilslice :: cq)) (o' := .cells (cp ++ .slice (pre.length + (post.length + 1)) 0 0 :: cq)) (fun l hl => hl) hq
    rw [← List.cons_append, ← List.append_assoc] at this
    exact Blks.room0 hr k this
/-- So in a slot, at a loop's head. -/
theorem Goods.nilTmp {G : Frm} {todo : List Item} {tp tq : Tm} {s : Nat} {os : List AObj} (k : K) (h : Goods G ⟨.none, todo, tp ++ (s, .slice os.length 0 0) :: tq, hp (os ++ [.tab true k []])⟩) : Goods G ⟨.none, todo, tp ++ (s, .nilslice) :: tq, hp os⟩ := by
  intro B ρ0 w0 ρ a w hi ht ha
  have hm := upd_mono hi.rel ⟨0, 0, k.size, 0⟩
  rw [hp_n] at hm
  refine h B ρ0 w0 (upd ρ os.length ⟨0, 0, k.size, 0⟩) a w ⟨hi.rel.room0 k, hi.kept, fun b hb => hi.own b (Blks.room0 hi.rel k hb), fun i l h1 h2 => hm i l (hi.stable i l h1 h2), hi.glob⟩ (fun t => ?_) ha
  have := ht t
  have key : ∀ tp : Tm, Den ρ (look .any (tp ++ (s, .nilslice) :: tq) t) (a.tmps.getD t Go.undef) → Den (upd ρ os.length ⟨0, 0, k.size, 0⟩) (look .any (tp ++ (s, .slice os.length 0 0) :: tq) t) (a.tmps.getD t Go.undef) := by
    intro tp
    induction tp with
    | nil =>
      simp only [List.nil_append, look_cons]
      split
      · intro h1; simp only [Den] at h1; rw [h1]; exact den_nil0 (upd_self ..)
      · exact fun h1 => h1.mono hm
    | cons p tp ih =>
      obtain ⟨i, v⟩ := p
      simp only [List.cons_append, look_cons]
      split
      · exact fun h1 => h1.mono hm
      · exact ih
  exact key tp this
theorem Tri.bl {E : Env} {f : FuncId} {args : List AV} {os os' : List AObj} {b c : Bool} (h : Tri E f args os (.bool b) os') (e : b = c) : Tri E f args os (.bl c) os' := by
  subst e
  refine ⟨h.enters, fun B ρ w vs h1 h2 h3 => (h.run B ρ w vs h1 h2 h3).mono fun e w' hp => ?_⟩
  obtain ⟨ρ', u, h4, h5, h6⟩ := hp
  exact ⟨ρ', u, h4, by simpa [Den] using h5, h6⟩
end Go.Proofs.YtnheodgffackoaaDoor.E
