/- Several texts in one. -/
import Derived.Test.YtnheodgffackoaaDoorPhra
import Derived.Test.YtnheodgffackoaaDoorYall
import Derived.Test.YtnheodgffackoaaDoorPmap
/- HallSums: what holds at each turn of the loop, in plain. -/
namespace Go.Proofs.YtnheodgffackoaaDoor.E
set_option linter.unusedSimpArgs false
set_option linter.unusedVariables false
open Go Go.Proofs.YtnheodgffackoaaDoor.Y
set_option maxRecDepth 100000
def lc (e : LE) : Nat × Cl := (e.w, e.c)
abbrev UU := Ent (.int .u64) (.int .u64)
abbrev ug (k : Int) (es : List UU) : Option Int := mget (kk := .int .u64) (vk := .int .u64) k es
def bornU (c : Nat) (es : List UU) : Prop := (es.map (·.2.2)).Nodup ∧ ∀ e ∈ es, e.2.2 < c
structure SI (V : HV) (hV : V.Ok) (add : List Int) (it nx : Nat) (h : HH) (L : List LE) (cur : Nat → Option Nat) (S : Y.St) (cvs : List Value) (pcs : List UU) (clk : Nat) : Prop where
  rep : HRep V hV h L cur S
  ws : Ws (V.par hV) S
  log : Log (V.par hV) S (L.map lc) cur
  ops : L.map (fun e => e.c.op) = (add.take nx).map (fun a => ((1 + a : Int), (0 : Int)))
  nxl : nx ≤ add.length
  cvl : cvs.length = V.n
  cva : ∀ (i : Nat) (e : LE), L[i]? = some e → e.c.pc ≠ .over → cvs[e.w]? = some e.u
  cvn : ∀ w, w < V.n → (∀ (i : Nat) (e : LE), cur w = some i → L[i]? = some e → e.c.pc = .over) → cvs[w]? = some (.pointer none)
  pg : ∀ (k v : Int), ug k pcs = some v ↔ ∃ e : LE, e ∈ L ∧ e.c.pc = .over ∧ e.c.ans = (k, v)
  pk : keysOk (k := .u64) (vk := .int .u64) pcs
  pb : bornU clk pcs
  pl : pcs.length = (L.filter fun e => ovC e.c).length
  st : ∀ e : LE, e ∈ L → e.st ≤ it
  es : h.es.length ≤ 1000 * it
theorem cnt_adds {V : HV} (hV : V.Ok) (ho : V.o = .counter) : Adds (V.par hV) := by
  have e1 : (V.par hV).ap = obAp .counter := by show obAp V.o = _; rw [ho]
  have e2 : (V.par hV).W = 1 := by show obW V.o = 1; rw [ho]; rfl
  refine ⟨e2, fun s o hs ho hm => ?_⟩
  rw [e1]
  show ([IntKind.u64.wrap (([s] : List Int).getD 0 0 + o.1)], (([s] : List Int).getD 0 0, IntKind.u64.wrap (([s] : List Int).getD 0 0 + o.1))) = _
  have e3 : ([s] : List Int).getD 0 0 = s := rfl
  rw [e3, wu64 (by omega) (by omega)]
/-- The sum of what was asked. -/
def allN (add : List Int) (nx : Nat) : Int := sumA ((add.take nx).map fun a => ((1 + a : Int), (0 : Int)))
theorem allN_succ {add : List Int} {nx : Nat} (h : nx < add.length) : allN add (nx + 1) = allN add nx + (1 + add.getD nx 0) := by
  unfold allN
  rw [Y.take_succ_getD h, List.map_append, sumA_app]
  simp [sumA]
def addOk (add : List Int) : Prop := add.length ≤ 60 ∧ ∀ a, a ∈ add → 0 ≤ a ∧ a ≤ 255
theorem allN_le {add : List Int} (ha : addOk add) : ∀ nx, 0 ≤ allN add nx ∧ allN add nx ≤ 256 * 60 := by
  have key : ∀ l : List Int, (∀ a, a ∈ l → 0 ≤ a ∧ a ≤ 255) → 0 ≤ sumA (l.map fun a => ((1 + a : Int), (0 : Int))) ∧ sumA (l.map fun a => ((1 + a : Int), (0 : Int))) ≤ 256 * l.length := by
    intro l
    induction l with
    | nil => intro _; simp [sumA]
    | cons a l ih =>
      intro h
      have h1 := h a (by simp)
      have h2 := ih fun x hx => h x (by simp [hx])
      simp only [List.map_cons, sumA, List.length_cons]
      omega
  intro nx
  have := key (add.take nx) fun a h => ha.2 a (List.mem_of_mem_take h)
  have hl : (add.take nx).length ≤ 60 := by have := ha.1; simp; omega
  unfold allN
  omega
section
variable {V : HV} {hV : V.Ok} {add : List Int} {it nx : Nat} {h : HH} {L : List LE} {cur : Nat → Option Nat} {S : Y.St} {cvs : List Value} {pcs : List UU} {clk : Nat}
theorem SI.op_ge (s : SI V hV add it nx h L cur S cvs pcs clk) (ha : addOk add) : ∀ e, e ∈ L → 1 ≤ e.c.op.1 := by
  intro e he
  have : e.c.op ∈ L.map (fun e => e.c.op) := List.mem_map.2 ⟨e, he, rfl⟩
  rw [s.ops] at this
  obtain ⟨a, ha1, ha2⟩ := List.mem_map.1 this
  have := (ha.2 a (List.mem_of_mem_take ha1)).1
  rw [← ha2]
  show 1 ≤ 1 + a
  omega
theorem ents_op {P : Y.Par} {S : Y.St} {M : List (Nat × Cl)} {cur : Nat → Option Nat} (hl : Log P S M cur) (hi : Y.Inv P S) (ws : Ws P S) (h1 : ∀ x, x ∈ M → 1 ≤ x.2.op.1) : ∀ d, d ∈ S.ents → 1 ≤ d.2.1.1 := by
  intro d hd
  have hw := ws.ents d hd
  have hm : d.2 ∈ mineOf S.ents d.1 := by
    rw [mineOf_filter]
    exact List.mem_map.2 ⟨d, List.mem_filter.2 ⟨hd, by simp⟩, rfl⟩
  have key : ∀ y, y ∈ (oversOf M d.1).map opAns → 1 ≤ y.1.1 := fun y hy => by
    obtain ⟨x, hx, rfl⟩ := List.mem_map.1 hy
    exact h1 x (List.mem_filter.1 hx).1
  rcases hl.mine hi hw with e | ⟨i, c, a, b1, b2, b3, e⟩ <;> rw [e] at hm
  · exact key _ hm
  · rcases List.mem_append.1 hm with hm | hm
    · exact key _ hm
    · rw [List.mem_singleton.1 hm]
      exact h1 _ (List.mem_of_getElem? b2)
theorem sumF_L (L : List LE) (f : O2 → Int) : sumF (fun x : Nat × Cl => f x.2.op) (L.map lc) = sumF f (L.map fun e => e.c.op) := by
  rw [sumF_map, sumF_map]; rfl
theorem SI.small (s : SI V hV add it nx h L cur S cvs pcs clk) (ha : addOk add) : sumA (S.ents.map (·.2.1)) ≤ allN add nx := by
  have h1 := s.log.sum_le s.rep.inv s.ws (·.1) (fun x hx => by
    obtain ⟨e, he, rfl⟩ := List.mem_map.1 hx
    have := s.op_ge ha e he
    show 0 ≤ e.c.op.1; omega)
  rw [sumF_L, ← sumA_eq, ← sumA_eq, s.ops] at h1
  exact h1
/-- What the state is, for one who steps. -/
theorem SI.at_ (s : SI V hV add it nx h L cur S cvs pcs clk) {i : Nat} {e : LE} (he : L[i]? = some e) (hp : e.c.pc ≠ .over) : e.w < V.n ∧ cur e.w = some i := by
  have hx : (L.map lc)[i]? = some (e.w, e.c) := by rw [List.getElem?_map, he]; rfl
  exact ⟨s.log.lw _ (List.mem_of_getElem? hx), s.log.act i e.w e.c hx hp⟩
theorem ops_set {L : List LE} {i : Nat} {e e' : LE} (he : L[i]? = some e) (h : e'.c.op = e.c.op) : (L.set i e').map (fun e => e.c.op) = L.map fun e => e.c.op := by
  rw [List.map_set]
  have hi := (List.getElem?_eq_some_iff.1 he).1
  have e1 : L[i] = e := (List.getElem?_eq_some_iff.1 he).2
  rw [h, ← e1]
  have h3 : ((L.map fun e : LE => e.c.op).set i ((L.map fun e : LE => e.c.op)[i]'(by simpa using hi))) = L.map fun e : LE => e.c.op := List.set_getElem_self _
  simpa using h3
theorem over_set {L : List LE} {i : Nat} {e e' : LE} (he : L[i]? = some e) (hn : ovC e.c = false) : ((L.set i e').filter fun e => ovC e.c).length = (L.filter fun e => ovC e.c).length + (if ovC e'.c = true then 1 else 0) := by
  have hi := (List.getElem?_eq_some_iff.1 he).1
  rw [set_at hi]
  conv => rhs; rw [list_at he]
  rw [List.filter_append, List.filter_append, List.filter_cons, List.filter_cons, List.length_append, List.length_append, hn]
  by_cases h : ovC e'.c = true
  · rw [if_pos h, if_pos h]; simp; omega
  · rw [if_neg h, if_neg h]; simp
theorem ne_over {c : Cl} (hp : c.pc ≠ .over) : ovC c = false := by cases hx : ovC c with | false => rfl | true => exact absurd (ovC_iff.1 hx) hp
/-- A step: the call isn't over. -/
theorem SI.step (s : SI V hV add it nx h L cur S cvs pcs clk) {i : Nat} {e : LE} (he : L[i]? = some e) (hp : e.c.pc ≠ .over) (hn : (stepE V hV S.M e).c.pc ≠ .over) :
    SI V hV add (it + 1) nx (hS V e.w e.c S.M h) (L.set i (stepE V hV S.M e)) cur (S.step (V.par hV) e.w) cvs pcs clk := by
  obtain ⟨hw, hc⟩ := s.at_ he hp
  have hil := (List.getElem?_eq_some_iff.1 he).1
  have hx : (L.map lc)[i]? = some (e.w, e.c) := by rw [List.getElem?_map, he]; rfl
  have hlog := s.log.step s.rep.inv hw hc hx
  obtain ⟨e0, a1, a2, a3, a4⟩ := s.rep.us _ _ hw hc
  rw [he] at a1; cases a1
  have ok : StepOk V S.M e.w e.c := stepOk_of s.rep.inv hw a4 (by have := (s.rep.bnd e (List.mem_of_getElem? he)).1; omega)
  refine ⟨s.rep.stp hw hc he, s.ws.step s.rep.inv hw, by rw [List.map_set]; exact hlog, by rw [ops_set he (step_op _)]; exact s.ops, s.nxl, s.cvl, fun j f hj hf => ?_, fun w hw2 hall => ?_, fun k v => ?_, s.pk, s.pb, ?_, fun f hf => ?_, ?_⟩
  · by_cases e2 : i = j
    · subst e2
      rw [List.getElem?_set_self hil] at hj; cases hj
      exact s.cva i e he hp
    · rw [List.getElem?_set_ne e2] at hj
      exact s.cva j f hj hf
  · refine s.cvn w hw2 fun j f hj hf => ?_
    by_cases e2 : i = j
    · subst e2
      exact absurd (hall i _ hj (List.getElem?_set_self hil)) hn
    · exact hall j f hj (by rw [List.getElem?_set_ne e2]; exact hf)
  · rw [s.pg]
    constructor
    · rintro ⟨f, hf, hf2, hf3⟩
      obtain ⟨j, hj⟩ := List.mem_iff_getElem?.1 hf
      have e2 : i ≠ j := by rintro rfl; rw [he] at hj; cases hj; exact hp hf2
      exact ⟨f, List.mem_of_getElem? (by rw [List.getElem?_set_ne e2]; exact hj), hf2, hf3⟩
    · rintro ⟨f, hf, hf2, hf3⟩
      rcases List.mem_or_eq_of_mem_set hf with hf | rfl
      · exact ⟨f, hf, hf2, hf3⟩
      · exact absurd hf2 hn
  · rw [over_set he (ne_over hp), if_neg (by rw [ne_over hn]; simp)]; exact s.pl
  · rcases List.mem_or_eq_of_mem_set hf with hf | rfl
    · exact Nat.le_succ_of_le (s.st f hf)
    · have := s.st e (List.mem_of_getElem? he)
      show stOf e.st e.c ≤ _
      unfold stOf; split <;> omega
  · have := hS_len (h := h) ok
    have := s.es
    omega
/-- .. it is. -/
theorem SI.ends (s : SI V hV add it nx h L cur S cvs pcs clk) (ho : V.o = .counter) (ha : addOk add) {i : Nat} {e : LE} (he : L[i]? = some e) (hp : e.c.pc ≠ .over) (hn : (stepE V hV S.M e).c.pc = .over) (a : O2) (haa : (stepE V hV S.M e).c.ans = a) :
    (a.1 < a.2 ∧ ug a.1 pcs = none) ∧ SI V hV add (it + 1) nx (hS V e.w e.c S.M h) (L.set i (stepE V hV S.M e)) cur (S.step (V.par hV) e.w) (cvs.set e.w (.pointer none)) (mput (kk := .int .u64) (vk := .int .u64) a.1 a.2 clk pcs) (clk + 1) := by
  obtain ⟨hw, hc⟩ := s.at_ he hp
  have hil := (List.getElem?_eq_some_iff.1 he).1
  have hx : (L.map lc)[i]? = some (e.w, e.c) := by rw [List.getElem?_map, he]; rfl
  have hlog := s.log.step s.rep.inv hw hc hx
  obtain ⟨e0, a1, a2, a3, a4⟩ := s.rep.us _ _ hw hc
  rw [he] at a1; cases a1
  have ok : StepOk V S.M e.w e.c := stepOk_of s.rep.inv hw a4 (by have := (s.rep.bnd e (List.mem_of_getElem? he)).1; omega)
  have hrep := s.rep.stp hw hc he
  have hws := s.ws.step s.rep.inv hw
  have hlog2 : Log (V.par hV) (S.step (V.par hV) e.w) ((L.set i (stepE V hV S.M e)).map lc) cur := by rw [List.map_set]; exact hlog
  have hops : (L.set i (stepE V hV S.M e)).map (fun e => e.c.op) = (add.take nx).map fun a => ((1 + a : Int), (0 : Int)) := by rw [ops_set he (step_op _)]; exact s.ops
  have hge : ∀ f, f ∈ L.set i (stepE V hV S.M e) → 1 ≤ f.c.op.1 := fun f hf => by
    rcases List.mem_or_eq_of_mem_set hf with hf | rfl
    · exact s.op_ge ha f hf
    · show 1 ≤ (stepC _ _ _ _).2.1.op.1
      rw [step_op]; exact s.op_ge ha e (List.mem_of_getElem? he)
  have hsm : sumA ((S.step (V.par hV) e.w).ents.map (·.2.1)) ≤ allN add nx := by
    have h1 := hlog2.sum_le hrep.inv hws (·.1) (fun x hx => by
      obtain ⟨f, hf, rfl⟩ := List.mem_map.1 hx
      have := hge f hf
      show 0 ≤ f.c.op.1; omega)
    rw [sumF_L, ← sumA_eq, ← sumA_eq, hops] at h1
    exact h1
  have hall := allN_le ha nx
  have hd1 := ents_op hlog2 hrep.inv hws fun x hx => by
    obtain ⟨f, hf, rfl⟩ := List.mem_map.1 hx
    exact hge f hf
  have hA := cnt_adds hV ho
  have hch := (cnt_all hA hrep.inv (fun d hd => by have := hd1 d hd; omega) (by omega)).2
  have hap := hlog2.apart hA hrep.inv hws hd1 (by omega)
  have hmem : (e.w, (stepE V hV S.M e).c) ∈ (L.set i (stepE V hV S.M e)).map lc := List.mem_map.2 ⟨stepE V hV S.M e, List.mem_of_getElem? (List.getElem?_set_self hil), rfl⟩
  have hent := hlog2.over_ent hrep.inv hmem hn
  rw [haa] at hent
  have hlt : a.1 < a.2 := by
    have hm2 : a ∈ chain 0 ((S.step (V.par hV) e.w).ents.map (·.2.1)) := by
      rw [← hch]; exact List.mem_map.2 ⟨_, hent, rfl⟩
    exact ((chain_lt (fun o ho => by obtain ⟨d, hd, rfl⟩ := List.mem_map.1 ho; exact hd1 d hd)).2 a hm2).2
  have hnew : ug a.1 pcs = none := by
    cases hg : ug a.1 pcs with
    | none => rfl
    | some v =>
      obtain ⟨f, hf, hf2, hf3⟩ := (s.pg _ _).1 hg
      obtain ⟨j, hj⟩ := List.mem_iff_getElem?.1 hf
      have e2 : i ≠ j := by rintro rfl; rw [he] at hj; cases hj; exact hp hf2
      have hjl := (List.getElem?_eq_some_iff.1 hj).1
      rw [List.pairwise_map, List.pairwise_iff_getElem] at hap
      have gi : (L.set i (stepE V hV S.M e))[i]'(by rw [List.length_set]; exact hil) = stepE V hV S.M e := by simp
      have gj : (L.set i (stepE V hV S.M e))[j]'(by rw [List.length_set]; exact hjl) = f := by
        rw [List.getElem_set_ne e2]; exact (List.getElem?_eq_some_iff.1 hj).2
      rcases Nat.lt_or_ge i j with h3 | h3
      · have := hap i j (by rw [List.length_set]; exact hil) (by rw [List.length_set]; exact hjl) h3
        rw [gi, gj] at this
        exact absurd (by show (stepE V hV S.M e).c.ans.1 = f.c.ans.1; rw [haa, hf3]) (this hn hf2)
      · have := hap j i (by rw [List.length_set]; exact hjl) (by rw [List.length_set]; exact hil) (by omega)
        rw [gi, gj] at this
        exact absurd (by show f.c.ans.1 = (stepE V hV S.M e).c.ans.1; rw [haa, hf3]) (this hf2 hn)
  refine ⟨⟨hlt, hnew⟩, hrep, hws, hlog2, hops, s.nxl, by rw [List.length_set]; exact s.cvl, fun j f hj hf => ?_, fun w hw2 hall => ?_, fun k v => ?_, keysOk_put s.pk, ?_, ?_, fun f hf => ?_, ?_⟩
  · have e2 : i ≠ j := by rintro rfl; rw [List.getElem?_set_self hil] at hj; cases hj; exact hf hn
    rw [List.getElem?_set_ne e2] at hj
    have e3 : f.w ≠ e.w := fun e3 => by
      have h5 := (s.at_ hj hf).2
      rw [e3, hc] at h5; cases h5; exact e2 rfl
    rw [List.getElem?_set_ne (Ne.symm e3)]
    exact s.cva j f hj hf
  · by_cases e3 : w = e.w
    · subst e3; rw [List.getElem?_set_self (by rw [s.cvl]; exact hw)]
    · rw [List.getElem?_set_ne (Ne.symm e3)]
      refine s.cvn w hw2 fun j f hj hf => ?_
      have e2 : i ≠ j := by
        rintro rfl
        obtain ⟨f', b1, b2, _⟩ := s.rep.us w i hw2 hj
        rw [he] at b1; cases b1; exact e3 b2.symm
      exact hall j f hj (by rw [List.getElem?_set_ne e2]; exact hf)
  · have hput := mget_put (k := .u64) (vk := .int .u64) a.1 k a.2 clk pcs
    show mget (kk := .int .u64) (vk := .int .u64) k (mput (kk := .int .u64) (vk := .int .u64) a.1 a.2 clk pcs) = some v ↔ _
    rw [hput]
    by_cases e2 : k = a.1
    · rw [if_pos e2]
      constructor
      · intro h6
        have h6' : a.2 = v := Option.some.inj h6
        exact ⟨stepE V hV S.M e, List.mem_of_getElem? (List.getElem?_set_self hil), hn, by rw [haa, e2, ← h6']⟩
      · rintro ⟨f, hf, hf2, hf3⟩
        rcases List.mem_or_eq_of_mem_set hf with hf | rfl
        · have := (s.pg k v).2 ⟨f, hf, hf2, hf3⟩
          rw [e2, hnew] at this; cases this
        · rw [haa] at hf3
          exact congrArg some (congrArg (·.2) hf3)
    · rw [if_neg e2]
      rw [show mget (kk := .int .u64) (vk := .int .u64) k pcs = ug k pcs from rfl, s.pg]
      constructor
      · rintro ⟨f, hf, hf2, hf3⟩
        obtain ⟨j, hj⟩ := List.mem_iff_getElem?.1 hf
        have e4 : i ≠ j := by rintro rfl; rw [he] at hj; cases hj; exact hp hf2
        exact ⟨f, List.mem_of_getElem? (by rw [List.getElem?_set_ne e4]; exact hj), hf2, hf3⟩
      · rintro ⟨f, hf, hf2, hf3⟩
        rcases List.mem_or_eq_of_mem_set hf with hf | rfl
        · exact ⟨f, hf, hf2, hf3⟩
        · rw [haa] at hf3
          exact absurd (congrArg (·.1) hf3).symm e2
  · -- births
    have key : ∀ es : List UU, mget (kk := .int .u64) (vk := .int .u64) a.1 es = none → mput (kk := .int .u64) (vk := .int .u64) a.1 a.2 clk es = es ++ [(a.1, a.2, clk)] := by
      intro es
      induction es with
      | nil => intro _; rfl
      | cons x es ih =>
        intro h6
        rw [mget_cons] at h6
        rw [mput_cons]
        by_cases e6 : a.1 = x.1
        · rw [if_pos e6] at h6; cases h6
        · rw [if_neg e6] at h6 ⊢
          rw [ih h6]; rfl
    rw [key pcs hnew]
    refine ⟨?_, fun x hx => ?_⟩
    · rw [List.map_append]
      refine List.nodup_append.2 ⟨s.pb.1, by simp, fun y hy z hz => ?_⟩
      obtain ⟨x, hx, rfl⟩ := List.mem_map.1 hy
      have := s.pb.2 x hx
      simp at hz; omega
    · rcases List.mem_append.1 hx with hx | hx
      · have := s.pb.2 x hx; omega
      · rw [List.mem_singleton.1 hx]; show clk < clk + 1; omega
  · rw [over_set he (ne_over hp), if_pos (ovC_iff.2 hn), ← s.pl]
    have := length_put (k := .u64) (vk := .int .u64) a.1 a.2 clk pcs
    rw [show mget (kk := .int .u64) (vk := .int .u64) a.1 pcs = none from hnew] at this
    simpa using this
  · rcases List.mem_or_eq_of_mem_set hf with hf | rfl
    · exact Nat.le_succ_of_le (s.st f hf)
    · have := s.st e (List.mem_of_getElem? he)
      show stOf e.st e.c ≤ _
      unfold stOf; split <;> omega
  · have := hS_len (h := h) ok
    have := s.es
    omega
end
end Go.Proofs.YtnheodgffackoaaDoor.E

/- HallSums: a call more; how long the loop lasts. -/
namespace Go.Proofs.YtnheodgffackoaaDoor.E
set_option linter.unusedSimpArgs false
set_option linter.unusedVariables false
open Go Go.Proofs.YtnheodgffackoaaDoor.Y
set_option maxRecDepth 100000
section
variable {V : HV} {hV : V.Ok} {add : List Int} {it nx : Nat} {h : HH} {L : List LE} {cur : Nat → Option Nat} {S : Y.St} {cvs : List Value} {pcs : List UU} {clk : Nat}
theorem newC_pc (t : Nat) (op : O2) : (newC t op).pc ≠ .over := by
  unfold newC
  by_cases h : 0 < t <;> simp [h]
def newE (V : HV) (x : Value) (w : Nat) (a : Int) : LE := ⟨x, w, 0, newC V.tries (1 + a, 0)⟩
theorem SI.start (s : SI V hV add it nx h L cur S cvs pcs clk) {w : Nat} (hw : w < V.n) (hi : ∀ (i : Nat) (e : LE), cur w = some i → L[i]? = some e → e.c.pc = .over) (hn : nx < add.length) {x : Value} (hx : isP x = true) (hx2 : nilP x = false) :
    SI V hV add it (nx + 1) { h with us := h.us.take w ++ x :: h.us.drop (w + 1) } (L ++ [newE V x w (add.getD nx 0)]) (updF cur w (some L.length)) (S.call w (newC V.tries (1 + add.getD nx 0, 0))) (cvs.set w x) pcs clk := by
  have hwP : w < (V.par hV).n := hw
  have hlog : Log (V.par hV) (S.call w (newC V.tries (1 + add.getD nx 0, 0))) ((L ++ [newE V x w (add.getD nx 0)]).map lc) (updF cur w (some L.length)) := by
    have := s.log.call (c := newC V.tries (1 + add.getD nx 0, 0)) hwP (fun j d hj hd => by
      rw [List.getElem?_map] at hd
      cases he : L[j]? with
      | none => rw [he] at hd; cases hd
      | some e =>
        rw [he] at hd
        have e2 : lc e = (w, d) := Option.some.inj hd
        have := hi j e hj he
        rw [← show e.c = d from congrArg (·.2) e2]; exact this) (newC_pc _ _)
    rw [List.map_append, List.length_map] at *
    exact this
  have app : ∀ (i : Nat) (e : LE), (L ++ [newE V x w (add.getD nx 0)])[i]? = some e → L[i]? = some e ∨ (i = L.length ∧ e = newE V x w (add.getD nx 0)) := fun i e hie => by
    rw [List.getElem?_append] at hie
    split at hie
    · exact .inl hie
    · rename_i h2
      have h3 : i - L.length = 0 := by
        apply Classical.byContradiction
        intro h4
        rw [List.getElem?_eq_none (by simp; omega)] at hie; cases hie
      rw [h3] at hie; cases hie
      exact .inr ⟨by omega, rfl⟩
  refine ⟨s.rep.call hw hi hx hx2 _, s.ws.call rfl, hlog, ?_, hn, by rw [List.length_set]; exact s.cvl, fun i e hie hp => ?_, fun q hq hall => ?_, fun k v => ?_, s.pk, s.pb, ?_, fun e he => ?_, s.es⟩
  · rw [List.map_append, s.ops, Y.take_succ_getD hn, List.map_append]
    rfl
  · rcases app i e hie with h1 | ⟨_, rfl⟩
    · have h2 := s.cva i e h1 hp
      obtain ⟨h3, h4⟩ := s.at_ h1 hp
      have e2 : e.w ≠ w := fun e2 => by rw [e2] at h4; exact hp (hi i e h4 h1)
      rw [List.getElem?_set_ne (Ne.symm e2)]; exact h2
    · show (cvs.set w x)[w]? = some x
      rw [List.getElem?_set_self (by rw [s.cvl]; exact hw)]
  · by_cases e2 : q = w
    · subst e2
      exact absurd (hall L.length (newE V x q (add.getD nx 0)) (updF_self ..) (by simp)) (newC_pc _ _)
    · rw [List.getElem?_set_ne (Ne.symm e2)]
      refine s.cvn q hq fun i e hi2 he => hall i e (by rw [updF_ne _ _ e2]; exact hi2) ?_
      rw [List.getElem?_append_left (List.getElem?_eq_some_iff.1 he).1]; exact he
  · rw [s.pg]
    constructor
    · rintro ⟨f, hf, hf2, hf3⟩
      exact ⟨f, List.mem_append_left _ hf, hf2, hf3⟩
    · rintro ⟨f, hf, hf2, hf3⟩
      rcases List.mem_append.1 hf with hf | hf
      · exact ⟨f, hf, hf2, hf3⟩
      · rw [List.mem_singleton.1 hf] at hf2
        exact absurd hf2 (newC_pc _ _)
  · rw [List.filter_append, List.length_append, ← s.pl, List.filter_cons, if_neg (by rw [show (newE V x w (add.getD nx 0)).c = newC V.tries (1 + add.getD nx 0, 0) from rfl, ne_over (newC_pc _ _)]; simp)]
    rfl
  · rcases List.mem_append.1 he with he | he
    · exact s.st e he
    · rw [List.mem_singleton.1 he]; exact Nat.zero_le _
end
/-! How long it lasts. -/
def B0 (V : HV) (hV : V.Ok) : Nat := V.tries * rkA (V.par hV) + (2 * rkA (V.par hV) + 6)
theorem rk_new (V : HV) (hV : V.Ok) (op : O2) : rk (V.par hV) (newC V.tries op) = B0 V hV := by
  unfold newC B0
  by_cases h : 0 < V.tries
  · rw [if_pos h]; rfl
  · rw [if_neg h]
    have : V.tries = 0 := by omega
    rw [this, Nat.zero_mul, Nat.zero_add]; rfl
def sumR (V : HV) (hV : V.Ok) : List LE → Nat
  | [] => 0
  | e :: l => rk (V.par hV) e.c + sumR V hV l
theorem sumR_app (V : HV) (hV : V.Ok) : ∀ a b : List LE, sumR V hV (a ++ b) = sumR V hV a + sumR V hV b
  | [], b => by simp [sumR]
  | e :: a, b => by simp only [List.cons_append, sumR]; rw [sumR_app V hV a b]; omega
theorem sumR_set (V : HV) (hV : V.Ok) {L : List LE} {i : Nat} {e e' : LE} (he : L[i]? = some e) : sumR V hV (L.set i e') + rk (V.par hV) e.c = sumR V hV L + rk (V.par hV) e'.c := by
  have hi := (List.getElem?_eq_some_iff.1 he).1
  rw [set_at hi]
  conv => rhs; rw [list_at he]
  rw [sumR_app, sumR_app]
  simp only [sumR]; omega
def phiN (V : HV) (hV : V.Ok) (add : List Int) (nx : Nat) (L : List LE) : Nat := (add.length - nx) * B0 V hV + sumR V hV L
/-- How long until a worker's turn. -/
def dist (n w i : Nat) : Nat := (w + n - i % n) % n
theorem dist_lt {n : Nat} (h : 0 < n) (w i : Nat) : dist n w i < n := Nat.mod_lt _ h
theorem dist_step {n : Nat} (h0 : 0 < n) (h5 : n ≤ 5) {w i : Nat} (hw : w < n) : (w ≠ i % n → dist n w (i + 1) + 1 = dist n w i) ∧ (w = i % n → dist n w (i + 1) + 1 = n) := by
  unfold dist
  have hn : n = 1 ∨ n = 2 ∨ n = 3 ∨ n = 4 ∨ n = 5 := by omega
  rcases hn with rfl | rfl | rfl | rfl | rfl <;> constructor <;> intro h <;> omega
structure MI (V : HV) (hV : V.Ok) (add : List Int) (p0 i nx : Nat) (L : List LE) : Prop where
  phi : phiN V hV add nx L ≤ B0 V hV * add.length
  act : ∀ e : LE, e ∈ L → rk (V.par hV) e.c ≤ B0 V hV
  run : p0 ≤ i → nx < add.length → phiN V hV add nx L + i ≤ p0 + B0 V hV * add.length
  idle : p0 ≤ i → nx = add.length → ∀ e : LE, e ∈ L → e.c.pc ≠ .over → rk (V.par hV) e.c * V.n + dist V.n e.w i + i ≤ p0 + B0 V hV * add.length + (B0 V hV + 1) * V.n
section
variable {V : HV} {hV : V.Ok} {add : List Int} {p0 i it nx : Nat} {h : HH} {L : List LE} {cur : Nat → Option Nat} {S : Y.St} {cvs : List Value} {pcs : List UU} {clk : Nat}
theorem MI.base (h1 : phiN V hV add nx L ≤ B0 V hV * add.length) (h2 : ∀ e : LE, e ∈ L → rk (V.par hV) e.c ≤ B0 V hV) (h0 : i ≤ p0 ∨ i ≤ p0 + B0 V hV * add.length) (h3 : p0 ≤ i → nx < add.length → phiN V hV add nx L + i ≤ p0 + B0 V hV * add.length) : MI V hV add p0 i nx L := by
  refine ⟨h1, h2, h3, fun _ _ e he _ => ?_⟩
  have h4 := h2 e he
  have h5 := dist_lt hV.n0 e.w i
  have h6 : rk (V.par hV) e.c * V.n ≤ B0 V hV * V.n := Nat.mul_le_mul_right _ h4
  rw [Nat.add_mul, Nat.one_mul]
  omega
theorem B0_pos (V : HV) (hV : V.Ok) : 1 ≤ B0 V hV := by unfold B0; omega
/-- A worker that is on its way steps. -/
theorem MI.step (m : MI V hV add p0 i nx L) (s : SI V hV add it nx h L cur S cvs pcs clk) (h5 : V.n ≤ 5) {j : Nat} {e : LE} (he : L[j]? = some e) (hp : e.c.pc ≠ .over) (hw : p0 ≤ i → e.w = i % V.n) : MI V hV add p0 (i + 1) nx (L.set j (stepE V hV S.M e)) := by
  obtain ⟨hwn, hc⟩ := s.at_ he hp
  have hjl := (List.getElem?_eq_some_iff.1 he).1
  obtain ⟨e0, a1, a2, a3, a4⟩ := s.rep.us _ _ hwn hc
  rw [he] at a1; cases a1
  have hr : rk (V.par hV) (stepE V hV S.M e).c + 1 ≤ rk (V.par hV) e.c := rk_step s.rep.inv hwn a4 hp
  have hs := sumR_set V hV (e' := stepE V hV S.M e) he
  have hphi : phiN V hV add nx (L.set j (stepE V hV S.M e)) + 1 ≤ phiN V hV add nx L := by unfold phiN; omega
  have hB := B0_pos V hV
  have hact : ∀ f : LE, f ∈ L.set j (stepE V hV S.M e) → rk (V.par hV) f.c ≤ B0 V hV := fun f hf => by
    rcases List.mem_or_eq_of_mem_set hf with hf | rfl
    · exact m.act f hf
    · have := m.act e (List.mem_of_getElem? he); omega
  have h1 := m.phi
  by_cases hi : p0 ≤ i
  · refine ⟨by omega, hact, fun _ hn => by have := m.run hi hn; omega, fun _ hn f hf hfp => ?_⟩
    obtain ⟨k, hk⟩ := List.mem_iff_getElem?.1 hf
    by_cases e2 : j = k
    · subst e2
      rw [List.getElem?_set_self hjl] at hk; cases hk
      have hid := m.idle hi hn e (List.mem_of_getElem? he) hp
      have hd := (dist_step hV.n0 h5 (i := i) hwn).2 (hw hi)
      show rk (V.par hV) (stepE V hV S.M e).c * V.n + dist V.n e.w (i + 1) + (i + 1) ≤ _
      have h6 : (rk (V.par hV) (stepE V hV S.M e).c + 1) * V.n ≤ rk (V.par hV) e.c * V.n := Nat.mul_le_mul_right _ hr
      rw [Nat.add_mul, Nat.one_mul] at h6
      omega
    · rw [List.getElem?_set_ne e2] at hk
      have hid := m.idle hi hn f (List.mem_of_getElem? hk) hfp
      obtain ⟨fw, fc⟩ := s.at_ hk hfp
      have hne : f.w ≠ i % V.n := fun h7 => by
        rw [← hw hi] at h7
        rw [h7, hc] at fc; cases fc; exact e2 rfl
      have hd := (dist_step hV.n0 h5 (i := i) fw).1 hne
      omega
  · refine MI.base (by omega) hact (.inl (by omega)) fun h2 hn => by omega
/-- Nobody steps. -/
theorem MI.rest (m : MI V hV add p0 i nx L) (s : SI V hV add it nx h L cur S cvs pcs clk) (h5 : V.n ≤ 5) (hnx : nx = add.length) {w : Nat} (hidle : ∀ (j : Nat) (e : LE), cur w = some j → L[j]? = some e → e.c.pc = .over) (hw : p0 ≤ i → w = i % V.n) : MI V hV add p0 (i + 1) nx L := by
  have h1 := m.phi
  by_cases hi : p0 ≤ i
  · refine ⟨h1, m.act, fun _ hn => by omega, fun _ hn f hf hfp => ?_⟩
    have hid := m.idle hi hn f hf hfp
    obtain ⟨k, hk⟩ := List.mem_iff_getElem?.1 hf
    obtain ⟨fw, fc⟩ := s.at_ hk hfp
    have hne : f.w ≠ i % V.n := fun h7 => by
      rw [← hw hi] at h7
      rw [h7] at fc
      exact hfp (hidle k f fc hk)
    have hd := (dist_step hV.n0 h5 (i := i) fw).1 hne
    omega
  · exact MI.base (by omega) m.act (.inl (by omega)) fun h2 hn => by omega
/-- A call more begins. -/
theorem MI.start (m : MI V hV add p0 i nx L) (hn : nx < add.length) (x : Value) (w : Nat) (a : Int) : MI V hV add p0 i (nx + 1) (L ++ [newE V x w a]) := by
  have hr := rk_new V hV (1 + a, 0)
  have hphi : phiN V hV add (nx + 1) (L ++ [newE V x w a]) = phiN V hV add nx L := by
    unfold phiN
    rw [sumR_app]
    have e1 : sumR V hV [newE V x w a] = B0 V hV := by show rk (V.par hV) (newC V.tries (1 + a, 0)) + 0 = _; rw [hr]; rfl
    have e2 : add.length - nx = (add.length - (nx + 1)) + 1 := by omega
    rw [e1, e2, Nat.add_mul, Nat.one_mul]; omega
  have hB := B0_pos V hV
  have hact : ∀ f : LE, f ∈ L ++ [newE V x w a] → rk (V.par hV) f.c ≤ B0 V hV := fun f hf => by
    rcases List.mem_append.1 hf with hf | hf
    · exact m.act f hf
    · rw [List.mem_singleton.1 hf]; exact Nat.le_of_eq hr
  have h1 := m.phi
  refine MI.base (by omega) hact ?_ fun h2 h3 => by rw [hphi]; exact m.run h2 hn
  by_cases hi : p0 ≤ i
  · have := m.run hi hn
    exact .inr (by omega)
  · exact .inl (by omega)
/-- At last nobody is on its way. -/
theorem MI.ends (m : MI V hV add p0 i nx L) (s : SI V hV add it nx h L cur S cvs pcs clk) (hb : B0 V hV ≤ 291) (hi : i = p0 + 400 * add.length + 400 * V.n) : nx = add.length ∧ ∀ e : LE, e ∈ L → e.c.pc = .over := by
  have n0 := hV.n0
  have hm : B0 V hV * add.length ≤ 291 * add.length := Nat.mul_le_mul_right _ hb
  have hm2 : (B0 V hV + 1) * V.n ≤ 292 * V.n := Nat.mul_le_mul_right _ (by omega)
  have h1 : nx = add.length := by
    have := s.nxl
    apply Classical.byContradiction
    intro hn
    have := m.run (by omega) (by omega)
    omega
  refine ⟨h1, fun e he => Classical.byContradiction fun hp => ?_⟩
  have := m.idle (by omega) h1 e he hp
  omega
end
end Go.Proofs.YtnheodgffackoaaDoor.E
