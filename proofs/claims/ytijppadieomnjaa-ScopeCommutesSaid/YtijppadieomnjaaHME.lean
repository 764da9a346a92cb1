/- Each operation of the denotation is what the model's operation does. Conditions: none (lemmas). -/
import Derived.Test.YtijppadieomnjaaHMC
namespace Go.Proofs.Ytijppadieomnjaa.HM
open Go
set_option linter.unusedSectionVars false
variable [Sites]

theorem beq_ne {x y : Nat} (h : x ≠ y) : Nat.beq x y = false := by
  cases e : Nat.beq x y with
  | false => rfl
  | true => exact absurd (Nat.eq_of_beq_eq_true e) h
theorem Fr.get_set (t : Nat) (s : SV) (F : Fr) (x : Nat) : (Fr.set t s F).get x = if x = t then s else F.get x := by
  simp only [Fr.get]
  by_cases h : x = t
  · subst h; simp
  · have : Nat.beq x t = false := beq_ne h
    rw [this, if_neg h]
theorem Bx.get_set (t : Nat) (s : List HV) (F : Bx) (x : Nat) : (Bx.set t s F).get x = if x = t then some s else F.get x := by
  simp only [Bx.get]
  by_cases h : x = t
  · subst h; simp
  · have : Nat.beq x t = false := beq_ne h
    rw [this, if_neg h]
theorem mem_iff (x : Nat) (l : List Nat) : mem x l = true ↔ x ∈ l := by
  induction l with
  | nil => simp [mem]
  | cons y l ih =>
    simp only [mem, List.mem_cons]
    by_cases h : x = y
    · subst h; simp
    · have : Nat.beq x y = false := beq_ne h
      rw [this]; simp [h, ih]

theorem under_dom {lv : Nat} : ∀ (B : Bx) (d : Nat), (Bx.under lv B).get d ≠ none → B.get d ≠ none
  | .nil, d, h => h
  | .bar l B, d, h => by
    simp only [Bx.under] at h
    split at h
    · exact h
    · exact under_dom B d h
  | .set d0 cs B, d, h => by
    rw [Bx.get_set]; split
    · simp
    · exact under_dom B d h

/-- what stood at the beginning of a construct: how its boxes were, and its slots but for those that it assigns. -/
structure Bar where
  lv : Nat
  B : Bx
  β : Nat → Option Nat
  T : List Nat
  a : Act
  I : Inj
structure Cx where
  nt : Nat
  bars : List Bar

/-- the loops over functions that an activation has begun left a mark each among its deferred calls. -/
def Marks (I : Inj) (w0 w : World) (ds : List Deferred) : Prop := ∃ Ds : List Nat, ds = Ds.map (fun D => { target := .collected D, args := #[] }) ∧ Ds.Nodup ∧
  ∀ D ∈ Ds, w.heap[D]? = some (.deferred (some [])) ∧ w0.heap.size ≤ D ∧ ∀ x e, I.j x ≠ some (D, e)
theorem Marks.nil {I : Inj} {w0 w : World} : Marks I w0 w [] := ⟨[], rfl, List.nodup_nil, fun D h => by cases h⟩
theorem Marks.of {I I' : Inj} {w0 w w' : World} {ds : List Deferred} (h : Marks I w0 w ds) (h1 : ∀ D : Nat, w.heap[D]? = some (.deferred (some [])) → (∀ x e, I.j x ≠ some (D, e)) → w'.heap[D]? = w.heap[D]? ∧ ∀ x e, I'.j x ≠ some (D, e)) : Marks I' w0 w' ds := by
  obtain ⟨Ds, a, b, c⟩ := h
  refine ⟨Ds, a, b, fun D hD => ?_⟩
  obtain ⟨c1, c2, c3⟩ := c D hD
  obtain ⟨q1, q2⟩ := h1 D c1 c3
  exact ⟨by rw [q1]; exact c1, c2, q2⟩
theorem Marks.step {I I' : Inj} {H H' : Heap} {w0 w w' : World} {ds : List Deferred} (h : Marks I w0 w ds) (hs : Step I H w I' H' w') : Marks I' w0 w' ds := by
  refine h.of fun D h1 h2 => ?_
  have hlt := lt_of_heap h1
  refine ⟨hs.keep D hlt (fun x d cs hx _ => h2 x d hx) (fun x d _ _ _ _ hx _ => h2 x d hx), fun x e hx => ?_⟩
  rcases hs.img1 x D e hx with h3 | ⟨b0, d0, h3⟩
  · omega
  · exact h2 b0 d0 h3

structure Inv (E : Env) (P : Program) (I0 : Inj) (H0 : Heap) (w0 : World) (nt : Cx) (β : Nat → Option Nat) (I : Inj) (H : Heap) (w : World) (S : St) (a : Act) : Prop where
  step : Step I0 H0 w0 I H w
  rel : Rel I H w
  fr : FR I β S.B S.F a
  br : BR I β w S.B
  fresh : ∀ d b, S.B.get d ≠ none → β d = some b → w0.heap.size ≤ b
  gl : ∀ g hb, E.gl g = some hb → I.j hb = some (g, 0)
  sz : a.tmps.size = nt.nt
  anc : ∀ b ∈ nt.bars, (∀ t, t ∉ b.T → a.tmps.getD t undef = b.a.tmps.getD t undef) ∧ Bx.under b.lv S.B = b.B ∧ (∀ d, b.B.get d ≠ none → β d = b.β d) ∧ b.I.le I
  defers : Marks I w0 w a.defers

section
variable {E : Env} {P : Program} {I0 : Inj} {H0 : Heap} {w0 : World} {nt : Cx} {β : Nat → Option Nat} {I : Inj} {H : Heap} {w : World} {S : St} {a : Act}

theorem ofS_VR {I : Inj} {v : Value} {h : HV} (e : ofS v = some h) : VC I h v := by
  unfold ofS at e
  split at e <;> first | cases e; done | (cases e; exact ⟨by constructor, rfl⟩) | cases e
theorem ofSs_VR {I : Inj} : ∀ {l : List Value} {hs : List HV}, ofSs l = some hs → VRs I hs l ∧ (∀ v ∈ l, v.oneCell' = true)
  | [], hs, e => by simp [ofSs] at e; subst e; exact ⟨.nil, by simp⟩
  | v :: l, hs, e => by
    simp only [ofSs] at e
    split at e
    · rename_i a b ea eb
      cases e
      obtain ⟨h1, h2⟩ := ofSs_VR (I := I) eb
      have h3 := ofS_VR (I := I) ea
      exact ⟨.cons h3.1 h1, by
        intro x hx; simp only [List.mem_cons] at hx
        rcases hx with rfl | hx
        · rw [h3.1.sc, h3.2]
        · exact h2 x hx⟩
    · cases e
theorem ofV_VR {I : Inj} {v : Value} {h : HV} (e : ofV v = some h) : VR I h v ∧ ∀ l, h ≠ .tup l := by
  unfold ofV at e
  split at e
  · rename_i cs
    split at e
    · rename_i l el
      cases e
      obtain ⟨h1, h2⟩ := ofSs_VR (I := I) el
      have := VR.agg h1 h2
      simp only [Array.toArray_toList] at this
      exact ⟨this, by simp⟩
    · cases e
  · have := ofS_VR (I := I) e
    refine ⟨this.1, fun l hl => ?_⟩
    subst hl; cases this.2

theorem Inv.ev (hI : Inv E P I0 H0 w0 nt β I H w S a) (x : Operand) : SVR I β S.B (S.ev E x) (a.eval x) := by
  cases x with
  | tmp t => simpa [St.ev, Act.eval] using hI.fr t
  | const v =>
    simp only [St.ev, Act.eval]
    cases e : ofV v with
    | none => trivial
    | some h => exact (ofV_VR e).1
  | global g =>
    simp only [St.ev, Act.eval]
    cases e : E.gl g with
    | none => trivial
    | some b => exact VR.ptr (o := 0) (hI.gl g b e)
  | func f => exact VR.func .nil .nil
theorem Inv.evv (hI : Inv E P I0 H0 w0 nt β I H w S a) {x : Operand} {h : HV} (e : S.ev E x = .v h) : VR I h (a.eval x) := by
  have := hI.ev x; rw [e] at this; exact this
theorem Inv.evs (hI : Inv E P I0 H0 w0 nt β I H w S a) : ∀ {l : List Operand} {hs : List HV}, S.evs E l = some hs → VRs I hs (l.map a.eval)
  | [], hs, e => by simp [St.evs] at e; subst e; exact .nil
  | x :: l, hs, e => by
    simp only [St.evs] at e
    split at e
    · rename_i h1 l1 e1 e2
      cases e
      exact .cons (hI.evv e1) (hI.evs e2)
    · cases e

theorem Inv.put (hI : Inv E P I0 H0 w0 nt β I H w S a) {d : Option Nat} {s : SV} {v : Value} (hs : SVR I β S.B s v) (hd : ∀ t, d = some t → t < nt.nt ∧ ∀ b ∈ nt.bars, t ∈ b.T) :
    Inv E P I0 H0 w0 nt β I H w (S.put d s) (a.put d v) := by
  cases d with
  | none => exact hI
  | some t =>
    refine ⟨hI.step, hI.rel, ?_, hI.br, hI.fresh, hI.gl, ?_, ?_, hI.defers⟩
    · intro x
      simp only [St.put, Fr.get_set, Act.put]
      by_cases h : x = t
      · subst h
        rw [if_pos rfl]
        have : x < a.tmps.size := by rw [hI.sz]; exact (hd x rfl).1
        simpa [Array.getD_eq_getD_getElem?, this] using hs
      · rw [if_neg h]
        have := hI.fr x
        simpa [Array.getD_eq_getD_getElem?, Array.getElem?_setIfInBounds_ne (Ne.symm h)] using this
    · simpa [Act.put] using hI.sz
    · intro b hb
      obtain ⟨h1, h2, h3⟩ := hI.anc b hb
      refine ⟨fun x hx => ?_, h2, h3⟩
      have hne : t ≠ x := fun hh => hx (hh ▸ (hd t rfl).2 b hb)
      rw [← h1 x hx]
      simp [Act.put, Array.getD_eq_getD_getElem?, Array.getElem?_setIfInBounds_ne hne]

/-- what goes on behind an operation. -/
def Kont (E : Env) (P : Program) (I0 : Inj) (H0 : Heap) (w0 : World) (nt : Cx) (K : SV → St → M Leaf) (n : Nat) (r : Leaf × Heap) (a : Act) (dst : Option Nat) (next : Act → World → Prop) : Prop :=
  ∀ sv S' H' I' β' w' v, K sv S' H' n = some r → Inv E P I0 H0 w0 nt β' I' H' w' S' a → SVR I' β' S'.B sv v → next (a.put dst v) w'

variable {K : SV → St → M Leaf} {n : Nat} {r : Leaf × Heap} {next : Act → World → Prop} {Q : Exit → Act → World → Prop} {o : Oper}

/-- the fence that lets all in; of a frame of a function (none), or of a round of a loop. -/
def FW (ro : Option Nat) : Fence := { fn := fun _ => True, depth := none, alive := false, round := ro }
theorem callsIn_FW {ro : Option Nat} {n : Nat} {P : Program} {f : FuncId} {args : Array Value} {w : World} {R : Ending → World → Prop} : CallsIn (FW ro) n P f args w R ↔ Calls P f args w R := by
  have : CallsIn (FW ro) n P f args w R ↔ CallsIn Fence.wide n P f args w R := ⟨fun h => h, fun h => h⟩
  rw [this]; exact callsIn_wide
variable {ro : Option Nat}
theorem not_defer {o : Oper} {ρ : Operand → Value} {x : Next} {w w' : World} (h : (execOp ρ o).run P w = .ok x w') (hx : ∀ d, x ≠ .defer d) : ∀ c, o.op ≠ .defer c := by
  intro c hc
  simp only [execOp, hc, Sem.run_bind] at h
  cases hr : (resolve ρ c o.type).run P w with
  | ok d w1 =>
    rw [hr] at h
    simp [Result.andThen] at h
    exact hx d h.1.symm
  | halt y w1 => rw [hr] at h; simp [Result.andThen] at h
theorem wp_value {v : Value} {w' : World} (h : (execOp a.eval o).run P w = .ok (.value v) w') (hn : next (a.put o.dst v) w') : o.wpIn (FW ro) 0 P a w next Q := by
  refine ⟨fun _ _ => trivial, ?_⟩
  rw [Oper.semAt_eq _ _ _ (not_defer h fun d hd => by cases hd), h]; exact hn
theorem wp_skip' {w' : World} (h : (execOp a.eval o).run P w = .ok .skip w') (hn : next (a.put o.dst undef) w') : o.wpIn (FW ro) 0 P a w next Q := by
  refine ⟨fun _ _ => trivial, ?_⟩
  rw [Oper.semAt_eq _ _ _ (not_defer h fun d hd => by cases hd), h]; exact hn

theorem agOf_some {t : TypeId} {b : Bool} (h : agOf P t = some b) : ∃ d i, P.underlying t = some d ∧ P.info? t = some i ∧ (∀ w, (isAgg t).run P w = .ok b w) := by
  unfold agOf at h
  have hi : ∀ d, P.underlying t = some d → ∃ i, P.info? t = some i := by
    intro d hd
    unfold Program.underlying at hd
    cases e : P.info? t with
    | none => rw [e] at hd; cases hd
    | some i => exact ⟨i, rfl⟩
  split at h
  · rename_i fs e; cases h
    obtain ⟨i, h2⟩ := hi _ e
    exact ⟨_, i, e, h2, fun w => by simp [isAgg, run_underlying e]⟩
  · rename_i m el e; cases h
    obtain ⟨i, h2⟩ := hi _ e
    exact ⟨_, i, e, h2, fun w => by simp [isAgg, run_underlying e]⟩
  · rename_i d h1 h2 e; cases h
    obtain ⟨i, h3⟩ := hi _ e
    refine ⟨_, i, e, h3, fun w => ?_⟩
    simp only [isAgg, Sem.run_bind, run_underlying e, Result.andThen_ok]
    cases d <;> first | rfl | (exfalso; exact h1 _ e) | (exfalso; exact h2 _ _ e)
  · cases h
theorem sizeT_eq {t : TypeId} {i : TypeInfo} (h : P.info? t = some i) : sizeT P t = i.size := by simp [sizeT, Program.cellsOf, h]
theorem run_sizeT {t : TypeId} {i : TypeInfo} (h : P.info? t = some i) (w : World) : (sizeOf t).run P w = .ok (sizeT P t) w := run_sizeOf w h

theorem add_none (b o j : Nat) : (⟨b, o, none⟩ : Addr).add j = ⟨b, o + j, none⟩ := by
  unfold Addr.add; split <;> simp_all

theorem run_loadVar_sc {t : TypeId} {A : Addr} {v : Value} (h : agOf P t = some false) (hc : w.cell? A = some v) : (loadVar t A).run P w = .ok v w := by
  obtain ⟨d, i, h1, h2, h3⟩ := agOf_some h
  simp [loadVar, h3, hc]
theorem run_loadVar_ag {t : TypeId} {A : Addr} {l : List Value} (h : agOf P t = some true) (hl : l.length = sizeT P t) (hc : ∀ j v, l[j]? = some v → w.cell? (A.add j) = some v) :
    (loadVar t A).run P w = .ok (.agg l.toArray) w := by
  obtain ⟨d, i, h1, h2, h3⟩ := agOf_some h
  have := run_loadCells_list (P := P) w A l hc
  rw [hl] at this
  simp [loadVar, h3, run_sizeT h2, this]

theorem run_storeVar_cells {t : TypeId} {b off : Nat} {v : Value} {i : TypeInfo} (hi : P.info? t = some i) (hl : v.cells.size = sizeT P t)
    {c : Array Value} {el : TypeId} (hw : w.heap[b]? = some (.cells c el (0, 0))) (ho : off + v.cells.size ≤ c.size) (h1 : ∀ x ∈ v.cells.toList, x.oneCell' = true) :
    (storeVar t ⟨b, off, none⟩ v).run P w = .ok () (w.setCells b off v.cells.toList) := by
  have hst := run_storeCells_cells (P := P) b off v.cells.toList 0 w (by
      intro j hj; rw [cell_of hw]; simp only [Array.length_toList] at hj; rw [Array.getElem?_eq_getElem (by omega)]; rfl)
    (by intro j hj; exact frozen_of hw) h1
  simp only [Nat.add_zero] at hst
  simp [storeVar, run_sizeT hi, hl, hst]

/-- a list of cells that stands from a place on, as it is loaded. -/
theorem cells_slice {I : Inj} {cs : List HV} {c : Array Value} {d o cnt : Nat} (hc : ∀ (i : Nat) (h : HV), cs[i]? = some h → ∃ v, c[d + i]? = some v ∧ VC I h v) (hl : o + cnt ≤ cs.length) :
    ∃ l : List Value, l.length = cnt ∧ VRs I ((cs.drop o).take cnt) l ∧ (∀ v ∈ l, v.oneCell' = true) ∧ ∀ j v, l[j]? = some v → c[d + o + j]? = some v := by
  refine ⟨(List.range cnt).map fun j => c.getD (d + o + j) undef, by simp, ?_, ?_, ?_⟩
  · refine VRs.of_get (by simp; omega) fun i h v e1 e2 => ?_
    have hi : i < cnt := by
      have := (List.getElem?_eq_some_iff.1 e2).1; simpa using this
    simp [hi] at e2
    rw [List.getElem?_take, if_pos hi, List.getElem?_drop] at e1
    obtain ⟨u, h1, h2⟩ := hc _ _ e1
    rw [show d + (o + i) = d + o + i by omega] at h1
    have : c.getD (d + o + i) undef = u := by simp [Array.getD_eq_getD_getElem?, h1]
    rw [← e2, Array.getD_eq_getD_getElem?] at *
    simp [h1] at *
    exact h2.1
  · intro v hv
    simp only [List.mem_map, List.mem_range] at hv
    obtain ⟨j, hj, rfl⟩ := hv
    obtain ⟨x, hx⟩ : ∃ x, cs[o + j]? = some x := ⟨cs[o + j]'(by omega), List.getElem?_eq_getElem _⟩
    obtain ⟨u, h1, h2⟩ := hc _ _ hx
    rw [show d + (o + j) = d + o + j by omega] at h1
    simp only [Array.getD_eq_getD_getElem?, h1, Option.getD_some]
    rw [h2.1.sc, h2.2]
  · intro j v e
    have hj : j < cnt := by
      have := (List.getElem?_eq_some_iff.1 e).1; simpa using this
    simp [hj] at e
    obtain ⟨x, hx⟩ : ∃ x, cs[o + j]? = some x := ⟨cs[o + j]'(by omega), List.getElem?_eq_getElem _⟩
    obtain ⟨u, h1, h2⟩ := hc _ _ hx
    rw [show d + (o + j) = d + o + j by omega] at h1
    simp [h1] at e
    rw [h1, e]
end
end Go.Proofs.Ytijppadieomnjaa.HM
