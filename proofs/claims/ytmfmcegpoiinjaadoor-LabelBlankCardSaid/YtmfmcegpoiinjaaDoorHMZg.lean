/- What came in, read off its types. Conditions: none (lemmas). -/
import Derived.Test.YtmfmcegpoiinjaaDoorHMZb
import Derived.Test.YtmfmcegpoiinjaaDoorHMMc
import Derived.Stop.LaidErr
import Derived.Lib.LaidTab
import Derived.LaidHandle
import Derived.SizedLaws
namespace Go.Proofs.YtmfmcegpoiinjaaDoor.HM
open Go Go.ChangeShapes

theorem trod_len {Hd : Type} {enc : TypeId × Value → Hd} {P : Program} {w : World} {base : Nat} {spare : Nat → Bool} {held : Bool} : ∀ {ts : List TypeId} {vs : List Value} {ds : List (DataW Hd)} {ps : List MemPlace}, DataW.TrodAll enc P w base spare held ts vs ds ps → ds.length = ts.length
  | [], _, _, _, h => by
    obtain ⟨_, rfl, _⟩ := trodAll_nil h
    rfl
  | _ :: _, _, _, _, h => by
    obtain ⟨_, _, _, _, _, _, _, rfl, _, _, h2⟩ := trodAll_cons h
    rw [List.length_cons, List.length_cons, trod_len h2]
theorem choose_map {α β : Type} {f : β → α} {p : β → Prop} : ∀ {ls : List α}, (∀ x ∈ ls, ∃ d, x = f d ∧ p d) → ∃ l : List β, ls = l.map f ∧ ∀ d ∈ l, p d
  | [], _ => ⟨[], rfl, by simp⟩
  | x :: ls, h => by
    obtain ⟨d, rfl, hd⟩ := h x List.mem_cons_self
    obtain ⟨l, rfl, hl⟩ := choose_map (ls := ls) (fun y hy => h y (List.mem_cons_of_mem _ hy))
    exact ⟨d :: l, rfl, fun y hy => by
      rcases List.mem_cons.1 hy with rfl | hy
      · exact hd
      · exact hl y hy⟩
section
variable {P : Program} {H : Heap}
theorem Ty.sliceN {n : Nat} {t e : TypeId} {cs : List HV} (hro : ∀ b cs ro, H.get b = .cells cs ro → ro = true ∧ b < H.n) (hu : P.underlying t = some (.slice e)) (h : Ty P H (n + 1) t cs) :
    ∃ s ls, cs = [.sl s] ∧ SlR H s (sizeT P e) ls ∧ s.opn = none ∧ ∀ l ∈ ls, Ty P H n e l := by
  unfold Ty at h
  rw [hu] at h
  rcases h with rfl | ⟨b, len, cap, obj, rfl, hg, hl, hle, hmx, ht⟩
  · exact ⟨_, [], rfl, ⟨rfl, by simp, Nat.le_refl _, .inl rfl, by simp, .inl ⟨rfl, rfl⟩⟩, rfl, by simp⟩
  · have hmx' : cap ≤ 9223372036854775807 := hmx
    refine ⟨_, (List.range len).map fun i => (obj.drop (i * sizeT P e)).take (sizeT P e), rfl, ⟨by simp, by simp; omega, hle, .inl rfl, ?_, .inr ⟨b, 0, obj, true, rfl, (hro b _ _ hg).2, hg, ?_, ?_⟩⟩, rfl, ?_⟩
    · intro l hl2
      obtain ⟨i, hi, rfl⟩ := List.mem_map.1 hl2
      have hi : i < len := by simpa using hi
      have hm : (i + 1) * sizeT P e ≤ cap * sizeT P e := Nat.mul_le_mul_right _ (by omega)
      rw [Nat.succ_mul] at hm
      rw [List.length_take, List.length_drop, hl]; omega
    · have := Nat.mul_le_mul_right (sizeT P e) hle
      simp; omega
    · have key : ∀ k, k ≤ len → obj.take (k * sizeT P e) = ((List.range k).map fun i => (obj.drop (i * sizeT P e)).take (sizeT P e)).flatten := by
        intro k
        induction k with
        | zero => intro _; simp
        | succ k ih =>
          intro hk
          rw [List.range_succ, List.map_append, List.flatten_append, ← ih (by omega), Nat.succ_mul, List.take_add]
          simp
      simp only [List.drop_zero, List.length_map, List.length_range]
      exact key len (Nat.le_refl _)
    · intro l hl2
      obtain ⟨i, hi, rfl⟩ := List.mem_map.1 hl2
      have hi : i < len := by simpa using hi
      exact ht i (by omega)
theorem Ty.slice {n : Nat} {t e : TypeId} {cs : List HV} (hro : ∀ b cs ro, H.get b = .cells cs ro → ro = true ∧ b < H.n) (hu : P.underlying t = some (.slice e)) (h : Ty P H (n + 1) t cs) :
    ∃ s ls, cs = [.sl s] ∧ SlR H s (sizeT P e) ls ∧ ∀ l ∈ ls, Ty P H n e l := by
  obtain ⟨s, ls, h1, h2, _, h3⟩ := h.sliceN hro hu
  exact ⟨s, ls, h1, h2, h3⟩
theorem Ty.int {n : Nat} {t : TypeId} {k : IntKind} {cs : List HV} (hu : P.underlying t = some (.int k)) (h : Ty P H (n + 1) t cs) : ∃ x, cs = [.int k x] ∧ k.min ≤ x ∧ x ≤ k.max := by
  unfold Ty at h; rw [hu] at h; exact h
theorem Ty.str {n : Nat} {t : TypeId} {cs : List HV} (hu : P.underlying t = some .string) (h : Ty P H (n + 1) t cs) : ∃ s : ByteArray, cs = [.str s] ∧ s.size ≤ maxLen := by
  unfold Ty at h; rw [hu] at h; exact h
theorem Ty.struct {n : Nat} {t : TypeId} {fs : Array Field} {cs : List HV} (hu : P.underlying t = some (.struct fs)) (h : Ty P H (n + 1) t cs) :
    cs.length = sizeT P t ∧ ∀ (i : Nat) (f : Field), fs[i]? = some f → Ty P H n f.type ((cs.drop f.offset).take (sizeT P f.type)) := by
  unfold Ty at h; rw [hu] at h; exact h
def fieldAt (P : Program) (t : TypeId) (i : Nat) : Option (TypeId × Nat) := match P.underlying t with
  | some (.struct fs) => fs[i]?.map fun f => (f.type, f.offset)
  | _ => none
theorem Ty.field {n i : Nat} {t ft : TypeId} {off : Nat} {cs : List HV} (hu : fieldAt P t i = some (ft, off)) (h : Ty P H (n + 1) t cs) : cs.length = sizeT P t ∧ Ty P H n ft ((cs.drop off).take (sizeT P ft)) := by
  unfold fieldAt at hu
  split at hu
  · rename_i fs e
    obtain ⟨h1, h2⟩ := h.struct e
    cases hf : fs[i]? with
    | none => rw [hf] at hu; cases hu
    | some f =>
      rw [hf] at hu
      have := Option.some.inj hu
      have h3 := congrArg Prod.fst this
      have h4 := congrArg Prod.snd this
      simp only at h3 h4
      subst h3; subst h4
      exact ⟨h1, h2 i f hf⟩
  · cases hu
theorem ArgTy.ty {n : Nat} {t : TypeId} {x : HV} (h : ArgTy P H n t x) (ha : agOf P t = some false) : Ty P H n t [x] := by
  unfold ArgTy at h
  rw [ha] at h; exact h
theorem args_one {n : Nat} {t : TypeId} {xs : List HV} (h : ArgsTy P H n [t] xs) : ∃ x, xs = [x] ∧ ArgTy P H n t x := by
  match xs, h with
  | [x], h => exact ⟨x, rfl, h.1⟩
theorem args_two {n : Nat} {t t2 : TypeId} {xs : List HV} (h : ArgsTy P H n [t, t2] xs) : ∃ x y, xs = [x, y] ∧ ArgTy P H n t x ∧ ArgTy P H n t2 y := by
  match xs, h with
  | [x, y], h => exact ⟨x, y, rfl, h.1, h.2.1⟩
theorem args_three {n : Nat} {t t2 t3 : TypeId} {xs : List HV} (h : ArgsTy P H n [t, t2, t3] xs) : ∃ x y z, xs = [x, y, z] ∧ ArgTy P H n t x ∧ ArgTy P H n t2 y ∧ ArgTy P H n t3 z := by
  match xs, h with
  | [x, y, z], h => exact ⟨x, y, z, rfl, h.1, h.2.1, h.2.2.1⟩
end
end Go.Proofs.YtmfmcegpoiinjaaDoor.HM
namespace Go.Proofs.YtmfmcegpoiinjaaDoor.HM
open Go Go.ChangeShapes Go.WideShapes Go.ChangeAt Go.RowKit
set_option linter.unusedSectionVars false
variable [Sites]

section
variable {P : Program} {w : World} {Hd : Type} {enc : TypeId × Value → Hd}
abbrev injAt (I : Inj) (n b : Nat) : Inj := { j := fun x => if x = n then some (b, 0) else I.j x, sz := I.sz }
/-- a read-only object over a block of the world, its type told. -/
theorem Still.layT {I : Inj} {H : Heap} (hg : Still w I H) {b : Nat} {c : Array Value} {el : TypeId} {fr : Nat × Nat} {obj : List HV} {t : Option (Nat × Option Nat)} (hb : w.heap[b]? = some (.cells c el fr))
    (hc : ∀ (i : Nat) (h : HV), obj[i]? = some h → ∃ v, c[i]? = some v ∧ VC I h v) (ht : ∀ u s, t = some (u, s) → u = el ∧ ∀ k, s = some k → c.size = k) :
    Still w (injAt I H.n b) (H.pushT t (.cells obj true)) ∧ Ext I H (injAt I H.n b) (H.pushT t (.cells obj true)) := by
  have hle : I.le (injAt I H.n b) := ⟨fun x y e => (by
    simp only; rw [if_neg]; exact e
    intro hx; rw [hx, hg.rel.j_none (Nat.le_refl _)] at e; cases e), fun _ _ e => e⟩
  have hget : ∀ x, (H.pushT t (.cells obj true)).get x = if x = H.n then .cells obj true else H.get x := fun _ => rfl
  have hty : ∀ x, (H.pushT t (.cells obj true)).ty x = if x = H.n then t else H.ty x := fun _ => rfl
  have hnol : ∀ b s, (H.pushT t (.cells obj true)).get b ≠ .spc s := by
    intro b s e; rw [hget] at e
    split at e
    · cases e
    · exact hg.nol b s e
  refine ⟨⟨⟨?_, ?_, ?_, ?_, ?_, fun b b' d s _ e => absurd e (hnol b s), ?_, fun b1 _ _ _ _ s _ _ _ e _ => absurd e (hnol b1 s)⟩, ?_, hnol⟩, hle, by simp [Heap.pushT], ?_, fun x hx => by rw [hty, if_neg (by omega)]⟩
  · intro x y e; simp only at e; simp only [Heap.pushT]
    split at e
    · omega
    · have := hg.rel.bnd x y e; omega
  · intro x b' d' e; simp only at e
    split at e
    · cases e; exact lt_of_heap hb
    · exact hg.rel.img x b' d' e
  · intro x b' d' cs ro e1 e2; simp only at e1; rw [hget] at e2
    split at e1
    · rename_i hx; rw [if_pos hx] at e2; cases e1; cases e2
      exact ⟨c, el, fr, hb, fun i h hi => by obtain ⟨v, v1, v2⟩ := hc i h hi; exact ⟨v, by rw [Nat.zero_add]; exact v1, v2.mono hle⟩, fun h => by cases h⟩
    · rename_i hx; rw [if_neg hx] at e2
      obtain ⟨c', el', fr', q1, q2, q3⟩ := hg.rel.obj x b' d' cs ro e1 e2
      exact ⟨c', el', fr', q1, fun i h hi => by obtain ⟨v, v1, v2⟩ := q2 i h hi; exact ⟨v, v1, v2.mono hle⟩, q3⟩
  · intro b1 b2 b' d1 d2 c1 c2 ro e1 e2 e3 e4
    rw [hget] at e3
    split at e3
    · cases e3
    · have := (hg.ro _ _ _ e3).1; cases this
  · exact hg.rel.sz
  · intro x b' d' t' s e1 e2
    rw [hty] at e2
    simp only at e1
    split at e2
    · rename_i hx
      rw [if_pos hx] at e1
      cases e1
      obtain ⟨q1, q2⟩ := ht t' s e2
      subst q1
      exact ⟨rfl, c, fr, hb, q2⟩
    · rename_i hx
      rw [if_neg hx] at e1; exact hg.rel.ty _ _ _ _ _ e1 e2
  · intro x cs ro e; rw [hget] at e
    simp only [Heap.pushT]
    split at e
    · cases e; exact ⟨rfl, by omega⟩
    · have := hg.ro x cs ro e; exact ⟨this.1, by omega⟩
  · intro x cs ro e
    rw [hget, if_neg]; exact e
    intro hx; have := (hg.ro x cs ro e).2; omega
def I00 : Inj := { j := fun _ => none, sz := fun _ => none }
def H00 : Heap := { n := 0, get := fun _ => .dead }
theorem Still.none (w : World) : Still w I00 H00 :=
  ⟨⟨fun b x e => (by cases e), fun b b' d e => (by cases e), fun b b' d cs ro e => (by cases e), fun b1 b2 b' d1 d2 c1 c2 ro e => (by cases e), fun b s e => (by cases e), fun b b' d s e => (by cases e), fun b b' d t s e => (by cases e), fun b1 b2 b' d1 d2 s1 s2 e => (by cases e)⟩, fun b cs ro e => (by cases e), fun b s e => (by cases e)⟩

/-! what is laid, cell by cell -/
theorem var_heap {n : String} {g : Nat} {cs : Array Value} (hg : P.globalNamed n = some g) (h : w.var? P n = some cs) : ∃ el fr, w.heap[g]? = some (.cells cs el fr) := by
  simp only [World.var?, hg, Option.bind_some] at h
  split at h
  · rename_i c el fr e
    cases h
    exact ⟨_, _, e⟩
  · cases h
theorem trod_isIface {base fuel : Nat} {sp : Nat → Bool} {held : Bool} {t : TypeId} {ms : Array (String × TypeId)} {cs : List Value} {nm : String} {d : DataW Hd} {p : List MemPlace} (ht : P.underlying t = some (.interface ms))
    (h : DataW.trod enc P w base sp held fuel t cs = some (.iface nm d, p)) : ∃ te pe, cs = [.iface te pe] := by
  cases fuel with
  | zero => simp [DataW.trod] at h
  | succ n =>
    unfold DataW.trod at h
    rw [ht] at h
    split at h <;> simp_all
theorem cells_of_strs {base fuel : Nat} {sp : Nat → Bool} {held : Bool} {t e : TypeId} {n : Nat} {cs : List Value} {ws : List (List UInt8)} {p : List MemPlace} (ht : P.underlying t = some (.array n e)) (he : P.underlying e = some .string) (hce : P.cellsOf e = 1) (hct : P.cellsOf t = n)
    (h : DataW.trod enc P w base sp held fuel t cs = some (.agg (ws.map fun l => .lit (.string l)), p)) : cs = ws.map fun l => Value.string ⟨l.toArray⟩ := by
  obtain ⟨xs, m, rfl, hx, hlen, hn, hel⟩ := DataW.trod_array ht h
  simp only [Prod.mk.injEq, DataW.agg.injEq] at hx
  have hxs := hx.1
  have hwl : ws.length = n := by
    have := congrArg List.length hxs
    simp at this; omega
  apply List.ext_getElem?
  intro i
  by_cases hi : i < n
  · have h1 := hel i hi
    rw [hce, Nat.mul_one, List.getElem?_eq_getElem (by omega)] at h1
    obtain ⟨s, h2, h3, _⟩ := DataW.trod_string he h1
    have h4 : cs[i]? = some (.string s) := by
      have := congrArg (·[0]?) h2
      simpa [List.getElem?_take, List.getElem?_drop] using this
    have h5 := congrArg (·[i]?) hxs
    simp only [List.getElem?_map] at h5
    rw [List.getElem?_eq_getElem (by omega : i < xs.length), List.getElem?_eq_getElem (by omega : i < ws.length), h3] at h5
    simp at h5
    rw [h4, List.getElem?_map, List.getElem?_eq_getElem (by omega)]
    simp only [Option.map_some, Option.some.injEq, Value.string.injEq]
    rw [h5]
  · rw [List.getElem?_eq_none (by omega), List.getElem?_eq_none (by simp; omega)]

/-- a law's run, its variables laid. -/
theorem run_lawG {gl : Nat → Option Nat} {I0 : Inj} {H0 : Heap} {f : FuncId} {fn : Func} {g : List HV → M HV} {N : Nat} {s : ChangeSpec} {apart fresh handsOn again : Bool} {W : World} {args : Array Value} {ds gs : List (DataW Hd)} {before : List MemPlace} {bt : TypeId} {base : Nat} {r : Reach}
    (hok : FnOk P gl f g) (hst : Still W I0 H0) (hgl : ∀ q hb, gl q = some hb → I0.j hb = some (q, 0)) (hl : laidOutB P = true) (hpar : fn.params.toList.all (fun t => P.readableRec t && decide (t < P.types.size)) = true) (hflat : fn.params.toList.all (flatT P N) = true)
    (hres : fn.resultTypes = #[bt]) (hbt : P.underlying bt = some .bool) (hv : s.vars = [])
    (hW : DataW.Whole enc P fn.params.toList s.vars apart W args.toList ds gs before) (hval : ∀ (j : Nat) (t : TypeId) (v : Value), fn.params[j]? = some t → args[j]? = some v → Value.okWide P W r base t v)
    (h1 : (s.fn Hd (ds ++ gs)).results = [.lit (.bool true)]) (h2 : (s.fn Hd (ds ++ gs)).args = ds) (h3 : (s.fn Hd (ds ++ gs)).vars = [])
    (hlaw : ∀ (H : Heap) (xs : List HV), (∀ b cs ro, H.get b = .cells cs ro → ro = true ∧ b < H.n) → H0.n ≤ H.n → (∀ b cs ro, H0.get b = .cells cs ro → H.get b = .cells cs ro) → (∀ b, b < H0.n → H.ty b = H0.ty b) → ArgsTy P H N fn.params.toList xs → ∃ n H', g xs H n = some (.bool true, H')) :
    Calls P f args W fun e W' => ∃ v, e = .returned v ∧ s.post enc P fn apart fresh handsOn again W args v W' := by
  have hW0 := hW
  obtain ⟨p, q, hA, _⟩ := hW0
  obtain ⟨I, H, xs, hg, he, hr, ht⟩ := open_args hA hflat (fun j t v a b => hval j t v (by simpa using a) (by simpa using b)) hst
  obtain ⟨n, H', hrun⟩ := hlaw H xs hg.ro he.n he.get he.ty ht
  have hc := hok.2 xs H n (.bool true) H' hrun I W args.toList hg.rel (fun q hb h => he.le.j _ _ (hgl q hb h)) hr
  rw [Array.toArray_toList] at hc
  refine hc.mono ?_
  rintro e W' ⟨v, I', rfl, hvr, hrel, hstep⟩
  cases hvr
  refine ⟨_, rfl, post_kept hl hpar hres hbt hv hW h1 h2 h3 (fun b hb => hstep.keep b hb ?_ (fun b d s _ => hg.nol b s)) hstep.ext⟩
  intro b' d cs _ hcs
  have := (hg.ro _ _ _ hcs).1
  cases this
end

/-- the wrap: a condition on the first world, and its shape. -/
theorem wrap_laid {H : Type} {enc : TypeId × Value → H} {a : Assume} {C : Checked} {os : Os} {f : FuncId} {fn : Func} {s : ChangeSpec} {conds : List PathCond} {apart fresh handsOn again : Bool} {X : World → Array Value → Prop}
    (hX : ∀ (w w' : World) (args : Array Value), w.heap = w'.heap → X w args → X w' args)
    (own : ownKnob C.prog.godebug = none) (started : os.Started) (noInit : C.prog.inits.idxOf? f = none) (hfn : C.prog.funcs[f]? = some fn)
    (witness : ∃ (w : World) (tape : Tape) (i : Input), w.os = os ∧ (w.forCall tape i).Shaped C.prog ∧ i.vars = [] ∧ Input.okWide C.prog (w.forCall tape i) .any w.heap.size f i ∧
      ((s.pre enc C.prog fn conds apart (w.forCall tape i).memory i.args ∧ X (w.forCall tape i).memory i.args) ∧ sizedMet enc C.prog fn (OpenSpec.ofChange s) apart (w.forCall tape i).memory i.args) ∧ a.holds C.prog (lone (Frame.enter C.prog f i.args .normal) [] (w.forCall tape i)))
    (contract : ∀ (W : World) (base : Nat) (args : Array Value) (ds gs : List (DataW H)) (before : List MemPlace),
      (∀ (j : Nat) t v, fn.params[j]? = some t → args[j]? = some v → Value.okWide C.prog W .any base t v) →
      DataW.Whole enc C.prog fn.params.toList s.vars apart W args.toList ds gs before → X W args → W.ShapedOpen C.prog →
      Calls C.prog f args W fun e W' => ∃ v, e = .returned v ∧ s.post enc C.prog fn apart fresh handsOn again W args v W') :
    ReturnsInHanded a C os f .any (fun w args => (s.pre enc C.prog fn conds apart w args ∧ X w args) ∧ sizedMet enc C.prog fn (OpenSpec.ofChange s) apart w args) (s.post enc C.prog fn apart fresh handsOn again) := by
  refine returnsInHanded_of_calls own started noInit witness fun w tape i _ hsh _ hok hpre _ => ?_
  obtain ⟨_, _, _, fn', hfn', _, _, _, _, hval⟩ := hok
  cases hfn'.symm.trans hfn
  obtain ⟨⟨⟨ds, gs, before, hw, _⟩, hx⟩, _⟩ := hpre
  exact (contract _ _ _ ds gs before hval (DataW.Whole.of_heap (w' := w.forCall tape i) (by rfl) hw) (hX _ _ _ (by rfl) hx) hsh).mono fun e W' ⟨v, he, hp⟩ => by
    subst he
    exact ChangeSpec.post_blind hp
end Go.Proofs.YtmfmcegpoiinjaaDoor.HM
