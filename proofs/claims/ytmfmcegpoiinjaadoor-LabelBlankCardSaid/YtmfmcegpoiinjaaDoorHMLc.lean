/- Contracts of library functions as texts: what is the same at every seat. Conditions: none (lemmas). -/
import Derived.Test.YtmfmcegpoiinjaaDoorHMLb
import Derived.Test.YtmfmcegpoiinjaaDoorHMSr
import Derived.Below
import Derived.Lib.SmallJoins
import Derived.Lib.AppendIntMem
namespace Go.Proofs.YtmfmcegpoiinjaaDoor.HM
open Go Go.Proofs Go.RowKit
set_option linter.unusedSectionVars false
variable [Sites]
section
variable {I : Inj} {H : Heap} {w w' : World}
theorem Rel.below (h : Rel I H w) (hb : Below w.heap.size w w') : Rel I H w' := by
  have hk : ∀ {x : Nat} {o : Obj}, w.heap[x]? = some o → w'.heap[x]? = some o := fun {x o} hx => by rw [hb.block x (lt_of_heap hx)]; exact hx
  exact ⟨h.bnd, fun b b' d e => Nat.lt_of_lt_of_le (h.img b b' d e) hb.size, fun b b' d cs ro e1 e2 => let ⟨c, el, fr, q1, q2⟩ := h.obj b b' d cs ro e1 e2; ⟨c, el, fr, hk q1, q2⟩, h.inj,
    fun b' s e => let ⟨c, el, fr, q1, q2⟩ := h.sz b' s e; ⟨c, el, fr, hk q1, q2⟩, fun b b' d s e1 e2 => let ⟨a, o, q1, q2⟩ := h.spc b b' d s e1 e2; ⟨a, o, hk q1, q2⟩,
    fun b b' d t s e1 e2 => let ⟨a, c, fr, q1, q2⟩ := h.ty b b' d t s e1 e2; ⟨a, c, fr, hk q1, q2⟩, h.sinj⟩
theorem Step.below (I : Inj) (H : Heap) (hb : Below w.heap.size w w') : Step I H w I H w' :=
  ⟨⟨hb.os, hb.output⟩, .refl I, Nat.le_refl _, hb.size, fun x hx _ _ => hb.block x hx, fun b _ d h => .inr ⟨b, d, h⟩, fun b _ d cs h e => .inr ⟨b, d, cs, h, e⟩, fun b _ d s h e => .inr ⟨b, d, s, h, e⟩, fun x r h => ⟨r, by rw [hb.block x (lt_of_heap h)]; exact h⟩⟩
end
theorem glM_some {α : Type} {p : Heap → Prop} {m : M α} {H : Heap} {n : Nat} {r : α × Heap} (h : glM p m H n = some r) : p H ∧ app m H n = some r := by
  have h : @ite _ (p H) (Classical.propDecidable (p H)) m stk H n = some r := h
  by_cases hp : p H
  · rw [if_pos hp] at h; exact ⟨hp, h⟩
  · rw [if_neg hp] at h; exact (stk_some h).elim
theorem nw_some {α : Type} {cs : List HV} {f : Nat → M α} {H : Heap} {n : Nat} {r : α × Heap} (h : nw cs f H n = some r) : app (f H.n) (H.push (.cells cs false)) n = some r := h
section
variable {I : Inj} {H : Heap} {w : World} {gl : Nat → Option Nat}
/-- a variable of the library, by its object. -/
theorem gl_cell {q hb : Nat} {cs : List HV} {ro : Bool} {i : Nat} {v : HV} (hR : Rel I H w) (hgl : ∀ q hb, gl q = some hb → I.j hb = some (q, 0)) (hq : gl q = some hb) (hg : H.get hb = .cells cs ro) (hv : cs[i]? = some v) : ∃ u, w.cell? ⟨q, i, none⟩ = some u ∧ VR I v u := by
  obtain ⟨c, el, fr, h1, h2, _⟩ := hR.obj _ _ _ _ _ (hgl _ _ hq) hg
  obtain ⟨u, h3, h4⟩ := h2 i v hv
  exact ⟨u, by rw [cell_of h1]; simpa using h3, h4.1⟩
theorem gl_max {q : Nat} (hR : Rel I H w) (hgl : ∀ q hb, gl q = some hb → I.j hb = some (q, 0)) (hq : gl q = some 0) (h : GMax H) : ∃ m, w.cell? ⟨q, 0, none⟩ = some (.int .i64 m) := by
  obtain ⟨m, ro, hg⟩ := h
  obtain ⟨u, h1, h2⟩ := gl_cell hR hgl hq hg (i := 0) rfl
  cases h2; exact ⟨m, h1⟩
theorem gl_err {q i : Nat} (hR : Rel I H w) (hgl : ∀ q hb, gl q = some hb → I.j hb = some (q, 0)) (hq : gl q = some i) (h : GErr i H) : ∃ ev, w.cell? ⟨q, 0, none⟩ = some ev ∧ (ev = .nilIface ∨ ∃ te pe, ev = .iface te pe) := by
  obtain ⟨b, ro, hg⟩ := h
  obtain ⟨u, h1, h2⟩ := gl_cell hR hgl hq hg (i := 0) rfl
  refine ⟨u, h1, ?_⟩
  cases h2
  · exact .inr ⟨_, _, rfl⟩
  · exact .inl rfl
theorem gl_pow {q : Nat} {P : Program} (hR : Rel I H w) (hgl : ∀ q hb, gl q = some hb → I.j hb = some (q, 0)) (hq : gl q = some 1) (h : GPow H) (hn : P.globalNamed "internal/strconv.uint64pow10" = some q) : Lib.TabIs P w "internal/strconv.uint64pow10" .u64 Lib.pow10Tab := by
  obtain ⟨ro, t, hg, hty⟩ := h
  obtain ⟨c, el, fr, h1, h2, _⟩ := hR.obj _ _ _ _ _ (hgl _ _ hq) hg
  obtain ⟨_, c2, fr2, h3, h4⟩ := hR.ty _ _ _ _ _ (hgl _ _ hq) hty
  rw [h1] at h3; cases h3
  have hsz := h4 _ rfl
  simp only [Lib.TabIs, World.var?, hn, Option.bind_some, h1, Option.some.injEq]
  apply Array.ext
  · simp [hsz]
  · intro i hi1 hi2
    have hi : i < Lib.pow10Tab.length := by simpa using hi2
    obtain ⟨u, h5, h6⟩ := h2 i (.int .u64 Lib.pow10Tab[i]) (by simp [hi])
    have h7 := h6.1
    cases h7
    simp only [Nat.zero_add] at h5
    have := (Array.getElem?_eq_some_iff.1 h5).2
    simpa using this
end
theorem args1 {I : Inj} {x : HV} {l : List Value} (h : VRs I [x] l) : ∃ v, l = [v] ∧ VR I x v := by
  cases h with | cons a b => cases b; exact ⟨_, rfl, a⟩
theorem args2 {I : Inj} {x y : HV} {l : List Value} (h : VRs I [x, y] l) : ∃ u v, l = [u, v] ∧ VR I x u ∧ VR I y v := by
  cases h with | cons a b => cases b with | cons c d => cases d; exact ⟨_, _, rfl, a, c⟩

section
variable {P : Program} {gl : Nat → Option Nat} {f : Nat} {D : HV → List HV → M HV}
/-- the function is there. -/
def Bodied (P : Program) (f : Nat) : Prop := ∃ fn c, P.funcs[f]? = some fn ∧ fn.body = some c ∧ (fn.name == "runtime.NumGoroutine") = false
theorem bodied {fn : Func} (hf : P.funcs[f]? = some fn) (hs : fn.body.isSome = true) (hn : (fn.name == "runtime.NumGoroutine") = false) : Bodied P f := by
  cases hb : fn.body with
  | none => rw [hb] at hs; cases hs
  | some c => exact ⟨fn, c, hf, hb, hn⟩
theorem ok_Itoa (hb : Bodied P f) {q : Nat} (hq : gl q = some 1) (hn : P.globalNamed "internal/strconv.uint64pow10" = some q)
    (hc : ∀ (n : Int), -9223372036854775808 ≤ n → n ≤ 9223372036854775807 → ∀ w : World, Lib.TabIs P w "internal/strconv.uint64pow10" .u64 Lib.pow10Tab → Calls P f #[.int .i64 n] w fun e w' => e = .returned (.string ⟨(Lib.itoa n).toArray⟩) ∧ ∃ k os, w' = Sort.grow (w.drewN k) os) :
    FnOk P gl f (f_strconv_Itoa D) := by
  refine ⟨hb, fun args H n r H' h I w args' hR hgl ha => ?_⟩
  obtain ⟨v, l, rfl, h⟩ := uc_some h
  obtain ⟨m, rfl, h⟩ := asI_some h
  obtain ⟨rfl, h⟩ := nl_some h
  obtain ⟨g, h⟩ := gd_some h
  obtain ⟨hp, h⟩ := glM_some h
  simp only [app, ret, Option.some.injEq, Prod.mk.injEq] at h
  obtain ⟨rfl, rfl⟩ := h
  obtain ⟨u, rfl, hu⟩ := args1 ha
  cases hu
  simp only [Bool.and_eq_true, decide_eq_true_eq] at g
  refine (hc m g.1 g.2 w (gl_pow hR hgl hq hp hn)).mono ?_
  rintro e w' ⟨rfl, k, os, rfl⟩
  have hbl := Lib.below_grow w.heap.size w (Nat.le_refl _) k os
  exact ⟨_, I, rfl, .str _, hR.below hbl, .below I H hbl⟩
theorem ok_Atoi (hb : Bodied P f) {q2 q3 : Nat} (hq2 : gl q2 = some 2) (hq3 : gl q3 = some 3) {tb te : TypeId}
    (hc1 : ∀ (s : ByteArray), s.size ≤ 9223372036854775806 → ∀ v, Lib.atoiAll s.data.toList = .ok v → ∀ w : World, Calls P f #[.string s] w fun e w' => e = .returned (.tuple #[.int .i64 v, .nilIface]) ∧ (w' = w ∨ ∃ t, w' = Lib.bytesWorld w tb t))
    (hc2 : ∀ (s : ByteArray), s.size ≤ 281474976710656 → Lib.atoiAll s.data.toList = .«syntax» → ∀ (ev : Value) (w : World), w.cell? ⟨q2, 0, none⟩ = some ev → (ev = .nilIface ∨ ∃ te pe, ev = .iface te pe) →
      Calls P f #[.string s] w fun e w' => ∃ N, e = .returned (.tuple #[.int .i64 (0), .iface te (.pointer (some ⟨N, 0, none⟩))]) ∧ Below w.heap.size w w')
    (hc3 : ∀ (s : ByteArray), s.size ≤ 281474976710656 → Lib.atoiAll s.data.toList = .range → ∀ (ev : Value) (w : World), w.cell? ⟨q3, 0, none⟩ = some ev → (ev = .nilIface ∨ ∃ te pe, ev = .iface te pe) →
      Calls P f #[.string s] w fun e w' => ∃ N, e = .returned (.tuple #[.int .i64 (Lib.atoiSat s.data.toList), .iface te (.pointer (some ⟨N, 0, none⟩))]) ∧ Below w.heap.size w w') :
    FnOk P gl f (f_strconv_Atoi D) := by
  refine ⟨hb, fun args H n r H' h I w args' hR hgl ha => ?_⟩
  obtain ⟨v, l, rfl, h⟩ := uc_some h
  obtain ⟨m, rfl, h⟩ := asS_some h
  obtain ⟨rfl, h⟩ := nl_some h
  obtain ⟨g, h⟩ := gd_some h
  obtain ⟨⟨hp2, hp3⟩, h⟩ := glM_some h
  simp only [app, ret, Option.some.injEq, Prod.mk.injEq] at h
  obtain ⟨rfl, rfl⟩ := h
  obtain ⟨u, rfl, hu⟩ := args1 ha
  cases hu
  have g := of_decide_eq_true g
  unfold atoiV
  cases e : Lib.atoiAll m.data.toList with
  | ok v =>
    refine (hc1 m (by omega) v e w).mono ?_
    rintro e w' ⟨rfl, hw⟩
    have hbl : Below w.heap.size w w' := by
      rcases hw with rfl | ⟨t, rfl⟩
      · exact .refl _ _
      · exact Go.Joins.below_bytesWorld _ w tb t (Nat.le_refl _)
    exact ⟨_, I, rfl, .tup (.cons (.int _ _) (.cons .ifcN .nil)), hR.below hbl, .below I H hbl⟩
  | «syntax» =>
    obtain ⟨ev, h1, h2⟩ := gl_err hR hgl hq2 hp2
    refine (hc2 m g e ev w h1 h2).mono ?_
    rintro e w' ⟨N, rfl, hbl⟩
    exact ⟨_, I, rfl, .tup (.cons (.int _ _) (.cons .ifc .nil)), hR.below hbl, .below I H hbl⟩
  | range =>
    obtain ⟨ev, h1, h2⟩ := gl_err hR hgl hq3 hp3
    refine (hc3 m g e ev w h1 h2).mono ?_
    rintro e w' ⟨N, rfl, hbl⟩
    exact ⟨_, I, rfl, .tup (.cons (.int _ _) (.cons .ifc .nil)), hR.below hbl, .below I H hbl⟩
theorem ok_Split (hb : Bodied P f) {q : Nat} (hq : gl q = some 0) {el : TypeId}
    (hc : ∀ (s sep : ByteArray) (m : Int) (w : World), s.size < 4294967281 → w.cell? ⟨q, 0, none⟩ = some (.int .i64 m) → 1 ≤ sep.size → Calls P f #[.string s, .string sep] w fun e w' =>
      e = .returned (.slice (some ⟨w.heap.size, 0, none⟩) (Lib.countB s sep + 1) (Lib.countB s sep + 1)) ∧ w' = w.alloc (.cells ((Lib.splitB sep 0 (Lib.countB s sep) s).map Value.string).toArray el)) :
    FnOk P gl f (f_strings_Split D) := by
  refine ⟨hb, fun args H n r H' h I w args' hR hgl ha => ?_⟩
  obtain ⟨v, l, rfl, h⟩ := uc_some h
  obtain ⟨s, rfl, h⟩ := asS_some h
  obtain ⟨v, l, rfl, h⟩ := uc_some h
  obtain ⟨sep, rfl, h⟩ := asS_some h
  obtain ⟨rfl, h⟩ := nl_some h
  obtain ⟨g, h⟩ := gd_some h
  obtain ⟨hp, h⟩ := glM_some h
  have h := nw_some h
  simp only [app, ret, Option.some.injEq, Prod.mk.injEq] at h
  obtain ⟨rfl, rfl⟩ := h
  obtain ⟨u1, u2, rfl, hu1, hu2⟩ := args2 ha
  cases hu1; cases hu2
  simp only [Bool.and_eq_true, decide_eq_true_eq] at g
  obtain ⟨m, hm⟩ := gl_max hR hgl hq hp
  refine (hc s sep m w g.2 hm g.1).mono ?_
  rintro e w' ⟨rfl, rfl⟩
  have hcell : ∀ (i : Nat) (x : HV), ((Lib.splitB sep 0 (Lib.countB s sep) s).map HV.str)[i]? = some x → ∃ v, ((Lib.splitB sep 0 (Lib.countB s sep) s).map Value.string).toArray[i]? = some v ∧ VC I x v := by
    intro i x hx
    rw [List.getElem?_map] at hx
    cases e : (Lib.splitB sep 0 (Lib.countB s sep) s)[i]? with
    | none => rw [e] at hx; cases hx
    | some y => rw [e] at hx; cases hx; exact ⟨.string y, by simp [e], .str y, rfl⟩
  refine ⟨_, _, rfl, ?_, hR.new el hcell, .new hR _ _ el⟩
  exact VR.sl (o := 0) (d := 0) (up_j I H.n w.heap.size _) (Nat.le_refl _) (fun _ => rfl) (fun es hes => by cases hes)
theorem ok_Contains (hb : Bodied P f) {q : Nat} (hq : gl q = some 0)
    (hc : ∀ (s sub : ByteArray) (m : Int) (w : World), s.size < 4294967281 → w.cell? ⟨q, 0, none⟩ = some (.int .i64 m) → Calls P f #[.string s, .string sub] w fun e w' => e = .returned (.bool (Lib.contains s.data.toList sub.data.toList)) ∧ w' = w) :
    FnOk P gl f (f_strings_Contains D) := by
  refine ⟨hb, fun args H n r H' h I w args' hR hgl ha => ?_⟩
  obtain ⟨v, l, rfl, h⟩ := uc_some h
  obtain ⟨s, rfl, h⟩ := asS_some h
  obtain ⟨v, l, rfl, h⟩ := uc_some h
  obtain ⟨sep, rfl, h⟩ := asS_some h
  obtain ⟨rfl, h⟩ := nl_some h
  obtain ⟨g, h⟩ := gd_some h
  obtain ⟨hp, h⟩ := glM_some h
  simp only [app, ret, Option.some.injEq, Prod.mk.injEq] at h
  obtain ⟨rfl, rfl⟩ := h
  obtain ⟨u1, u2, rfl, hu1, hu2⟩ := args2 ha
  cases hu1; cases hu2
  obtain ⟨m, hm⟩ := gl_max hR hgl hq hp
  refine (hc s sep m w (of_decide_eq_true g) hm).mono ?_
  rintro e w' ⟨rfl, rfl⟩
  exact ⟨_, I, rfl, .bool _, hR, .refl I H _⟩
theorem ok_Repeat (hb : Bodied P f)
    (hc : ∀ (s : ByteArray) (c : Nat) (w : World), c ≤ 9223372036854775807 → s.size * c ≤ 140737488355328 → Calls P f #[.string s, .int .i64 c] w fun e w' => e = .returned (.string ⟨(Lib.repeatL s.data.toList c).toArray⟩) ∧ Below w.heap.size w w') :
    FnOk P gl f (f_strings_Repeat D) := by
  refine ⟨hb, fun args H n r H' h I w args' hR hgl ha => ?_⟩
  obtain ⟨v, l, rfl, h⟩ := uc_some h
  obtain ⟨s, rfl, h⟩ := asS_some h
  obtain ⟨v, l, rfl, h⟩ := uc_some h
  obtain ⟨c, rfl, h⟩ := asI_some h
  obtain ⟨rfl, h⟩ := nl_some h
  obtain ⟨g, h⟩ := gd_some h
  simp only [app, ret, Option.some.injEq, Prod.mk.injEq] at h
  obtain ⟨rfl, rfl⟩ := h
  obtain ⟨u1, u2, rfl, hu1, hu2⟩ := args2 ha
  cases hu1; cases hu2
  simp only [Bool.and_eq_true, decide_eq_true_eq] at g
  obtain ⟨⟨g1, g2⟩, g3⟩ := g
  have := hc s c.toNat w (by omega) g3
  rw [show ((c.toNat : Nat) : Int) = c by omega] at this
  refine this.mono ?_
  rintro e w' ⟨rfl, hbl⟩
  exact ⟨_, I, rfl, .str _, hR.below hbl, .below I H hbl⟩
theorem ok_copyCheck (hb : Bodied P f) {T : Nat}
    (hc1 : ∀ (b : Nat) (w : World), w.cell? ⟨b, 0, none⟩ = some (.pointer (some ⟨b, 0, none⟩)) → Calls P f #[.pointer (some ⟨b, 0, none⟩)] w fun e w' => e = .returned (.tuple #[]) ∧ w' = w)
    (hc2 : ∀ (b : Nat) (w : World), w.cell? ⟨b, 0, none⟩ = some (.pointer none) → w.shape? b = some (T, 2) → w.frozen? ⟨b, 0, none⟩ = false → Calls P f #[.pointer (some ⟨b, 0, none⟩)] w fun e w' => e = .returned (.tuple #[]) ∧ w' = w.setCell ⟨b, 0, none⟩ (.pointer (some ⟨b, 0, none⟩))) :
    FnOk P gl f (copyCheckT T) := by
  refine ⟨hb, fun args H n r H' h I w args' hR hgl ha => ?_⟩
  obtain ⟨v, l, rfl, h⟩ := uc_some h
  obtain ⟨p, rfl, h⟩ := asP_some h
  obtain ⟨rfl, h⟩ := nl_some h
  obtain ⟨b, o, rfl, h⟩ := mP_some h
  obtain ⟨g, h⟩ := gd_some h
  have g := of_decide_eq_true g
  subst g
  obtain ⟨hty, h⟩ := tyM_some h
  obtain ⟨cs, ro, a, hg, ha0, h⟩ := ldC_some h
  obtain ⟨q, rfl, h⟩ := asP_some h
  obtain ⟨u, rfl, hu⟩ := args1 ha
  cases hu with
  | @ptr _ _ b' d hj =>
    obtain ⟨hd, c, fr, h1, h2⟩ := hR.ty _ _ _ _ _ hj hty
    subst hd
    obtain ⟨c2, el, fr2, h3, h4, h5⟩ := hR.obj _ _ _ _ _ hj hg
    rw [h1] at h3; cases h3
    obtain ⟨v, h6, h7⟩ := h4 0 _ ha0
    have h7 := h7.1
    cases q with
    | none =>
      cases h7
      obtain ⟨cs2, hg2, hlt, _, h⟩ := stC_some h
      rw [hg] at hg2; cases hg2
      obtain ⟨_, hfr⟩ := h5 rfl
      subst hfr
      simp only [app, ret, Option.some.injEq, Prod.mk.injEq] at h
      obtain ⟨rfl, rfl⟩ := h
      refine (hc2 b' w (by rw [cell_of h1]; simpa using h6) (by simp [World.shape?, h1, h2]) (frozen_of h1)).mono ?_
      rintro e w' ⟨rfl, rfl⟩
      have hv : VC I (.ptr (some (b, 0))) (.pointer (some ⟨b', 0, none⟩)) := ⟨VR.ptr (d := 0) (o := 0) hj, rfl⟩
      have hw := heap_setCell (i := 0) (.pointer (some ⟨b', 0, none⟩)) h1
      have hc0 : c.size = 2 := h2 2 rfl
      have hrel := hR.put (cs2 := cs.set 0 (.ptr (some (b, 0)))) hj hg h1 (by simp) hw (fun x hx => heap_setCell_ne (a := ⟨b', 0, none⟩) _ hx) (by simp [World.setCell]) (by
        intro i x hx
        rw [List.getElem?_set] at hx
        split at hx
        · rename_i hi; subst hi
          cases hx; exact ⟨_, by simp [hc0], hv⟩
        · rename_i hi
          obtain ⟨v, q1, q2⟩ := h4 i x hx
          refine ⟨v, ?_, q2⟩
          rw [Array.getElem?_setIfInBounds_ne (by omega)]; simpa using q1)
      exact ⟨_, I, rfl, .tup .nil, hrel, Step.put _ h1 hj hg (fun x hx => heap_setCell_ne (a := ⟨b', 0, none⟩) _ hx) (by simp [World.setCell]) ⟨rfl, rfl⟩⟩
    | some q =>
      obtain ⟨b2, o2⟩ := q
      obtain ⟨g2, h0⟩ := gd_some h
      clear h
      have h := h0
      clear h0
      simp only [Bool.and_eq_true, decide_eq_true_eq] at g2
      obtain ⟨rfl, rfl⟩ := g2
      simp only [app, ret, Option.some.injEq, Prod.mk.injEq] at h
      obtain ⟨rfl, rfl⟩ := h
      cases h7 with
      | ptr hj2 =>
        rw [hj] at hj2; cases hj2
        refine (hc1 b' w (by rw [cell_of h1]; simpa using h6)).mono ?_
        rintro e w' ⟨rfl, rfl⟩
        exact ⟨_, I, rfl, .tup .nil, hR, .refl I H _⟩
end
end Go.Proofs.YtmfmcegpoiinjaaDoor.HM
