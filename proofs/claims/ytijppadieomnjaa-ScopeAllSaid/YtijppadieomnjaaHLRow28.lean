/- THE ROWS ScopeOf, ScopeAll hold. Conditions: none but the statements' own. -/
import Derived.Test.YtijppadieomnjaaHLGb
import Derived.Test.YtijppadieomnjaaHLPf
import Derived.Test.YtijppadieomnjaaHLZc
import Derived.Test.YtijppadieomnjaaRows
namespace Go.Proofs.Ytijppadieomnjaa
open Go Go.ChangeShapes Go.WideShapes Go.ChangeAt Go.RowKit Go.Proofs.Ytijppadieomnjaa.HL
set_option maxRecDepth 100000
theorem Try.own : ownKnob Try.prog.godebug = none := by kernel_rfl
theorem Try.laidOut : laidOutB Try.prog = true := by kernel_rfl
def RO (H : Heap) : Prop := ∀ b cs ro, H.get b = .cells cs ro → ro = true ∧ b < H.n
theorem u22 : Try.prog.underlying 22 = some (.slice 77) := by kernel_rfl
theorem u3 : Try.prog.underlying 3 = some (.int .i64) := by kernel_rfl
theorem u75 : Try.prog.underlying 75 = some (.int .i64) := by kernel_rfl
theorem z3 : sizeT Try.prog 3 = 1 := by kernel_rfl
theorem z75 : sizeT Try.prog 75 = 1 := by kernel_rfl
theorem z77 : sizeT Try.prog 77 = 4 := by kernel_rfl
theorem ag22 : agOf Try.prog 22 = some false := by kernel_rfl
theorem ag3 : agOf Try.prog 3 = some false := by kernel_rfl
theorem f77a : fieldAt Try.prog 77 0 = some (75, 0) := by kernel_rfl
theorem f77b : fieldAt Try.prog 77 1 = some (3, 1) := by kernel_rfl
theorem f77c : fieldAt Try.prog 77 2 = some (3, 2) := by kernel_rfl
theorem f77d : fieldAt Try.prog 77 3 = some (3, 3) := by kernel_rfl
theorem in_instr {H : Heap} {n : Nat} {cs : List HV} (h : Ty Try.prog H (n + 2) 77 cs) : ∃ x : Ins, cs = x.cs ∧ IFit x := by
  obtain ⟨hl, h1⟩ := h.field f77a
  obtain ⟨_, h2⟩ := h.field f77b
  obtain ⟨_, h3⟩ := h.field f77c
  obtain ⟨_, h4⟩ := h.field f77d
  rw [z77] at hl
  rw [z75] at h1
  rw [z3] at h2 h3 h4
  match cs, hl with
  | [a, b, c, d], _ =>
    obtain ⟨x, hx, hx1, hx2⟩ := h1.int u75
    obtain ⟨y, hy, hy1, hy2⟩ := h2.int u3
    obtain ⟨z, hz, hz1, hz2⟩ := h3.int u3
    obtain ⟨w, hw, hw1, hw2⟩ := h4.int u3
    simp at hx hy hz hw
    subst hx; subst hy; subst hz; subst hw
    exact ⟨⟨x, y, z, w⟩, rfl, ⟨i64_bounds hx1 hx2, i64_bounds hy1 hy2, i64_bounds hz1 hz2, i64_bounds hw1 hw2⟩⟩
theorem in_prog {H : Heap} (hro : RO H) {x : HV} (h : ArgTy Try.prog H 6 22 x) : ∃ s p, x = .sl s ∧ RProg H s p ∧ ∀ y ∈ p, IFit y := by
  obtain ⟨s, ls, e, hs, hl⟩ := (h.ty ag22).slice hro u22
  rw [z77] at hs
  obtain ⟨l, rfl, hf⟩ := choose_map (f := Ins.cs) (p := IFit) fun x hx => in_instr (hl x hx)
  simp at e
  exact ⟨s, l, e, hs, hf⟩
theorem in_int {H : Heap} {x : HV} (h : ArgTy Try.prog H 6 3 x) : ∃ y, x = I y := by
  obtain ⟨y, hy, _⟩ := (h.ty ag3).int u3
  simp at hy
  exact ⟨y, hy⟩
theorem yes_run {m : M HV} {H : Heap} (h : wp m Yes H) : ∃ n H', m H n = some (.bool true, H') := by
  obtain ⟨n, a, H', h1, rfl⟩ := h.run
  exact ⟨n, H', h1⟩
theorem args_two {P : Program} {H : Heap} {n : Nat} {t1 t2 : TypeId} {xs : List HV} (h : ArgsTy P H n [t1, t2] xs) : ∃ x y, xs = [x, y] ∧ ArgTy P H n t1 x ∧ ArgTy P H n t2 y := by
  match xs, h with
  | [x, y], h => exact ⟨x, y, rfl, h.1, h.2.1⟩

theorem law3 (H : Heap) (xs : List HV) (hro : RO H) (ht : ArgsTy Try.prog H 6 Try.f3.params.toList xs) : ∃ n H', f_law28_ScopeOf (lev 5) xs H n = some (.bool true, H') := by
  rw [Try.params3] at ht
  obtain ⟨x, y, rfl, hx, hy⟩ := args_two ht
  obtain ⟨s, p, rfl, hs, hf⟩ := in_prog hro hx
  obtain ⟨a, rfl⟩ := in_int hy
  exact yes_run (law28_ScopeOf_wp (D0 := lev 3) rfl rfl hs hf a)
theorem lifted3 (os : Os) (started : os.Started) (H : Type) (enc : TypeId × Value → H) :
    ReturnsInHanded {} Try.checked os 3 .any (Rows.scopeOfSpec.pre6 enc Try.prog Try.f3 Rows.scopeOfRow.domain false) (Rows.scopeOfSpec.post enc Try.prog Try.f3 false Rows.scopeOfRow.fresh Rows.scopeOfRow.handsOn Rows.scopeOfRow.again) := by
  refine returnsInHanded_of_change (C := Try.checked) Try.own started (by kernel_rfl) Try.func3
    (ChangeSpec.witness6 (enc := enc) (C := Try.checked) false ⟨#[], #[.slice none 0 0, .int .i64 0], []⟩ 8 (by kernel_rfl) (by kernel_rfl) (by kernel_rfl) (by kernel_rfl)) ?_
  intro W base args ds gs before hval0 hW hcnd _
  have hd : ds.length = 2 ∧ gs = [] := by
    obtain ⟨p, q, hA, hV, _⟩ := hW
    have hA' : DataW.TrodAll enc Try.prog W 0 (fun _ => true) true Try.f3.params.toList args.toList ds p := hA
    rw [Try.params3] at hA'
    obtain ⟨rfl, rfl⟩ := trodVars_none hV
    exact ⟨trod_len hA', rfl⟩
  obtain ⟨hd, rfl⟩ := hd
  match ds, hd with
  | [d0, d1], _ =>
    exact run_law (N := 6) (bt := 4) (ok3 (lev_ok 5)) Try.laidOut (by kernel_rfl) (by kernel_rfl) (by kernel_rfl) (by kernel_rfl) rfl hW hval0 rfl rfl rfl law3
/-- ScopeOf: for every input the law answers true. -/
theorem ScopeOf_holds : Rows.ScopeOfSaid :=
  OpenClaim.holds_of_wide 3 Try.f3 rfl rfl rfl rfl rfl rfl rfl ⟨rfl, rfl, rfl, rfl, rfl⟩ rfl rfl rfl rfl rfl (by kernel_rfl) Try.func3 (by kernel_rfl)
    (of_decide_eq_true (by kernel_rfl)) (by unfold Func.isWrapper; first | (rw [if_pos (by decide +kernel)]; kernel_rfl) | (rw [if_neg (by decide +kernel)]; exact ⟨rfl, rfl⟩))
    (fun os started H enc _ => lifted3 os started H enc)

theorem law5 (H : Heap) (xs : List HV) (hro : RO H) (ht : ArgsTy Try.prog H 6 Try.f5.params.toList xs) : ∃ n H', f_law28_ScopeAll (lev 5) xs H n = some (.bool true, H') := by
  rw [Try.params5] at ht
  obtain ⟨x, y, rfl, hx, hy⟩ := args_two ht
  obtain ⟨s, p, rfl, hs, hf⟩ := in_prog hro hx
  obtain ⟨a, rfl⟩ := in_int hy
  exact yes_run (law28_ScopeAll_wp (D0 := lev 2) rfl rfl rfl rfl hs hf a)
theorem lifted5 (os : Os) (started : os.Started) (H : Type) (enc : TypeId × Value → H) :
    ReturnsInHanded {} Try.checked os 5 .any (Rows.scopeAllSpec.pre6 enc Try.prog Try.f5 Rows.scopeAllRow.domain false) (Rows.scopeAllSpec.post enc Try.prog Try.f5 false Rows.scopeAllRow.fresh Rows.scopeAllRow.handsOn Rows.scopeAllRow.again) := by
  refine returnsInHanded_of_change (C := Try.checked) Try.own started (by kernel_rfl) Try.func5
    (ChangeSpec.witness6 (enc := enc) (C := Try.checked) false ⟨#[], #[.slice none 0 0, .int .i64 0], []⟩ 8 (by kernel_rfl) (by kernel_rfl) (by kernel_rfl) (by kernel_rfl)) ?_
  intro W base args ds gs before hval0 hW hcnd _
  have hd : ds.length = 2 ∧ gs = [] := by
    obtain ⟨p, q, hA, hV, _⟩ := hW
    have hA' : DataW.TrodAll enc Try.prog W 0 (fun _ => true) true Try.f5.params.toList args.toList ds p := hA
    rw [Try.params5] at hA'
    obtain ⟨rfl, rfl⟩ := trodVars_none hV
    exact ⟨trod_len hA', rfl⟩
  obtain ⟨hd, rfl⟩ := hd
  match ds, hd with
  | [d0, d1], _ =>
    exact run_law (N := 6) (bt := 4) (ok5 (lev_ok 5)) Try.laidOut (by kernel_rfl) (by kernel_rfl) (by kernel_rfl) (by kernel_rfl) rfl hW hval0 rfl rfl rfl law5
/-- ScopeAll: for every input the law answers true. -/
theorem ScopeAll_holds : Rows.ScopeAllSaid :=
  OpenClaim.holds_of_wide 5 Try.f5 rfl rfl rfl rfl rfl rfl rfl ⟨rfl, rfl, rfl, rfl, rfl⟩ rfl rfl rfl rfl rfl (by kernel_rfl) Try.func5 (by kernel_rfl)
    (of_decide_eq_true (by kernel_rfl)) (by unfold Func.isWrapper; first | (rw [if_pos (by decide +kernel)]; kernel_rfl) | (rw [if_neg (by decide +kernel)]; exact ⟨rfl, rfl⟩))
    (fun os started H enc _ => lifted5 os started H enc)
end Go.Proofs.Ytijppadieomnjaa
