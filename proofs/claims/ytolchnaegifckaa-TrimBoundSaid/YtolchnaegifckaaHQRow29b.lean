/- THE ROW TrimBound holds. Conditions: none but the statements' own. -/
import Derived.Test.YtolchnaegifckaaHQGb
import Derived.Test.YtolchnaegifckaaHQTb
import Derived.Test.YtolchnaegifckaaHQZc
import Derived.Test.YtolchnaegifckaaRows
namespace Go.Proofs.Ytolchnaegifckaa
open Go Go.ChangeShapes Go.WideShapes Go.ChangeAt Go.RowKit Go.Proofs.Ytolchnaegifckaa.HQ
set_option maxRecDepth 100000
theorem Try.own : ownKnob Try.prog.godebug = none := by kernel_rfl
theorem Try.laidOut : laidOutB Try.prog = true := by kernel_rfl
def RO (H : Heap) : Prop := ∀ b cs ro, H.get b = .cells cs ro → ro = true ∧ b < H.n
theorem u22 : Try.prog.underlying 22 = some (.slice 27) := by kernel_rfl
theorem u3 : Try.prog.underlying 3 = some (.int .i64) := by kernel_rfl
theorem u25 : Try.prog.underlying 25 = some (.int .i64) := by kernel_rfl
theorem z3 : sizeT Try.prog 3 = 1 := by kernel_rfl
theorem z25 : sizeT Try.prog 25 = 1 := by kernel_rfl
theorem z27 : sizeT Try.prog 27 = 4 := by kernel_rfl
theorem ag22 : agOf Try.prog 22 = some false := by kernel_rfl
theorem ag3 : agOf Try.prog 3 = some false := by kernel_rfl
theorem f27a : fieldAt Try.prog 27 0 = some (25, 0) := by kernel_rfl
theorem f27b : fieldAt Try.prog 27 1 = some (3, 1) := by kernel_rfl
theorem f27c : fieldAt Try.prog 27 2 = some (3, 2) := by kernel_rfl
theorem f27d : fieldAt Try.prog 27 3 = some (3, 3) := by kernel_rfl
theorem in_instr {H : Heap} {n : Nat} {cs : List HV} (h : Ty Try.prog H (n + 2) 27 cs) : ∃ x : Ins, cs = x.cs ∧ IFit x := by
  obtain ⟨hl, h1⟩ := h.field f27a
  obtain ⟨_, h2⟩ := h.field f27b
  obtain ⟨_, h3⟩ := h.field f27c
  obtain ⟨_, h4⟩ := h.field f27d
  rw [z27] at hl
  rw [z25] at h1
  rw [z3] at h2 h3 h4
  match cs, hl with
  | [a, b, c, d], _ =>
    obtain ⟨x, hx, hx1, hx2⟩ := h1.int u25
    obtain ⟨y, hy, hy1, hy2⟩ := h2.int u3
    obtain ⟨z, hz, hz1, hz2⟩ := h3.int u3
    obtain ⟨w, hw, hw1, hw2⟩ := h4.int u3
    simp at hx hy hz hw
    subst hx; subst hy; subst hz; subst hw
    exact ⟨⟨x, y, z, w⟩, rfl, ⟨i64_bounds hx1 hx2, i64_bounds hy1 hy2, i64_bounds hz1 hz2, i64_bounds hw1 hw2⟩⟩
theorem in_prog {H : Heap} (hro : RO H) {x : HV} (h : ArgTy Try.prog H 6 22 x) : ∃ s p, x = .sl s ∧ RProg H s p ∧ ∀ y ∈ p, IFit y := by
  obtain ⟨s, ls, e, hs, hl⟩ := (h.ty ag22).slice hro u22
  rw [z27] at hs
  obtain ⟨l, rfl, hf⟩ := choose_map (f := Ins.cs) (p := IFit) fun x hx => in_instr (hl x hx)
  simp at e
  exact ⟨s, l, e, hs, hf⟩
theorem in_int {H : Heap} {x : HV} (h : ArgTy Try.prog H 6 3 x) : ∃ y, x = I y := by
  obtain ⟨y, hy, _⟩ := (h.ty ag3).int u3
  simp at hy
  exact ⟨y, hy⟩
theorem yes_run {m : M HV} {H : Heap} (h : wp m Yes H) : ∃ n H', m H n = some (.bool true, H') := by
  obtain ⟨n, a, H', h1, rfl⟩ := h.run
  exact ⟨n, H', h1⟩
theorem args_one {P : Program} {H : Heap} {n : Nat} {t1 : TypeId} {xs : List HV} (h : ArgsTy P H n [t1] xs) : ∃ x, xs = [x] ∧ ArgTy P H n t1 x := by
  match xs, h with
  | [x], h => exact ⟨x, rfl, h.1⟩

theorem law13 (H : Heap) (xs : List HV) (hro : RO H) (ht : ArgsTy Try.prog H 6 Try.f13.params.toList xs) : ∃ n H', f_law29_TrimBound (lev 5) xs H n = some (.bool true, H') := by
  rw [Try.params13] at ht
  obtain ⟨x, rfl, hx⟩ := args_one ht
  obtain ⟨s, p, rfl, hs, hf⟩ := in_prog hro hx
  exact yes_run (law29_TrimBound_wp (D0 := lev 2) rfl rfl rfl rfl rfl hs hf)
theorem lifted13 (os : Os) (started : os.Started) (H : Type) (enc : TypeId × Value → H) :
    ReturnsInHanded {} Try.checked os 13 .any (Rows.trimBoundSpec.pre6 enc Try.prog Try.f13 Rows.trimBoundRow.domain false) (Rows.trimBoundSpec.post enc Try.prog Try.f13 false Rows.trimBoundRow.fresh Rows.trimBoundRow.handsOn Rows.trimBoundRow.again) := by
  refine returnsInHanded_of_change (C := Try.checked) Try.own started (by kernel_rfl) Try.func13
    (ChangeSpec.witness6 (enc := enc) (C := Try.checked) false ⟨#[], #[.slice none 0 0], []⟩ 8 (by kernel_rfl) (by kernel_rfl) (by kernel_rfl) (by kernel_rfl)) ?_
  intro W base args ds gs before hval0 hW hcnd _
  have hd : ds.length = 1 ∧ gs = [] := by
    obtain ⟨p, q, hA, hV, _⟩ := hW
    have hA' : DataW.TrodAll enc Try.prog W 0 (fun _ => true) true Try.f13.params.toList args.toList ds p := hA
    rw [Try.params13] at hA'
    obtain ⟨rfl, rfl⟩ := trodVars_none hV
    exact ⟨trod_len hA', rfl⟩
  obtain ⟨hd, rfl⟩ := hd
  match ds, hd with
  | [d0], _ =>
    exact run_law (N := 6) (bt := 4) (ok13 (lev_ok 5)) Try.laidOut (by kernel_rfl) (by kernel_rfl) (by kernel_rfl) (by kernel_rfl) rfl hW hval0 rfl rfl rfl law13
/-- TrimBound: for every input the law answers true. -/
theorem TrimBound_holds : Rows.TrimBoundSaid :=
  OpenClaim.holds_of_wide 13 Try.f13 rfl rfl rfl rfl rfl rfl rfl ⟨rfl, rfl, rfl, rfl, rfl⟩ rfl rfl rfl rfl rfl (by kernel_rfl) Try.func13 (by kernel_rfl)
    (of_decide_eq_true (by kernel_rfl)) (by unfold Func.isWrapper; first | (rw [if_pos (by decide +kernel)]; kernel_rfl) | (rw [if_neg (by decide +kernel)]; exact ⟨rfl, rfl⟩))
    (fun os started H enc _ => lifted13 os started H enc)
end Go.Proofs.Ytolchnaegifckaa
