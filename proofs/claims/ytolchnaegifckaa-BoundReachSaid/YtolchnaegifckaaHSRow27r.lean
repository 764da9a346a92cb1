/- THE ROW BoundReach holds. Conditions: none but the statements' own. -/
import Derived.Test.YtolchnaegifckaaHSGb
import Derived.Test.YtolchnaegifckaaHSFp
import Derived.Test.YtolchnaegifckaaHSZc
import Derived.Test.YtolchnaegifckaaRows
namespace Go.Proofs.Ytolchnaegifckaa
open Go Go.ChangeShapes Go.WideShapes Go.ChangeAt Go.RowKit Go.Proofs.Ytolchnaegifckaa.HS
set_option maxRecDepth 100000
theorem Try.own : ownKnob Try.prog.godebug = none := by kernel_rfl
theorem Try.laidOut : laidOutB Try.prog = true := by kernel_rfl
def RO (H : Heap) : Prop := ∀ b cs ro, H.get b = .cells cs ro → ro = true ∧ b < H.n
theorem u22 : Try.prog.underlying 22 = some (.slice 27) := by kernel_rfl
theorem u3 : Try.prog.underlying 3 = some (.int .i64) := by kernel_rfl
theorem u25 : Try.prog.underlying 25 = some (.int .i64) := by kernel_rfl
theorem z3 : sizeT Try.prog 3 = 1 := by kernel_rfl
theorem z25 : sizeT Try.prog 25 = 1 := by kernel_rfl
theorem z27 : sizeT Try.prog 27 = 4 := by kernel_rfl
theorem ag22 : agOf Try.prog 22 = some false := by kernel_rfl
theorem ag3 : agOf Try.prog 3 = some false := by kernel_rfl
theorem f27a : fieldAt Try.prog 27 0 = some (25, 0) := by kernel_rfl
theorem f27b : fieldAt Try.prog 27 1 = some (3, 1) := by kernel_rfl
theorem f27c : fieldAt Try.prog 27 2 = some (3, 2) := by kernel_rfl
theorem f27d : fieldAt Try.prog 27 3 = some (3, 3) := by kernel_rfl
theorem in_instr {H : Heap} {n : Nat} {cs : List HV} (h : Ty Try.prog H (n + 2) 27 cs) : ∃ x : Ins, cs = x.cs ∧ IFit x := by
  obtain ⟨hl, h1⟩ := h.field f27a
  obtain ⟨_, h2⟩ := h.field f27b
  obtain ⟨_, h3⟩ := h.field f27c
  obtain ⟨_, h4⟩ := h.field f27d
  rw [z27] at hl
  rw [z25] at h1
  rw [z3] at h2 h3 h4
  match cs, hl with
  | [a, b, c, d], _ =>
    obtain ⟨x, hx, hx1, hx2⟩ := h1.int u25
    obtain ⟨y, hy, hy1, hy2⟩ := h2.int u3
    obtain ⟨z, hz, hz1, hz2⟩ := h3.int u3
    obtain ⟨w, hw, hw1, hw2⟩ := h4.int u3
    simp at hx hy hz hw
    subst hx; subst hy; subst hz; subst hw
    exact ⟨⟨x, y, z, w⟩, rfl, ⟨i64_bounds hx1 hx2, i64_bounds hy1 hy2, i64_bounds hz1 hz2, i64_bounds hw1 hw2⟩⟩
theorem in_prog {H : Heap} (hro : RO H) {x : HV} (h : ArgTy Try.prog H 6 22 x) : ∃ s p, x = .sl s ∧ RProg H s p ∧ ∀ y ∈ p, IFit y := by
  obtain ⟨s, ls, e, hs, hl⟩ := (h.ty ag22).slice hro u22
  rw [z27] at hs
  obtain ⟨l, rfl, hf⟩ := choose_map (f := Ins.cs) (p := IFit) fun x hx => in_instr (hl x hx)
  simp at e
  exact ⟨s, l, e, hs, hf⟩
theorem in_int {H : Heap} {x : HV} (h : ArgTy Try.prog H 6 3 x) : ∃ y, x = I y := by
  obtain ⟨y, hy, _⟩ := (h.ty ag3).int u3
  simp at hy
  exact ⟨y, hy⟩
theorem yes_run {m : M HV} {H : Heap} (h : wp m Yes H) : ∃ n H', m H n = some (.bool true, H') := by
  obtain ⟨n, a, H', h1, rfl⟩ := h.run
  exact ⟨n, H', h1⟩
theorem args_three {P : Program} {H : Heap} {n : Nat} {t1 t2 t3 : TypeId} {xs : List HV} (h : ArgsTy P H n [t1, t2, t3] xs) : ∃ x y z, xs = [x, y, z] ∧ ArgTy P H n t1 x ∧ ArgTy P H n t2 y ∧ ArgTy P H n t3 z := by
  match xs, h with
  | [x, y, z], h => exact ⟨x, y, z, rfl, h.1, h.2.1, h.2.2.1⟩

theorem law7 (H : Heap) (xs : List HV) (hro : RO H) (ht : ArgsTy Try.prog H 6 Try.f7.params.toList xs) : ∃ n H', f_law27_BoundReach (lev 3) xs H n = some (.bool true, H') := by
  rw [Try.params7] at ht
  obtain ⟨x, y, z, rfl, hx, hy, hz⟩ := args_three ht
  obtain ⟨s, p, rfl, hs, hf⟩ := in_prog hro hx
  obtain ⟨a, rfl⟩ := in_int hy
  obtain ⟨k, rfl⟩ := in_int hz
  exact yes_run (law27_BoundReach_wp (D0 := lev 1) rfl rfl hs hf a k)
theorem lifted7 (os : Os) (started : os.Started) (H : Type) (enc : TypeId × Value → H) :
    ReturnsInHanded {} Try.checked os 7 .any (Rows.boundReachSpec.pre6 enc Try.prog Try.f7 Rows.boundReachRow.domain false) (Rows.boundReachSpec.post enc Try.prog Try.f7 false Rows.boundReachRow.fresh Rows.boundReachRow.handsOn Rows.boundReachRow.again) := by
  refine returnsInHanded_of_change (C := Try.checked) Try.own started (by kernel_rfl) Try.func7
    (ChangeSpec.witness6 (enc := enc) (C := Try.checked) false ⟨#[], #[.slice none 0 0, .int .i64 0, .int .i64 0], []⟩ 8 (by kernel_rfl) (by kernel_rfl) (by kernel_rfl) (by kernel_rfl)) ?_
  intro W base args ds gs before hval0 hW hcnd _
  have hd : ds.length = 3 ∧ gs = [] := by
    obtain ⟨p, q, hA, hV, _⟩ := hW
    have hA' : DataW.TrodAll enc Try.prog W 0 (fun _ => true) true Try.f7.params.toList args.toList ds p := hA
    rw [Try.params7] at hA'
    obtain ⟨rfl, rfl⟩ := trodVars_none hV
    exact ⟨trod_len hA', rfl⟩
  obtain ⟨hd, rfl⟩ := hd
  match ds, hd with
  | [d0, d1, d2], _ =>
    exact run_law (N := 6) (bt := 4) (ok7 (lev_ok 3)) Try.laidOut (by kernel_rfl) (by kernel_rfl) (by kernel_rfl) (by kernel_rfl) rfl hW hval0 rfl rfl rfl law7
/-- BoundReach: for every input the law answers true. -/
theorem BoundReach_holds : Rows.BoundReachSaid :=
  OpenClaim.holds_of_wide 7 Try.f7 rfl rfl rfl rfl rfl rfl rfl ⟨rfl, rfl, rfl, rfl, rfl⟩ rfl rfl rfl rfl rfl (by kernel_rfl) Try.func7 (by kernel_rfl)
    (of_decide_eq_true (by kernel_rfl)) (by unfold Func.isWrapper; first | (rw [if_pos (by decide +kernel)]; kernel_rfl) | (rw [if_neg (by decide +kernel)]; exact ⟨rfl, rfl⟩))
    (fun os started H enc _ => lifted7 os started H enc)
end Go.Proofs.Ytolchnaegifckaa
