/- THE ROW TrimModel holds. Conditions: none but the statements' own. -/
import Derived.Test.YtolchnaegifckaaHRGb
import Derived.Test.YtolchnaegifckaaHRMr
import Derived.Test.YtolchnaegifckaaHRZe
import Derived.Test.YtolchnaegifckaaRows
namespace Go.Proofs.Ytolchnaegifckaa
open Go Go.ChangeShapes Go.WideShapes Go.ChangeAt Go.RowKit Go.Proofs.Ytolchnaegifckaa.HR
set_option maxRecDepth 100000
theorem Try.own : ownKnob Try.prog.godebug = none := by kernel_rfl
theorem Try.laidOut : laidOutB Try.prog = true := by kernel_rfl
def RO (H : Heap) : Prop := ∀ b cs ro, H.get b = .cells cs ro → ro = true ∧ b < H.n
theorem u22 : Try.prog.underlying 22 = some (.slice 27) := by kernel_rfl
theorem u3 : Try.prog.underlying 3 = some (.int .i64) := by kernel_rfl
theorem u25 : Try.prog.underlying 25 = some (.int .i64) := by kernel_rfl
theorem z3 : sizeT Try.prog 3 = 1 := by kernel_rfl
theorem z25 : sizeT Try.prog 25 = 1 := by kernel_rfl
theorem z27 : sizeT Try.prog 27 = 4 := by kernel_rfl
theorem ag22 : agOf Try.prog 22 = some false := by kernel_rfl
theorem ag3 : agOf Try.prog 3 = some false := by kernel_rfl
theorem f27a : fieldAt Try.prog 27 0 = some (25, 0) := by kernel_rfl
theorem f27b : fieldAt Try.prog 27 1 = some (3, 1) := by kernel_rfl
theorem f27c : fieldAt Try.prog 27 2 = some (3, 2) := by kernel_rfl
theorem f27d : fieldAt Try.prog 27 3 = some (3, 3) := by kernel_rfl
theorem in_instr {H : Heap} {n : Nat} {cs : List HV} (h : Ty Try.prog H (n + 2) 27 cs) : ∃ x : Ins, cs = x.cs ∧ IFit x := by
  obtain ⟨hl, h1⟩ := h.field f27a
  obtain ⟨_, h2⟩ := h.field f27b
  obtain ⟨_, h3⟩ := h.field f27c
  obtain ⟨_, h4⟩ := h.field f27d
  rw [z27] at hl
  rw [z25] at h1
  rw [z3] at h2 h3 h4
  match cs, hl with
  | [a, b, c, d], _ =>
    obtain ⟨x, hx, hx1, hx2⟩ := h1.int u25
    obtain ⟨y, hy, hy1, hy2⟩ := h2.int u3
    obtain ⟨z, hz, hz1, hz2⟩ := h3.int u3
    obtain ⟨w, hw, hw1, hw2⟩ := h4.int u3
    simp at hx hy hz hw
    subst hx; subst hy; subst hz; subst hw
    exact ⟨⟨x, y, z, w⟩, rfl, ⟨i64_bounds hx1 hx2, i64_bounds hy1 hy2, i64_bounds hz1 hz2, i64_bounds hw1 hw2⟩⟩
theorem in_prog {H : Heap} (hro : RO H) {x : HV} (h : ArgTy Try.prog H 6 22 x) : ∃ s p, x = .sl s ∧ RProg H s p ∧ ∀ y ∈ p, IFit y := by
  obtain ⟨s, ls, e, hs, hl⟩ := (h.ty ag22).slice hro u22
  rw [z27] at hs
  obtain ⟨l, rfl, hf⟩ := choose_map (f := Ins.cs) (p := IFit) fun x hx => in_instr (hl x hx)
  simp at e
  exact ⟨s, l, e, hs, hf⟩
theorem in_int {H : Heap} {x : HV} (h : ArgTy Try.prog H 6 3 x) : ∃ y, x = I y := by
  obtain ⟨y, hy, _⟩ := (h.ty ag3).int u3
  simp at hy
  exact ⟨y, hy⟩
theorem yes_run {m : M HV} {H : Heap} (h : wp m Yes H) : ∃ n H', m H n = some (.bool true, H') := by
  obtain ⟨n, a, H', h1, rfl⟩ := h.run
  exact ⟨n, H', h1⟩
theorem vC : Try.prog.underlying 55 = some (.array 8 3) := by kernel_rfl
theorem vF : Try.prog.underlying 58 = some (.array 6 57) := by kernel_rfl
theorem vP : Try.prog.underlying 59 = some (.array 3 3) := by kernel_rfl
theorem vT : Try.prog.underlying 62 = some (.array 3 9) := by kernel_rfl
theorem vR : Try.prog.underlying 63 = some (.array 4 3) := by kernel_rfl
theorem vR2 : Try.prog.underlying 66 = some (.array 4 3) := by kernel_rfl
theorem vB : Try.prog.underlying 4 = some .bool := by kernel_rfl
theorem vS : Try.prog.underlying 9 = some .string := by kernel_rfl
theorem wM0 : fieldAt Try.prog 65 0 = some (61, 0) := by kernel_rfl
theorem wM1 : fieldAt Try.prog 65 1 = some (62, 23) := by kernel_rfl
theorem wM2 : fieldAt Try.prog 65 2 = some (62, 26) := by kernel_rfl
theorem wM3 : fieldAt Try.prog 65 3 = some (63, 29) := by kernel_rfl
theorem wH0 : fieldAt Try.prog 61 0 = some (55, 0) := by kernel_rfl
theorem wH1 : fieldAt Try.prog 61 1 = some (58, 8) := by kernel_rfl
theorem wH2 : fieldAt Try.prog 61 2 = some (59, 20) := by kernel_rfl
theorem wF0 : fieldAt Try.prog 57 0 = some (4, 0) := by kernel_rfl
theorem wF1 : fieldAt Try.prog 57 1 = some (9, 1) := by kernel_rfl
theorem y65 : sizeT Try.prog 65 = 33 := by kernel_rfl
theorem y61 : sizeT Try.prog 61 = 23 := by kernel_rfl
theorem y55 : sizeT Try.prog 55 = 8 := by kernel_rfl
theorem y58 : sizeT Try.prog 58 = 12 := by kernel_rfl
theorem y59 : sizeT Try.prog 59 = 3 := by kernel_rfl
theorem y62 : sizeT Try.prog 62 = 3 := by kernel_rfl
theorem y63 : sizeT Try.prog 63 = 4 := by kernel_rfl
theorem y57 : sizeT Try.prog 57 = 2 := by kernel_rfl
theorem y9 : sizeT Try.prog 9 = 1 := by kernel_rfl
theorem y4 : sizeT Try.prog 4 = 1 := by kernel_rfl
theorem agM : agOf Try.prog 65 = some true := by kernel_rfl
theorem agR : agOf Try.prog 66 = some true := by kernel_rfl
theorem in_model {H : Heap} {x : HV} (h : ArgTy Try.prog H 6 65 x) : ∃ cs m, x = .agg cs ∧ MoL cs m := by
  obtain ⟨cs, rfl, hh⟩ := h.ag agM
  obtain ⟨hl, h0⟩ := hh.field wM0
  have h1 := (hh.field wM1).2
  have h2 := (hh.field wM2).2
  have h3 := (hh.field wM3).2
  have g0 := (h0.field wH0).2
  have g1 := (h0.field wH1).2
  have g2 := (h0.field wH2).2
  rw [y65] at hl
  rw [y61] at g0 g1 g2
  rw [y55] at g0
  rw [y58] at g1
  rw [y59] at g2
  rw [y62] at h1 h2
  rw [y63] at h3
  obtain ⟨_, fc, hc⟩ := g0.cellsI vC u3 z3
  obtain ⟨_, ff, hf⟩ := g1.cellsF vF wF0 wF1 vB vS y57 y4 y9
  obtain ⟨_, fp, hp⟩ := g2.cellsI vP u3 z3
  obtain ⟨_, ft, htx⟩ := h1.cellsS vT vS y9
  obtain ⟨_, fo, hout⟩ := h2.cellsS vT vS y9
  obtain ⟨_, fa, hta⟩ := h3.cellsI vR u3 z3
  exact ⟨cs, _, rfl, moL_of hl hc hf hp htx hout hta⟩
theorem in_regs {H : Heap} {x : HV} (h : ArgTy Try.prog H 6 66 x) : ∃ r, x = .agg (regL r) := by
  obtain ⟨cs, rfl, hh⟩ := h.ag agR
  obtain ⟨hl, f, hf⟩ := hh.cellsI vR2 u3 z3
  exact ⟨f, congrArg HV.agg (regL_of hl hf)⟩
theorem args_four {P : Program} {H : Heap} {n : Nat} {t1 t2 t3 t4 : TypeId} {xs : List HV} (h : ArgsTy P H n [t1, t2, t3, t4] xs) : ∃ x y z w, xs = [x, y, z, w] ∧ ArgTy P H n t1 x ∧ ArgTy P H n t2 y ∧ ArgTy P H n t3 z ∧ ArgTy P H n t4 w := by
  match xs, h with
  | [x, y, z, w], h => exact ⟨x, y, z, w, rfl, h.1, h.2.1, h.2.2.1, h.2.2.2.1⟩

theorem law10 (H : Heap) (xs : List HV) (hro : RO H) (ht : ArgsTy Try.prog H 6 Try.f10.params.toList xs) : ∃ n H', f_law29_TrimModel noD xs H n = some (.bool true, H') := by
  rw [Try.params10] at ht
  obtain ⟨x, y, z, w, rfl, hx, hy, hz, hw⟩ := args_four ht
  obtain ⟨s, p, rfl, hs, hf⟩ := in_prog hro hx
  obtain ⟨cs, m, rfl, hm⟩ := in_model hy
  obtain ⟨r, rfl⟩ := in_regs hz
  obtain ⟨a, rfl⟩ := in_int hw
  exact yes_run (law29_TrimModel_wp hs hf hm)
theorem lifted10 (os : Os) (started : os.Started) (H : Type) (enc : TypeId × Value → H) :
    ReturnsInHanded {} Try.checked os 10 .any (Rows.trimModelSpec.pre6 enc Try.prog Try.f10 Rows.trimModelRow.domain false) (Rows.trimModelSpec.post enc Try.prog Try.f10 false Rows.trimModelRow.fresh Rows.trimModelRow.handsOn Rows.trimModelRow.again) := by
  refine returnsInHanded_of_change (C := Try.checked) Try.own started (by kernel_rfl) Try.func10
    (ChangeSpec.witness6 (enc := enc) (C := Try.checked) false ⟨#[], #[.slice none 0 0, .agg #[.int .i64 0, .int .i64 0, .int .i64 0, .int .i64 0, .int .i64 0, .int .i64 0, .int .i64 0, .int .i64 0, .bool false, .string ByteArray.empty, .bool false, .string ByteArray.empty, .bool false, .string ByteArray.empty, .bool false, .string ByteArray.empty, .bool false, .string ByteArray.empty, .bool false, .string ByteArray.empty, .int .i64 0, .int .i64 0, .int .i64 0, .string ByteArray.empty, .string ByteArray.empty, .string ByteArray.empty, .string ByteArray.empty, .string ByteArray.empty, .string ByteArray.empty, .int .i64 0, .int .i64 0, .int .i64 0, .int .i64 0], .agg #[.int .i64 0, .int .i64 0, .int .i64 0, .int .i64 0], .int .i64 0], []⟩ 8 (by kernel_rfl) (by kernel_rfl) (by kernel_rfl) (by kernel_rfl)) ?_
  intro W base args ds gs before hval0 hW hcnd _
  have hd : ds.length = 4 ∧ gs = [] := by
    obtain ⟨p, q, hA, hV, _⟩ := hW
    have hA' : DataW.TrodAll enc Try.prog W 0 (fun _ => true) true Try.f10.params.toList args.toList ds p := hA
    rw [Try.params10] at hA'
    obtain ⟨rfl, rfl⟩ := trodVars_none hV
    exact ⟨trod_len hA', rfl⟩
  obtain ⟨hd, rfl⟩ := hd
  match ds, hd with
  | [d0, d1, d2, d3], _ =>
    exact run_law (N := 6) (bt := 4) (ok10 noD_ok) Try.laidOut (by kernel_rfl) (by kernel_rfl) (by kernel_rfl) (by kernel_rfl) rfl hW hval0 rfl rfl rfl law10
/-- TrimModel: for every input the law answers true. -/
theorem TrimModel_holds : Rows.TrimModelSaid :=
  OpenClaim.holds_of_wide 10 Try.f10 rfl rfl rfl rfl rfl rfl rfl ⟨rfl, rfl, rfl, rfl, rfl⟩ rfl rfl rfl rfl rfl (by kernel_rfl) Try.func10 (by kernel_rfl)
    (of_decide_eq_true (by kernel_rfl)) (by unfold Func.isWrapper; first | (rw [if_pos (by decide +kernel)]; kernel_rfl) | (rw [if_neg (by decide +kernel)]; exact ⟨rfl, rfl⟩))
    (fun os started H enc _ => lifted10 os started H enc)
end Go.Proofs.Ytolchnaegifckaa
