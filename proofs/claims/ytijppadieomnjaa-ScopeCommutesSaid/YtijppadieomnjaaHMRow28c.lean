/- THE ROWS ScopeModel and ScopeCommutes hold. Conditions: none but the statements' own. -/
import Derived.Test.YtijppadieomnjaaHMGb
import Derived.Test.YtijppadieomnjaaHMSq
import Derived.Test.YtijppadieomnjaaHMSk
import Derived.Test.YtijppadieomnjaaHMZe
import Derived.Test.YtijppadieomnjaaRows
namespace Go.Proofs.Ytijppadieomnjaa
open Go Go.ChangeShapes Go.WideShapes Go.ChangeAt Go.RowKit Go.Proofs.Ytijppadieomnjaa.HM
set_option maxRecDepth 100000
theorem Try.own : ownKnob Try.prog.godebug = none := by kernel_rfl
theorem Try.laidOut : laidOutB Try.prog = true := by kernel_rfl
def RO (H : Heap) : Prop := ∀ b cs ro, H.get b = .cells cs ro → ro = true ∧ b < H.n
theorem u22 : Try.prog.underlying 22 = some (.slice 77) := by kernel_rfl
theorem u3 : Try.prog.underlying 3 = some (.int .i64) := by kernel_rfl
theorem u75 : Try.prog.underlying 75 = some (.int .i64) := by kernel_rfl
theorem z3 : sizeT Try.prog 3 = 1 := by kernel_rfl
theorem z75 : sizeT Try.prog 75 = 1 := by kernel_rfl
theorem z77 : sizeT Try.prog 77 = 4 := by kernel_rfl
theorem ag22 : agOf Try.prog 22 = some false := by kernel_rfl
theorem ag3 : agOf Try.prog 3 = some false := by kernel_rfl
theorem f77a : fieldAt Try.prog 77 0 = some (75, 0) := by kernel_rfl
theorem f77b : fieldAt Try.prog 77 1 = some (3, 1) := by kernel_rfl
theorem f77c : fieldAt Try.prog 77 2 = some (3, 2) := by kernel_rfl
theorem f77d : fieldAt Try.prog 77 3 = some (3, 3) := by kernel_rfl
theorem in_instr {H : Heap} {n : Nat} {cs : List HV} (h : Ty Try.prog H (n + 2) 77 cs) : ∃ x : Ins, cs = x.cs ∧ IFit x := by
  obtain ⟨hl, h1⟩ := h.field f77a
  obtain ⟨_, h2⟩ := h.field f77b
  obtain ⟨_, h3⟩ := h.field f77c
  obtain ⟨_, h4⟩ := h.field f77d
  rw [z77] at hl
  rw [z75] at h1
  rw [z3] at h2 h3 h4
  match cs, hl with
  | [a, b, c, d], _ =>
    obtain ⟨x, hx, hx1, hx2⟩ := h1.int u75
    obtain ⟨y, hy, hy1, hy2⟩ := h2.int u3
    obtain ⟨z, hz, hz1, hz2⟩ := h3.int u3
    obtain ⟨w, hw, hw1, hw2⟩ := h4.int u3
    simp at hx hy hz hw
    subst hx; subst hy; subst hz; subst hw
    exact ⟨⟨x, y, z, w⟩, rfl, ⟨i64_bounds hx1 hx2, i64_bounds hy1 hy2, i64_bounds hz1 hz2, i64_bounds hw1 hw2⟩⟩
theorem in_prog {H : Heap} (hro : RO H) {x : HV} (h : ArgTy Try.prog H 6 22 x) : ∃ s p, x = .sl s ∧ RProg H s p ∧ ∀ y ∈ p, IFit y := by
  obtain ⟨s, ls, e, hs, hl⟩ := (h.ty ag22).slice hro u22
  rw [z77] at hs
  obtain ⟨l, rfl, hf⟩ := choose_map (f := Ins.cs) (p := IFit) fun x hx => in_instr (hl x hx)
  simp at e
  exact ⟨s, l, e, hs, hf⟩
theorem in_int {H : Heap} {x : HV} (h : ArgTy Try.prog H 6 3 x) : ∃ y, x = I y := by
  obtain ⟨y, hy, _⟩ := (h.ty ag3).int u3
  simp at hy
  exact ⟨y, hy⟩
theorem yes_run {m : M HV} {H : Heap} (h : wp m Yes H) : ∃ n H', m H n = some (.bool true, H') := by
  obtain ⟨n, a, H', h1, rfl⟩ := h.run
  exact ⟨n, H', h1⟩
theorem _root_.Go.Proofs.Ytijppadieomnjaa.HM.Ty.cellsB {P : Program} {H : Heap} {n m : Nat} {t e : TypeId} {cs : List HV} (hu : P.underlying t = some (.array m e)) (he : P.underlying e = some (.int .i64)) (hz : sizeT P e = 1) (h : Ty P H (n + 2) t cs) :
    cs.length = m ∧ ∃ f : Nat → Int, ∀ i, i < m → cs[i]? = some (I (f i)) ∧ In64 (f i) := by
  obtain ⟨h1, h2⟩ := h.arr hu
  rw [hz] at h1 h2
  have key : ∀ i, ∃ v, i < m → cs[i]? = some (I v) ∧ In64 v := fun i => by
    by_cases hi : i < m
    · obtain ⟨v, hv, g1, g2⟩ := (h2 i hi).int he
      exact ⟨v, fun _ => ⟨by have := cut_at hv (i := 0) (by omega) rfl; rwa [Nat.mul_one] at this, i64_bounds g1 g2⟩⟩
    · exact ⟨0, fun h => absurd h hi⟩
  exact ⟨by omega, fun i => Classical.choose (key i), fun i hi => Classical.choose_spec (key i) hi⟩
theorem vC : Try.prog.underlying 40 = some (.array 8 3) := by kernel_rfl
theorem vF : Try.prog.underlying 43 = some (.array 6 42) := by kernel_rfl
theorem vP : Try.prog.underlying 44 = some (.array 3 3) := by kernel_rfl
theorem vT : Try.prog.underlying 47 = some (.array 3 9) := by kernel_rfl
theorem vR : Try.prog.underlying 48 = some (.array 4 3) := by kernel_rfl
theorem vR2 : Try.prog.underlying 51 = some (.array 4 3) := by kernel_rfl
theorem vN : Try.prog.underlying 3 = some (.int .i64) := by kernel_rfl
theorem vB : Try.prog.underlying 4 = some .bool := by kernel_rfl
theorem vS : Try.prog.underlying 9 = some .string := by kernel_rfl
theorem wM0 : fieldAt Try.prog 50 0 = some (46, 0) := by kernel_rfl
theorem wM1 : fieldAt Try.prog 50 1 = some (47, 23) := by kernel_rfl
theorem wM2 : fieldAt Try.prog 50 2 = some (47, 26) := by kernel_rfl
theorem wM3 : fieldAt Try.prog 50 3 = some (48, 29) := by kernel_rfl
theorem wH0 : fieldAt Try.prog 46 0 = some (40, 0) := by kernel_rfl
theorem wH1 : fieldAt Try.prog 46 1 = some (43, 8) := by kernel_rfl
theorem wH2 : fieldAt Try.prog 46 2 = some (44, 20) := by kernel_rfl
theorem wF0 : fieldAt Try.prog 42 0 = some (4, 0) := by kernel_rfl
theorem wF1 : fieldAt Try.prog 42 1 = some (9, 1) := by kernel_rfl
theorem yM : sizeT Try.prog 50 = 33 := by kernel_rfl
theorem yH : sizeT Try.prog 46 = 23 := by kernel_rfl
theorem yC : sizeT Try.prog 40 = 8 := by kernel_rfl
theorem yF : sizeT Try.prog 43 = 12 := by kernel_rfl
theorem yP : sizeT Try.prog 44 = 3 := by kernel_rfl
theorem yT : sizeT Try.prog 47 = 3 := by kernel_rfl
theorem yA : sizeT Try.prog 48 = 4 := by kernel_rfl
theorem yE : sizeT Try.prog 42 = 2 := by kernel_rfl
theorem yS : sizeT Try.prog 9 = 1 := by kernel_rfl
theorem yB : sizeT Try.prog 4 = 1 := by kernel_rfl
theorem yN : sizeT Try.prog 3 = 1 := by kernel_rfl
theorem agM : agOf Try.prog 50 = some true := by kernel_rfl
theorem agR : agOf Try.prog 51 = some true := by kernel_rfl
theorem in_model {H : Heap} {x : HV} (h : ArgTy Try.prog H 6 50 x) : ∃ cs m, x = .agg cs ∧ MoL cs m ∧ ∀ i, i < 4 → In64 (m.ta i) := by
  obtain ⟨cs, rfl, hh⟩ := h.ag agM
  obtain ⟨hl, h0⟩ := hh.field wM0
  have h1 := (hh.field wM1).2
  have h2 := (hh.field wM2).2
  have h3 := (hh.field wM3).2
  have g0 := (h0.field wH0).2
  have g1 := (h0.field wH1).2
  have g2 := (h0.field wH2).2
  rw [yM] at hl
  rw [yH] at g0 g1 g2
  rw [yC] at g0
  rw [yF] at g1
  rw [yP] at g2
  rw [yT] at h1 h2
  rw [yA] at h3
  obtain ⟨_, fc, hc⟩ := g0.cellsI vC vN yN
  obtain ⟨_, ff, hf⟩ := g1.cellsF vF wF0 wF1 vB vS yE yB yS
  obtain ⟨_, fp, hp⟩ := g2.cellsI vP vN yN
  obtain ⟨_, ft, htx⟩ := h1.cellsS vT vS yS
  obtain ⟨_, fo, hout⟩ := h2.cellsS vT vS yS
  obtain ⟨_, fa, hta⟩ := h3.cellsB vR vN yN
  exact ⟨cs, _, rfl, moL_of hl hc hf hp htx hout fun i hi => (hta i hi).1, fun i hi => (hta i hi).2⟩
theorem in_regs {H : Heap} {x : HV} (h : ArgTy Try.prog H 6 51 x) : ∃ r, x = .agg (regL r) := by
  obtain ⟨cs, rfl, hh⟩ := h.ag agR
  obtain ⟨hl, f, hf⟩ := hh.cellsI vR2 vN yN
  exact ⟨f, congrArg HV.agg (regL_of hl hf)⟩
theorem args_five {P : Program} {H : Heap} {n : Nat} {t1 t2 t3 t4 t5 : TypeId} {xs : List HV} (h : ArgsTy P H n [t1, t2, t3, t4, t5] xs) : ∃ x y z w v, xs = [x, y, z, w, v] ∧ ArgTy P H n t1 x ∧ ArgTy P H n t2 y ∧ ArgTy P H n t3 z ∧ ArgTy P H n t4 w ∧ ArgTy P H n t5 v := by
  match xs, h with
  | [x, y, z, w, v], h => exact ⟨x, y, z, w, v, rfl, h.1, h.2.1, h.2.2.1, h.2.2.2.1, h.2.2.2.2.1⟩

theorem law6 (H : Heap) (xs : List HV) (hro : RO H) (ht : ArgsTy Try.prog H 6 Try.f6.params.toList xs) : ∃ n H', f_law28_ScopeCommutes (lev 5) xs H n = some (.bool true, H') := by
  rw [Try.params6] at ht
  obtain ⟨x, y, z, w, v, rfl, hx, hy, hz, hw, hv⟩ := args_five ht
  obtain ⟨s, p, rfl, hs, hf⟩ := in_prog hro hx
  obtain ⟨s2, q, rfl, hs2, hf2⟩ := in_prog hro hy
  obtain ⟨cs, m, rfl, hm, hta⟩ := in_model hz
  obtain ⟨a, rfl⟩ := in_int hw
  obtain ⟨b, rfl⟩ := in_int hv
  exact yes_run (law28_ScopeCommutes_wp (D0 := lev 3) rfl rfl hs hf hs2 hf2 hm hta)
theorem lifted6 (os : Os) (started : os.Started) (H : Type) (enc : TypeId × Value → H) :
    ReturnsInHanded {} Try.checked os 6 .any (Rows.scopeCommutesSpec.pre6 enc Try.prog Try.f6 Rows.scopeCommutesRow.domain false) (Rows.scopeCommutesSpec.post enc Try.prog Try.f6 false Rows.scopeCommutesRow.fresh Rows.scopeCommutesRow.handsOn Rows.scopeCommutesRow.again) := by
  refine returnsInHanded_of_change (C := Try.checked) Try.own started (by kernel_rfl) Try.func6
    (ChangeSpec.witness6 (enc := enc) (C := Try.checked) false ⟨#[], #[.slice none 0 0, .slice none 0 0, .agg #[.int .i64 0, .int .i64 0, .int .i64 0, .int .i64 0, .int .i64 0, .int .i64 0, .int .i64 0, .int .i64 0, .bool false, .string ByteArray.empty, .bool false, .string ByteArray.empty, .bool false, .string ByteArray.empty, .bool false, .string ByteArray.empty, .bool false, .string ByteArray.empty, .bool false, .string ByteArray.empty, .int .i64 0, .int .i64 0, .int .i64 0, .string ByteArray.empty, .string ByteArray.empty, .string ByteArray.empty, .string ByteArray.empty, .string ByteArray.empty, .string ByteArray.empty, .int .i64 0, .int .i64 0, .int .i64 0, .int .i64 0], .int .i64 0, .int .i64 0], []⟩ 8 (by kernel_rfl) (by kernel_rfl) (by kernel_rfl) (by kernel_rfl)) ?_
  intro W base args ds gs before hval0 hW hcnd _
  have hd : ds.length = 5 ∧ gs = [] := by
    obtain ⟨p, q, hA, hV, _⟩ := hW
    have hA' : DataW.TrodAll enc Try.prog W 0 (fun _ => true) true Try.f6.params.toList args.toList ds p := hA
    rw [Try.params6] at hA'
    obtain ⟨rfl, rfl⟩ := trodVars_none hV
    exact ⟨trod_len hA', rfl⟩
  obtain ⟨hd, rfl⟩ := hd
  match ds, hd with
  | [d0, d1, d2, d3, d4], _ =>
    exact run_law (N := 6) (bt := 4) (ok6 (lev_ok 5)) Try.laidOut (by kernel_rfl) (by kernel_rfl) (by kernel_rfl) (by kernel_rfl) rfl hW hval0 rfl rfl rfl law6
/-- ScopeCommutes: for every input the law answers true. -/
theorem ScopeCommutes_holds : Rows.ScopeCommutesSaid :=
  OpenClaim.holds_of_wide 6 Try.f6 rfl rfl rfl rfl rfl rfl rfl ⟨rfl, rfl, rfl, rfl, rfl⟩ rfl rfl rfl rfl rfl (by kernel_rfl) Try.func6 (by kernel_rfl)
    (of_decide_eq_true (by kernel_rfl)) (by unfold Func.isWrapper; first | (rw [if_pos (by decide +kernel)]; kernel_rfl) | (rw [if_neg (by decide +kernel)]; exact ⟨rfl, rfl⟩))
    (fun os started H enc _ => lifted6 os started H enc)
theorem args_six {P : Program} {H : Heap} {n : Nat} {t1 t2 t3 t4 t5 t6 : TypeId} {xs : List HV} (h : ArgsTy P H n [t1, t2, t3, t4, t5, t6] xs) : ∃ x y z w v u, xs = [x, y, z, w, v, u] ∧ ArgTy P H n t1 x ∧ ArgTy P H n t2 y ∧ ArgTy P H n t3 z ∧ ArgTy P H n t4 w ∧ ArgTy P H n t5 v ∧ ArgTy P H n t6 u := by
  match xs, h with
  | [x, y, z, w, v, u], h => exact ⟨x, y, z, w, v, u, rfl, h.1, h.2.1, h.2.2.1, h.2.2.2.1, h.2.2.2.2.1, h.2.2.2.2.2.1⟩

theorem law4 (H : Heap) (xs : List HV) (hro : RO H) (ht : ArgsTy Try.prog H 6 Try.f4.params.toList xs) : ∃ n H', f_law28_ScopeModel (lev 5) xs H n = some (.bool true, H') := by
  rw [Try.params4] at ht
  obtain ⟨x, y, z, w, v, u, rfl, hx, hy, hz, hw, hv, hu⟩ := args_six ht
  obtain ⟨s, p, rfl, hs, hf⟩ := in_prog hro hx
  obtain ⟨cs, m, rfl, hm, _⟩ := in_model hy
  obtain ⟨r, rfl⟩ := in_regs hz
  obtain ⟨a, rfl⟩ := in_int hw
  obtain ⟨b, rfl⟩ := in_int hv
  obtain ⟨c, rfl⟩ := in_int hu
  exact yes_run (law28_ScopeModel_wp (D0 := lev 3) rfl rfl hs hf hm)
theorem lifted4 (os : Os) (started : os.Started) (H : Type) (enc : TypeId × Value → H) :
    ReturnsInHanded {} Try.checked os 4 .any (Rows.scopeModelSpec.pre6 enc Try.prog Try.f4 Rows.scopeModelRow.domain false) (Rows.scopeModelSpec.post enc Try.prog Try.f4 false Rows.scopeModelRow.fresh Rows.scopeModelRow.handsOn Rows.scopeModelRow.again) := by
  refine returnsInHanded_of_change (C := Try.checked) Try.own started (by kernel_rfl) Try.func4
    (ChangeSpec.witness6 (enc := enc) (C := Try.checked) false ⟨#[], #[.slice none 0 0, .agg #[.int .i64 0, .int .i64 0, .int .i64 0, .int .i64 0, .int .i64 0, .int .i64 0, .int .i64 0, .int .i64 0, .bool false, .string ByteArray.empty, .bool false, .string ByteArray.empty, .bool false, .string ByteArray.empty, .bool false, .string ByteArray.empty, .bool false, .string ByteArray.empty, .bool false, .string ByteArray.empty, .int .i64 0, .int .i64 0, .int .i64 0, .string ByteArray.empty, .string ByteArray.empty, .string ByteArray.empty, .string ByteArray.empty, .string ByteArray.empty, .string ByteArray.empty, .int .i64 0, .int .i64 0, .int .i64 0, .int .i64 0], .agg #[.int .i64 0, .int .i64 0, .int .i64 0, .int .i64 0], .int .i64 0, .int .i64 0, .int .i64 0], []⟩ 8 (by kernel_rfl) (by kernel_rfl) (by kernel_rfl) (by kernel_rfl)) ?_
  intro W base args ds gs before hval0 hW hcnd _
  have hd : ds.length = 6 ∧ gs = [] := by
    obtain ⟨p, q, hA, hV, _⟩ := hW
    have hA' : DataW.TrodAll enc Try.prog W 0 (fun _ => true) true Try.f4.params.toList args.toList ds p := hA
    rw [Try.params4] at hA'
    obtain ⟨rfl, rfl⟩ := trodVars_none hV
    exact ⟨trod_len hA', rfl⟩
  obtain ⟨hd, rfl⟩ := hd
  match ds, hd with
  | [d0, d1, d2, d3, d4, d5], _ =>
    exact run_law (N := 6) (bt := 4) (ok4 (lev_ok 5)) Try.laidOut (by kernel_rfl) (by kernel_rfl) (by kernel_rfl) (by kernel_rfl) rfl hW hval0 rfl rfl rfl law4
/-- ScopeModel: for every input the law answers true. -/
theorem ScopeModel_holds : Rows.ScopeModelSaid :=
  OpenClaim.holds_of_wide 4 Try.f4 rfl rfl rfl rfl rfl rfl rfl ⟨rfl, rfl, rfl, rfl, rfl⟩ rfl rfl rfl rfl rfl (by kernel_rfl) Try.func4 (by kernel_rfl)
    (of_decide_eq_true (by kernel_rfl)) (by unfold Func.isWrapper; first | (rw [if_pos (by decide +kernel)]; kernel_rfl) | (rw [if_neg (by decide +kernel)]; exact ⟨rfl, rfl⟩))
    (fun os started H enc _ => lifted4 os started H enc)
end Go.Proofs.Ytijppadieomnjaa
