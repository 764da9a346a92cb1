/- THE ROWS ScopeThings and ScopeClash hold. Conditions: none but the statements' own. -/
import Derived.Test.YtijppadieomnjaaHTGb
import Derived.Test.YtijppadieomnjaaHTFr
import Derived.Test.YtijppadieomnjaaHTZe
import Derived.Test.YtijppadieomnjaaRows
namespace Go.Proofs.Ytijppadieomnjaa
open Go Go.ChangeShapes Go.WideShapes Go.ChangeAt Go.RowKit Go.Proofs.Ytijppadieomnjaa.HT
set_option maxRecDepth 100000
theorem Try.own : ownKnob Try.prog.godebug = none := by kernel_rfl
theorem Try.laidOut : laidOutB Try.prog = true := by kernel_rfl
def RO (H : Heap) : Prop := ∀ b cs ro, H.get b = .cells cs ro → ro = true ∧ b < H.n
theorem u22 : Try.prog.underlying 22 = some (.slice 77) := by kernel_rfl
theorem u3 : Try.prog.underlying 3 = some (.int .i64) := by kernel_rfl
theorem u75 : Try.prog.underlying 75 = some (.int .i64) := by kernel_rfl
theorem z3 : sizeT Try.prog 3 = 1 := by kernel_rfl
theorem z75 : sizeT Try.prog 75 = 1 := by kernel_rfl
theorem z77 : sizeT Try.prog 77 = 4 := by kernel_rfl
theorem ag22 : agOf Try.prog 22 = some false := by kernel_rfl
theorem ag3 : agOf Try.prog 3 = some false := by kernel_rfl
theorem f77a : fieldAt Try.prog 77 0 = some (75, 0) := by kernel_rfl
theorem f77b : fieldAt Try.prog 77 1 = some (3, 1) := by kernel_rfl
theorem f77c : fieldAt Try.prog 77 2 = some (3, 2) := by kernel_rfl
theorem f77d : fieldAt Try.prog 77 3 = some (3, 3) := by kernel_rfl
theorem in_instr {H : Heap} {n : Nat} {cs : List HV} (h : Ty Try.prog H (n + 2) 77 cs) : ∃ x : Ins, cs = x.cs ∧ IFit x := by
  obtain ⟨hl, h1⟩ := h.field f77a
  obtain ⟨_, h2⟩ := h.field f77b
  obtain ⟨_, h3⟩ := h.field f77c
  obtain ⟨_, h4⟩ := h.field f77d
  rw [z77] at hl
  rw [z75] at h1
  rw [z3] at h2 h3 h4
  match cs, hl with
  | [a, b, c, d], _ =>
    obtain ⟨x, hx, hx1, hx2⟩ := h1.int u75
    obtain ⟨y, hy, hy1, hy2⟩ := h2.int u3
    obtain ⟨z, hz, hz1, hz2⟩ := h3.int u3
    obtain ⟨w, hw, hw1, hw2⟩ := h4.int u3
    simp at hx hy hz hw
    subst hx; subst hy; subst hz; subst hw
    exact ⟨⟨x, y, z, w⟩, rfl, ⟨i64_bounds hx1 hx2, i64_bounds hy1 hy2, i64_bounds hz1 hz2, i64_bounds hw1 hw2⟩⟩
theorem in_prog {H : Heap} (hro : RO H) {x : HV} (h : ArgTy Try.prog H 6 22 x) : ∃ s p, x = .sl s ∧ RProg H s p ∧ ∀ y ∈ p, IFit y := by
  obtain ⟨s, ls, e, hs, hl⟩ := (h.ty ag22).slice hro u22
  rw [z77] at hs
  obtain ⟨l, rfl, hf⟩ := choose_map (f := Ins.cs) (p := IFit) fun x hx => in_instr (hl x hx)
  simp at e
  exact ⟨s, l, e, hs, hf⟩
theorem in_int {H : Heap} {x : HV} (h : ArgTy Try.prog H 6 3 x) : ∃ y, x = I y := by
  obtain ⟨y, hy, _⟩ := (h.ty ag3).int u3
  simp at hy
  exact ⟨y, hy⟩
theorem yes_run {m : M HV} {H : Heap} (h : wp m Yes H) : ∃ n H', m H n = some (.bool true, H') := by
  obtain ⟨n, a, H', h1, rfl⟩ := h.run
  exact ⟨n, H', h1⟩
theorem vTH : Try.prog.underlying 25 = some (.array 3 5) := by kernel_rfl
theorem vU : Try.prog.underlying 5 = some (.int .u8) := by kernel_rfl
theorem yU : sizeT Try.prog 5 = 1 := by kernel_rfl
theorem yTH : sizeT Try.prog 25 = 3 := by kernel_rfl
theorem v3 : Try.prog.underlying 26 = some (.array 3 4) := by kernel_rfl
theorem v4 : Try.prog.underlying 27 = some (.array 4 4) := by kernel_rfl
theorem vB : Try.prog.underlying 4 = some .bool := by kernel_rfl
theorem yB : sizeT Try.prog 4 = 1 := by kernel_rfl
theorem y3 : sizeT Try.prog 26 = 3 := by kernel_rfl
theorem y4 : sizeT Try.prog 27 = 4 := by kernel_rfl
theorem wS0 : fieldAt Try.prog 29 0 = some (25, 0) := by kernel_rfl
theorem wS1 : fieldAt Try.prog 29 1 = some (25, 3) := by kernel_rfl
theorem wS2 : fieldAt Try.prog 29 2 = some (26, 6) := by kernel_rfl
theorem wS3 : fieldAt Try.prog 29 3 = some (27, 9) := by kernel_rfl
theorem wS4 : fieldAt Try.prog 29 4 = some (4, 13) := by kernel_rfl
theorem wS5 : fieldAt Try.prog 29 5 = some (4, 14) := by kernel_rfl
theorem yS : sizeT Try.prog 29 = 15 := by kernel_rfl
theorem agT : agOf Try.prog 25 = some true := by kernel_rfl
theorem agS : agOf Try.prog 29 = some true := by kernel_rfl
theorem Ty.cellsU {H : Heap} {n m : Nat} {t e : TypeId} {cs : List HV} (hu : Try.prog.underlying t = some (.array m e)) (he : Try.prog.underlying e = some (.int .u8)) (hz : sizeT Try.prog e = 1) (h : Ty Try.prog H (n + 2) t cs) :
    cs.length = m ∧ ∃ f : Nat → BitVec 8, ∀ i, i < m → cs[i]? = some (U8 (f i)) := by
  obtain ⟨h1, h2⟩ := h.arr hu
  rw [hz] at h1 h2
  have key : ∀ i, ∃ v : BitVec 8, i < m → cs[i]? = some (U8 v) := fun i => by
    by_cases hi : i < m
    · obtain ⟨v, hv, g1, g2⟩ := (h2 i hi).int he
      have e1 : 0 ≤ v := g1
      have e2 : v ≤ 255 := g2
      refine ⟨BitVec.ofInt 8 v, fun _ => ?_⟩
      have := cut_at hv (i := 0) (by omega) rfl
      rw [Nat.mul_one] at this
      rw [show i + 0 = i from rfl] at this
      rw [this]
      congr 2
      rw [BitVec.toNat_ofInt]; omega
    · exact ⟨0, fun h => absurd h hi⟩
  exact ⟨by omega, fun i => Classical.choose (key i), fun i hi => Classical.choose_spec (key i) hi⟩
theorem Ty.cellsBl {H : Heap} {n m : Nat} {t e : TypeId} {cs : List HV} (hu : Try.prog.underlying t = some (.array m e)) (he : Try.prog.underlying e = some .bool) (hz : sizeT Try.prog e = 1) (h : Ty Try.prog H (n + 2) t cs) :
    cs.length = m ∧ ∃ f : Nat → Bool, ∀ i, i < m → cs[i]? = some (.bool (f i)) := by
  obtain ⟨h1, h2⟩ := h.arr hu
  rw [hz] at h1 h2
  have key : ∀ i, ∃ v : Bool, i < m → cs[i]? = some (.bool v) := fun i => by
    by_cases hi : i < m
    · obtain ⟨v, hv⟩ := (h2 i hi).bool' he
      exact ⟨v, fun _ => by have := cut_at hv (i := 0) (by omega) rfl; rwa [Nat.mul_one] at this⟩
    · exact ⟨false, fun h => absurd h hi⟩
  exact ⟨by omega, fun i => Classical.choose (key i), fun i hi => Classical.choose_spec (key i) hi⟩
theorem u8L_of {cs : List HV} {f : Nat → BitVec 8} (hl : cs.length = 3) (h : ∀ i, i < 3 → cs[i]? = some (U8 (f i))) : cs = [U8 (f 0), U8 (f 1), U8 (f 2)] := by
  refine List.ext_getElem? fun i => ?_
  by_cases hi : i < 3
  · rw [h i hi]; rcases lt3 hi with rfl | rfl | rfl <;> rfl
  · rw [List.getElem?_eq_none (by omega), List.getElem?_eq_none (by simp; omega)]
theorem in_things {H : Heap} {x : HV} (h : ArgTy Try.prog H 6 25 x) : ∃ f : Nat → BitVec 8, x = .agg [U8 (f 0), U8 (f 1), U8 (f 2)] := by
  obtain ⟨cs, rfl, hh⟩ := h.ag agT
  obtain ⟨hl, f, hf⟩ := Ty.cellsU vTH vU yU hh
  exact ⟨f, congrArg HV.agg (u8L_of hl hf)⟩
theorem in_scope {H : Heap} {x : HV} (h : ArgTy Try.prog H 6 29 x) : ∃ S : Sco, x = .agg S.cells := by
  obtain ⟨cs, rfl, hh⟩ := h.ag agS
  obtain ⟨hl, h0⟩ := hh.field wS0
  have h1 := (hh.field wS1).2
  have h2 := (hh.field wS2).2
  have h3 := (hh.field wS3).2
  have h4 := (hh.field wS4).2
  have h5 := (hh.field wS5).2
  rw [yS] at hl
  rw [yTH] at h0 h1
  rw [y3] at h2
  rw [y4] at h3
  rw [yB] at h4 h5
  obtain ⟨_, f0, g0⟩ := Ty.cellsU vTH vU yU h0
  obtain ⟨_, f1, g1⟩ := Ty.cellsU vTH vU yU h1
  obtain ⟨_, f2, g2⟩ := Ty.cellsBl v3 vB yB h2
  obtain ⟨_, f3, g3⟩ := Ty.cellsBl v4 vB yB h3
  obtain ⟨f4, g4⟩ := h4.bool' vB
  obtain ⟨f5, g5⟩ := h5.bool' vB
  refine ⟨⟨f0, f1, f2, f3, f4, f5⟩, congrArg HV.agg (List.ext_getElem? fun i => ?_)⟩
  by_cases hi : i < 15
  · have e : i = 0 ∨ i = 1 ∨ i = 2 ∨ i = 3 ∨ i = 4 ∨ i = 5 ∨ i = 6 ∨ i = 7 ∨ i = 8 ∨ i = 9 ∨ i = 10 ∨ i = 11 ∨ i = 12 ∨ i = 13 ∨ i = 14 := by omega
    rcases e with rfl | rfl | rfl | rfl | rfl | rfl | rfl | rfl | rfl | rfl | rfl | rfl | rfl | rfl | rfl
    · exact cut_at (o := 0) (i := 0) rfl (by omega) (g0 0 (by omega))
    · exact cut_at (o := 0) (i := 1) rfl (by omega) (g0 1 (by omega))
    · exact cut_at (o := 0) (i := 2) rfl (by omega) (g0 2 (by omega))
    · exact cut_at (o := 3) (i := 0) rfl (by omega) (g1 0 (by omega))
    · exact cut_at (o := 3) (i := 1) rfl (by omega) (g1 1 (by omega))
    · exact cut_at (o := 3) (i := 2) rfl (by omega) (g1 2 (by omega))
    · exact cut_at (o := 6) (i := 0) rfl (by omega) (g2 0 (by omega))
    · exact cut_at (o := 6) (i := 1) rfl (by omega) (g2 1 (by omega))
    · exact cut_at (o := 6) (i := 2) rfl (by omega) (g2 2 (by omega))
    · exact cut_at (o := 9) (i := 0) rfl (by omega) (g3 0 (by omega))
    · exact cut_at (o := 9) (i := 1) rfl (by omega) (g3 1 (by omega))
    · exact cut_at (o := 9) (i := 2) rfl (by omega) (g3 2 (by omega))
    · exact cut_at (o := 9) (i := 3) rfl (by omega) (g3 3 (by omega))
    · exact cut_at (o := 13) (i := 0) g4 (by omega) rfl
    · exact cut_at (o := 14) (i := 0) g5 (by omega) rfl
  · rw [List.getElem?_eq_none (by omega), List.getElem?_eq_none (by simp [Sco.cells]; omega)]
theorem args_four {P : Program} {H : Heap} {n : Nat} {t1 t2 t3 t4 : TypeId} {xs : List HV} (h : ArgsTy P H n [t1, t2, t3, t4] xs) : ∃ x y z w, xs = [x, y, z, w] ∧ ArgTy P H n t1 x ∧ ArgTy P H n t2 y ∧ ArgTy P H n t3 z ∧ ArgTy P H n t4 w := by
  match xs, h with
  | [x, y, z, w], h => exact ⟨x, y, z, w, rfl, h.1, h.2.1, h.2.2.1, h.2.2.2.1⟩
theorem args_five {P : Program} {H : Heap} {n : Nat} {t1 t2 t3 t4 t5 : TypeId} {xs : List HV} (h : ArgsTy P H n [t1, t2, t3, t4, t5] xs) : ∃ x y z w v, xs = [x, y, z, w, v] ∧ ArgTy P H n t1 x ∧ ArgTy P H n t2 y ∧ ArgTy P H n t3 z ∧ ArgTy P H n t4 w ∧ ArgTy P H n t5 v := by
  match xs, h with
  | [x, y, z, w, v], h => exact ⟨x, y, z, w, v, rfl, h.1, h.2.1, h.2.2.1, h.2.2.2.1, h.2.2.2.2.1⟩

theorem law7 (H : Heap) (xs : List HV) (_hro : RO H) (ht : ArgsTy Try.prog H 6 Try.f7.params.toList xs) : ∃ n H', f_law28_ScopeThings (lev 5) xs H n = some (.bool true, H') := by
  rw [Try.params7] at ht
  obtain ⟨x, y, z, w, v, rfl, hx, hy, hz, hw, hv⟩ := args_five ht
  obtain ⟨f, rfl⟩ := in_things hx
  obtain ⟨g, rfl⟩ := in_things hy
  obtain ⟨a, rfl⟩ := in_int hz
  obtain ⟨b, rfl⟩ := in_int hw
  obtain ⟨c, rfl⟩ := in_int hv
  exact yes_run (law28_ScopeThings_wp (D0 := lev 3) rfl rfl rfl rfl f g a b c)
theorem lifted7 (os : Os) (started : os.Started) (H : Type) (enc : TypeId × Value → H) :
    ReturnsInHanded {} Try.checked os 7 .any (Rows.scopeThingsSpec.pre6 enc Try.prog Try.f7 Rows.scopeThingsRow.domain false) (Rows.scopeThingsSpec.post enc Try.prog Try.f7 false Rows.scopeThingsRow.fresh Rows.scopeThingsRow.handsOn Rows.scopeThingsRow.again) := by
  refine returnsInHanded_of_change (C := Try.checked) Try.own started (by kernel_rfl) Try.func7
    (ChangeSpec.witness6 (enc := enc) (C := Try.checked) false ⟨#[], #[.agg #[.int .u8 0, .int .u8 0, .int .u8 0], .agg #[.int .u8 0, .int .u8 0, .int .u8 0], .int .i64 0, .int .i64 0, .int .i64 0], []⟩ 8 (by kernel_rfl) (by kernel_rfl) (by kernel_rfl) (by kernel_rfl)) ?_
  intro W base args ds gs before hval0 hW hcnd _
  have hd : ds.length = 5 ∧ gs = [] := by
    obtain ⟨p, q, hA, hV, _⟩ := hW
    have hA' : DataW.TrodAll enc Try.prog W 0 (fun _ => true) true Try.f7.params.toList args.toList ds p := hA
    rw [Try.params7] at hA'
    obtain ⟨rfl, rfl⟩ := trodVars_none hV
    exact ⟨trod_len hA', rfl⟩
  obtain ⟨hd, rfl⟩ := hd
  match ds, hd with
  | [d0, d1, d2, d3, d4], _ =>
    exact run_law (N := 6) (bt := 4) (ok7 (lev_ok 5)) Try.laidOut (by kernel_rfl) (by kernel_rfl) (by kernel_rfl) (by kernel_rfl) rfl hW hval0 rfl rfl rfl law7
/-- ScopeThings: for every input the law answers true. -/
theorem ScopeThings_holds : Rows.ScopeThingsSaid :=
  OpenClaim.holds_of_wide 7 Try.f7 rfl rfl rfl rfl rfl rfl rfl ⟨rfl, rfl, rfl, rfl, rfl⟩ rfl rfl rfl rfl rfl (by kernel_rfl) Try.func7 (by kernel_rfl)
    (of_decide_eq_true (by kernel_rfl)) (by unfold Func.isWrapper; first | (rw [if_pos (by decide +kernel)]; kernel_rfl) | (rw [if_neg (by decide +kernel)]; exact ⟨rfl, rfl⟩))
    (fun os started H enc _ => lifted7 os started H enc)

theorem law8 (H : Heap) (xs : List HV) (hro : RO H) (ht : ArgsTy Try.prog H 6 Try.f8.params.toList xs) : ∃ n H', f_law28_ScopeClash (lev 8) xs H n = some (.bool true, H') := by
  rw [Try.params8] at ht
  obtain ⟨x, y, z, w, rfl, hx, hy, hz, hw⟩ := args_four ht
  obtain ⟨S, rfl⟩ := in_scope hx
  obtain ⟨S', rfl⟩ := in_scope hy
  obtain ⟨s, p, rfl, hs, hf⟩ := in_prog hro hz
  obtain ⟨s2, q, rfl, hs2, hf2⟩ := in_prog hro hw
  exact yes_run (law28_ScopeClash_wp (D0 := lev 3) rfl rfl rfl rfl rfl hs hf hs2 hf2 S S')
theorem lifted8 (os : Os) (started : os.Started) (H : Type) (enc : TypeId × Value → H) :
    ReturnsInHanded {} Try.checked os 8 .any (Rows.scopeClashSpec.pre6 enc Try.prog Try.f8 Rows.scopeClashRow.domain false) (Rows.scopeClashSpec.post enc Try.prog Try.f8 false Rows.scopeClashRow.fresh Rows.scopeClashRow.handsOn Rows.scopeClashRow.again) := by
  refine returnsInHanded_of_change (C := Try.checked) Try.own started (by kernel_rfl) Try.func8
    (ChangeSpec.witness6 (enc := enc) (C := Try.checked) false ⟨#[], #[.agg #[.int .u8 0, .int .u8 0, .int .u8 0, .int .u8 0, .int .u8 0, .int .u8 0, .bool false, .bool false, .bool false, .bool false, .bool false, .bool false, .bool false, .bool false, .bool false], .agg #[.int .u8 0, .int .u8 0, .int .u8 0, .int .u8 0, .int .u8 0, .int .u8 0, .bool false, .bool false, .bool false, .bool false, .bool false, .bool false, .bool false, .bool false, .bool false], .slice none 0 0, .slice none 0 0], []⟩ 8 (by kernel_rfl) (by kernel_rfl) (by kernel_rfl) (by kernel_rfl)) ?_
  intro W base args ds gs before hval0 hW hcnd _
  have hd : ds.length = 4 ∧ gs = [] := by
    obtain ⟨p, q, hA, hV, _⟩ := hW
    have hA' : DataW.TrodAll enc Try.prog W 0 (fun _ => true) true Try.f8.params.toList args.toList ds p := hA
    rw [Try.params8] at hA'
    obtain ⟨rfl, rfl⟩ := trodVars_none hV
    exact ⟨trod_len hA', rfl⟩
  obtain ⟨hd, rfl⟩ := hd
  match ds, hd with
  | [d0, d1, d2, d3], _ =>
    exact run_law (N := 6) (bt := 4) (ok8 (lev_ok 8)) Try.laidOut (by kernel_rfl) (by kernel_rfl) (by kernel_rfl) (by kernel_rfl) rfl hW hval0 rfl rfl rfl law8
/-- ScopeClash: for every input the law answers true. -/
theorem ScopeClash_holds : Rows.ScopeClashSaid :=
  OpenClaim.holds_of_wide 8 Try.f8 rfl rfl rfl rfl rfl rfl rfl ⟨rfl, rfl, rfl, rfl, rfl⟩ rfl rfl rfl rfl rfl (by kernel_rfl) Try.func8 (by kernel_rfl)
    (of_decide_eq_true (by kernel_rfl)) (by unfold Func.isWrapper; first | (rw [if_pos (by decide +kernel)]; kernel_rfl) | (rw [if_neg (by decide +kernel)]; exact ⟨rfl, rfl⟩))
    (fun os started H enc _ => lifted8 os started H enc)
end Go.Proofs.Ytijppadieomnjaa
