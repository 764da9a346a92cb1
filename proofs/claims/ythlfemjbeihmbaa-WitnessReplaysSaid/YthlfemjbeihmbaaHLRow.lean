/- THE FIVE ROWS: WitnessSerial, WitnessReplays, WitnessFinds, WitnessFirst, WitnessLong hold. Conditions: none but the statements' own. -/
import Derived.Test.YthlfemjbeihmbaaHLFb
import Derived.Test.YthlfemjbeihmbaaHLWv
import Derived.Test.YthlfemjbeihmbaaHLZc
import Derived.Test.YthlfemjbeihmbaaRows
namespace Go.Proofs.Ythlfemjbeihmbaa
open Go Go.ChangeShapes Go.WideShapes Go.ChangeAt Go.RowKit Go.Proofs.Ythlfemjbeihmbaa.HL
set_option maxRecDepth 100000
theorem Try.own : ownKnob Try.prog.godebug = none := by kernel_rfl
theorem Try.laidOut : laidOutB Try.prog = true := by kernel_rfl
def D1 : HV → List HV → M HV := tabD fun i => match Nat.beq i 19 with
  | true => some (s19 noD)
  | false => none
theorem D1_ok : DOk Try.prog noG D1 := tabD_ok fun i g h => by
  split at h
  · rename_i e
    have := Nat.eq_of_beq_eq_true e
    subst this; cases h; exact ok19 noD_ok
  · cases h
theorem D1_eq (xs : List HV) : D1 (.func 19 [] []) xs = s19 noD xs := rfl

/-! what came in -/
def RO (H : Heap) : Prop := ∀ b cs ro, H.get b = .cells cs ro → ro = true ∧ b < H.n
theorem u22 : Try.prog.underlying 22 = some (.slice 44) := by kernel_rfl
theorem z44 : sizeT Try.prog 44 = 2 := by kernel_rfl
theorem ag22 : agOf Try.prog 22 = some false := by kernel_rfl
theorem ag25 : agOf Try.prog 25 = some false := by kernel_rfl
theorem ag3 : agOf Try.prog 3 = some false := by kernel_rfl
theorem u25 : Try.prog.underlying 25 = some (.slice 3) := by kernel_rfl
theorem u3 : Try.prog.underlying 3 = some (.int .i64) := by kernel_rfl
theorem z3 : sizeT Try.prog 3 = 1 := by kernel_rfl

theorem u42 : Try.prog.underlying 42 = some (.slice 52) := by kernel_rfl
theorem z52 : sizeT Try.prog 52 = 3 := by kernel_rfl
theorem z42 : sizeT Try.prog 42 = 1 := by kernel_rfl
theorem f44a : fieldAt Try.prog 44 0 = some (42, 0) := by kernel_rfl
theorem f44b : fieldAt Try.prog 44 1 = some (42, 1) := by kernel_rfl
theorem f52a : fieldAt Try.prog 52 0 = some (3, 0) := by kernel_rfl
theorem f52b : fieldAt Try.prog 52 1 = some (3, 1) := by kernel_rfl
theorem f52c : fieldAt Try.prog 52 2 = some (3, 2) := by kernel_rfl

theorem in_entry {H : Heap} {n : Nat} {cs : List HV} (h : Ty Try.prog H (n + 2) 52 cs) : ∃ e : En, cs = e.cs ∧ e.v ≤ 9223372036854775807 := by
  obtain ⟨hl, h1⟩ := h.field f52a
  obtain ⟨_, h2⟩ := h.field f52b
  obtain ⟨_, h3⟩ := h.field f52c
  rw [z52] at hl
  rw [z3] at h1 h2 h3
  match cs, hl with
  | [a, b, c], _ =>
    obtain ⟨x, hx, _⟩ := h1.int u3
    obtain ⟨y, hy, _⟩ := h2.int u3
    obtain ⟨z, hz, hz1, hz2⟩ := h3.int u3
    simp at hx hy hz
    subst hx; subst hy; subst hz
    exact ⟨⟨x, y, z⟩, rfl, (i64_bounds hz1 hz2).2⟩
theorem in_entries {H : Heap} (hro : RO H) {n : Nat} {cs : List HV} (h : Ty Try.prog H (n + 3) 42 cs) : ∃ s l, cs = [.sl s] ∧ Ents H s l ∧ Fit l := by
  obtain ⟨s, ls, rfl, hs, hl⟩ := h.slice hro u42
  rw [z52] at hs
  obtain ⟨l, rfl, hf⟩ := choose_map (f := En.cs) (p := fun e : En => e.v ≤ 9223372036854775807) fun x hx => in_entry (hl x hx)
  exact ⟨s, l, rfl, hs, hf⟩
theorem in_deed {H : Heap} (hro : RO H) {n : Nat} {cs : List HV} (h : Ty Try.prog H (n + 4) 44 cs) : ∃ d : Dd, cs = d.cs ∧ (Ents H d.rs d.r ∧ Ents H d.ws d.w) ∧ DFit d := by
  obtain ⟨hl, h1⟩ := h.field f44a
  obtain ⟨_, h2⟩ := h.field f44b
  rw [z44] at hl
  rw [z42] at h1 h2
  obtain ⟨s1, l1, e1, hs1, hf1⟩ := in_entries hro h1
  obtain ⟨s2, l2, e2, hs2, hf2⟩ := in_entries hro h2
  match cs, hl with
  | [a, b], _ =>
    simp at e1 e2
    subst e1; subst e2
    exact ⟨⟨s1, s2, l1, l2⟩, rfl, ⟨hs1, hs2⟩, ⟨hf1, hf2⟩⟩
theorem in_deeds {H : Heap} (hro : RO H) {x : HV} (h : ArgTy Try.prog H 6 22 x) : ∃ s l, x = .sl s ∧ Deeds H s l ∧ ∀ d ∈ l, DFit d := by
  obtain ⟨s, ls, e, hs, hl⟩ := (h.ty ag22).slice hro u22
  rw [z44] at hs
  obtain ⟨l, rfl, hf⟩ := choose_map (f := Dd.cs) (p := fun d : Dd => (Ents H d.rs d.r ∧ Ents H d.ws d.w) ∧ DFit d) fun x hx => in_deed hro (hl x hx)
  simp at e
  exact ⟨s, l, e, ⟨hs, fun d hd => (hf d hd).1⟩, fun d hd => (hf d hd).2⟩
theorem in_ints {H : Heap} (hro : RO H) {x : HV} (h : ArgTy Try.prog H 6 25 x) : ∃ s l, x = .sl s ∧ Ints H s l := by
  obtain ⟨s, ls, e, hs, hl⟩ := (h.ty ag25).slice hro u25
  rw [z3] at hs
  obtain ⟨l, rfl, _⟩ := choose_map (f := fun x : Int => [I x]) (p := fun _ => True) fun x hx => by
    obtain ⟨y, hy, _⟩ := (hl x hx).int u3
    exact ⟨y, hy, trivial⟩
  simp at e
  exact ⟨s, l, e, hs⟩
theorem in_int {H : Heap} {x : HV} (h : ArgTy Try.prog H 6 3 x) : ∃ y, x = I y := by
  obtain ⟨y, hy, _⟩ := (h.ty ag3).int u3
  simp at hy
  exact ⟨y, hy⟩
theorem yes_run {m : M HV} {H : Heap} (h : wp m Yes H) : ∃ n H', m H n = some (.bool true, H') := by
  obtain ⟨n, a, H', h1, rfl⟩ := h.run
  exact ⟨n, H', h1⟩

theorem law3 (H : Heap) (xs : List HV) (hro : RO H) (ht : ArgsTy Try.prog H 6 Try.f3.params.toList xs) : ∃ n H', s3 D1 xs H n = some (.bool true, H') := by
  rw [Try.params3] at ht
  obtain ⟨x, rfl, hx⟩ := args_one ht
  obtain ⟨s, l, rfl, hs, hf⟩ := in_deeds hro hx
  exact yes_run (s3_wp D1_eq hs hf)
theorem lifted3 (os : Os) (started : os.Started) (H : Type) (enc : TypeId × Value → H) :
    ReturnsInHanded {} Try.checked os 3 .any (Rows.witnessSerialSpec.pre6 enc Try.prog Try.f3 Rows.witnessSerialRow.domain false) (Rows.witnessSerialSpec.post enc Try.prog Try.f3 false Rows.witnessSerialRow.fresh Rows.witnessSerialRow.handsOn Rows.witnessSerialRow.again) := by
  refine returnsInHanded_of_change (C := Try.checked) Try.own started (by kernel_rfl) Try.func3
    (ChangeSpec.witness6 (enc := enc) (C := Try.checked) false ⟨#[], #[.slice none 0 0], []⟩ 8 (by kernel_rfl) (by kernel_rfl) (by kernel_rfl) (by kernel_rfl)) ?_
  intro W base args ds gs before hval0 hW hcnd _
  have hd : ds.length = 1 ∧ gs = [] := by
    obtain ⟨p, q, hA, hV, _⟩ := hW
    have hA' : DataW.TrodAll enc Try.prog W 0 (fun _ => true) true Try.f3.params.toList args.toList ds p := hA
    rw [Try.params3] at hA'
    obtain ⟨rfl, rfl⟩ := trodVars_none hV
    exact ⟨trod_len hA', rfl⟩
  obtain ⟨hd, rfl⟩ := hd
  match ds, hd with
  | [d], _ =>
    exact run_law (N := 6) (bt := 4) (ok3 D1_ok) Try.laidOut (by kernel_rfl) (by kernel_rfl) (by kernel_rfl) (by kernel_rfl) rfl hW hval0 rfl rfl rfl law3
/-- WitnessSerial: for every input the law answers true. -/
theorem WitnessSerial_holds : Rows.WitnessSerialSaid :=
  OpenClaim.holds_of_wide 3 Try.f3 rfl rfl rfl rfl rfl rfl rfl ⟨rfl, rfl, rfl, rfl, rfl⟩ rfl rfl rfl rfl rfl (by kernel_rfl) Try.func3 (by kernel_rfl)
    (of_decide_eq_true (by kernel_rfl)) (by unfold Func.isWrapper; first | (rw [if_pos (by decide +kernel)]; kernel_rfl) | (rw [if_neg (by decide +kernel)]; exact ⟨rfl, rfl⟩))
    (fun os started H enc _ => lifted3 os started H enc)

theorem law4 (H : Heap) (xs : List HV) (hro : RO H) (ht : ArgsTy Try.prog H 6 Try.f4.params.toList xs) : ∃ n H', s4 D1 xs H n = some (.bool true, H') := by
  rw [Try.params4] at ht
  obtain ⟨x, y, rfl, hx, hy⟩ := args_two ht
  obtain ⟨s, l, rfl, hs, hf⟩ := in_deeds hro hx
  obtain ⟨s2, o, rfl, ho⟩ := in_ints hro hy
  exact yes_run (s4_wp D1_eq hs ho)
theorem lifted4 (os : Os) (started : os.Started) (H : Type) (enc : TypeId × Value → H) :
    ReturnsInHanded {} Try.checked os 4 .any (Rows.witnessReplaysSpec.pre6 enc Try.prog Try.f4 Rows.witnessReplaysRow.domain false) (Rows.witnessReplaysSpec.post enc Try.prog Try.f4 false Rows.witnessReplaysRow.fresh Rows.witnessReplaysRow.handsOn Rows.witnessReplaysRow.again) := by
  refine returnsInHanded_of_change (C := Try.checked) Try.own started (by kernel_rfl) Try.func4
    (ChangeSpec.witness6 (enc := enc) (C := Try.checked) false ⟨#[], #[.slice none 0 0, .slice none 0 0], []⟩ 8 (by kernel_rfl) (by kernel_rfl) (by kernel_rfl) (by kernel_rfl)) ?_
  intro W base args ds gs before hval0 hW hcnd _
  have hd : ds.length = 2 ∧ gs = [] := by
    obtain ⟨p, q, hA, hV, _⟩ := hW
    have hA' : DataW.TrodAll enc Try.prog W 0 (fun _ => true) true Try.f4.params.toList args.toList ds p := hA
    rw [Try.params4] at hA'
    obtain ⟨rfl, rfl⟩ := trodVars_none hV
    exact ⟨trod_len hA', rfl⟩
  obtain ⟨hd, rfl⟩ := hd
  match ds, hd with
  | [d, d2], _ =>
    exact run_law (N := 6) (bt := 4) (ok4 D1_ok) Try.laidOut (by kernel_rfl) (by kernel_rfl) (by kernel_rfl) (by kernel_rfl) rfl hW hval0 rfl rfl rfl law4
/-- WitnessReplays: for every input the law answers true. -/
theorem WitnessReplays_holds : Rows.WitnessReplaysSaid :=
  OpenClaim.holds_of_wide 4 Try.f4 rfl rfl rfl rfl rfl rfl rfl ⟨rfl, rfl, rfl, rfl, rfl⟩ rfl rfl rfl rfl rfl (by kernel_rfl) Try.func4 (by kernel_rfl)
    (of_decide_eq_true (by kernel_rfl)) (by unfold Func.isWrapper; first | (rw [if_pos (by decide +kernel)]; kernel_rfl) | (rw [if_neg (by decide +kernel)]; exact ⟨rfl, rfl⟩))
    (fun os started H enc _ => lifted4 os started H enc)

theorem law5 (H : Heap) (xs : List HV) (hro : RO H) (ht : ArgsTy Try.prog H 6 Try.f5.params.toList xs) : ∃ n H', s5 D1 xs H n = some (.bool true, H') := by
  rw [Try.params5] at ht
  obtain ⟨x, y, rfl, hx, hy⟩ := args_two ht
  obtain ⟨s, l, rfl, hs, hf⟩ := in_deeds hro hx
  obtain ⟨s2, o, rfl, ho⟩ := in_ints hro hy
  exact yes_run (s5_wp D1_eq hs hf ho)
theorem lifted5 (os : Os) (started : os.Started) (H : Type) (enc : TypeId × Value → H) :
    ReturnsInHanded {} Try.checked os 5 .any (Rows.witnessFindsSpec.pre6 enc Try.prog Try.f5 Rows.witnessFindsRow.domain false) (Rows.witnessFindsSpec.post enc Try.prog Try.f5 false Rows.witnessFindsRow.fresh Rows.witnessFindsRow.handsOn Rows.witnessFindsRow.again) := by
  refine returnsInHanded_of_change (C := Try.checked) Try.own started (by kernel_rfl) Try.func5
    (ChangeSpec.witness6 (enc := enc) (C := Try.checked) false ⟨#[], #[.slice none 0 0, .slice none 0 0], []⟩ 8 (by kernel_rfl) (by kernel_rfl) (by kernel_rfl) (by kernel_rfl)) ?_
  intro W base args ds gs before hval0 hW hcnd _
  have hd : ds.length = 2 ∧ gs = [] := by
    obtain ⟨p, q, hA, hV, _⟩ := hW
    have hA' : DataW.TrodAll enc Try.prog W 0 (fun _ => true) true Try.f5.params.toList args.toList ds p := hA
    rw [Try.params5] at hA'
    obtain ⟨rfl, rfl⟩ := trodVars_none hV
    exact ⟨trod_len hA', rfl⟩
  obtain ⟨hd, rfl⟩ := hd
  match ds, hd with
  | [d, d2], _ =>
    exact run_law (N := 6) (bt := 4) (ok5 D1_ok) Try.laidOut (by kernel_rfl) (by kernel_rfl) (by kernel_rfl) (by kernel_rfl) rfl hW hval0 rfl rfl rfl law5
/-- WitnessFinds: for every input the law answers true. -/
theorem WitnessFinds_holds : Rows.WitnessFindsSaid :=
  OpenClaim.holds_of_wide 5 Try.f5 rfl rfl rfl rfl rfl rfl rfl ⟨rfl, rfl, rfl, rfl, rfl⟩ rfl rfl rfl rfl rfl (by kernel_rfl) Try.func5 (by kernel_rfl)
    (of_decide_eq_true (by kernel_rfl)) (by unfold Func.isWrapper; first | (rw [if_pos (by decide +kernel)]; kernel_rfl) | (rw [if_neg (by decide +kernel)]; exact ⟨rfl, rfl⟩))
    (fun os started H enc _ => lifted5 os started H enc)

theorem law6 (H : Heap) (xs : List HV) (hro : RO H) (ht : ArgsTy Try.prog H 6 Try.f6.params.toList xs) : ∃ n H', s6 D1 xs H n = some (.bool true, H') := by
  rw [Try.params6] at ht
  obtain ⟨x, y, rfl, hx, hy⟩ := args_two ht
  obtain ⟨s, l, rfl, hs, hf⟩ := in_deeds hro hx
  obtain ⟨s2, o, rfl, ho⟩ := in_ints hro hy
  exact yes_run (s6_wp D1_eq hs hf ho)
theorem lifted6 (os : Os) (started : os.Started) (H : Type) (enc : TypeId × Value → H) :
    ReturnsInHanded {} Try.checked os 6 .any (Rows.witnessFirstSpec.pre6 enc Try.prog Try.f6 Rows.witnessFirstRow.domain false) (Rows.witnessFirstSpec.post enc Try.prog Try.f6 false Rows.witnessFirstRow.fresh Rows.witnessFirstRow.handsOn Rows.witnessFirstRow.again) := by
  refine returnsInHanded_of_change (C := Try.checked) Try.own started (by kernel_rfl) Try.func6
    (ChangeSpec.witness6 (enc := enc) (C := Try.checked) false ⟨#[], #[.slice none 0 0, .slice none 0 0], []⟩ 8 (by kernel_rfl) (by kernel_rfl) (by kernel_rfl) (by kernel_rfl)) ?_
  intro W base args ds gs before hval0 hW hcnd _
  have hd : ds.length = 2 ∧ gs = [] := by
    obtain ⟨p, q, hA, hV, _⟩ := hW
    have hA' : DataW.TrodAll enc Try.prog W 0 (fun _ => true) true Try.f6.params.toList args.toList ds p := hA
    rw [Try.params6] at hA'
    obtain ⟨rfl, rfl⟩ := trodVars_none hV
    exact ⟨trod_len hA', rfl⟩
  obtain ⟨hd, rfl⟩ := hd
  match ds, hd with
  | [d, d2], _ =>
    exact run_law (N := 6) (bt := 4) (ok6 D1_ok) Try.laidOut (by kernel_rfl) (by kernel_rfl) (by kernel_rfl) (by kernel_rfl) rfl hW hval0 rfl rfl rfl law6
/-- WitnessFirst: for every input the law answers true. -/
theorem WitnessFirst_holds : Rows.WitnessFirstSaid :=
  OpenClaim.holds_of_wide 6 Try.f6 rfl rfl rfl rfl rfl rfl rfl ⟨rfl, rfl, rfl, rfl, rfl⟩ rfl rfl rfl rfl rfl (by kernel_rfl) Try.func6 (by kernel_rfl)
    (of_decide_eq_true (by kernel_rfl)) (by unfold Func.isWrapper; first | (rw [if_pos (by decide +kernel)]; kernel_rfl) | (rw [if_neg (by decide +kernel)]; exact ⟨rfl, rfl⟩))
    (fun os started H enc _ => lifted6 os started H enc)

theorem law7 (H : Heap) (xs : List HV) (_hro : RO H) (ht : ArgsTy Try.prog H 6 Try.f7.params.toList xs) : ∃ n H', s7 D1 xs H n = some (.bool true, H') := by
  rw [Try.params7] at ht
  obtain ⟨x, rfl, hx⟩ := args_one ht
  obtain ⟨y, rfl⟩ := in_int hx
  exact yes_run (s7_wp D1_eq)
theorem lifted7 (os : Os) (started : os.Started) (H : Type) (enc : TypeId × Value → H) :
    ReturnsInHanded {} Try.checked os 7 .any (Rows.witnessLongSpec.pre6 enc Try.prog Try.f7 Rows.witnessLongRow.domain false) (Rows.witnessLongSpec.post enc Try.prog Try.f7 false Rows.witnessLongRow.fresh Rows.witnessLongRow.handsOn Rows.witnessLongRow.again) := by
  refine returnsInHanded_of_change (C := Try.checked) Try.own started (by kernel_rfl) Try.func7
    (ChangeSpec.witness6 (enc := enc) (C := Try.checked) false ⟨#[], #[.int .i64 0], []⟩ 8 (by kernel_rfl) (by kernel_rfl) (by kernel_rfl) (by kernel_rfl)) ?_
  intro W base args ds gs before hval0 hW hcnd _
  have hd : ds.length = 1 ∧ gs = [] := by
    obtain ⟨p, q, hA, hV, _⟩ := hW
    have hA' : DataW.TrodAll enc Try.prog W 0 (fun _ => true) true Try.f7.params.toList args.toList ds p := hA
    rw [Try.params7] at hA'
    obtain ⟨rfl, rfl⟩ := trodVars_none hV
    exact ⟨trod_len hA', rfl⟩
  obtain ⟨hd, rfl⟩ := hd
  match ds, hd with
  | [d], _ =>
    exact run_law (N := 6) (bt := 4) (ok7 D1_ok) Try.laidOut (by kernel_rfl) (by kernel_rfl) (by kernel_rfl) (by kernel_rfl) rfl hW hval0 rfl rfl rfl law7
/-- WitnessLong: for every input the law answers true. -/
theorem WitnessLong_holds : Rows.WitnessLongSaid :=
  OpenClaim.holds_of_wide 7 Try.f7 rfl rfl rfl rfl rfl rfl rfl ⟨rfl, rfl, rfl, rfl, rfl⟩ rfl rfl rfl rfl rfl (by kernel_rfl) Try.func7 (by kernel_rfl)
    (of_decide_eq_true (by kernel_rfl)) (by unfold Func.isWrapper; first | (rw [if_pos (by decide +kernel)]; kernel_rfl) | (rw [if_neg (by decide +kernel)]; exact ⟨rfl, rfl⟩))
    (fun os started H enc _ => lifted7 os started H enc)
end Go.Proofs.Ythlfemjbeihmbaa
