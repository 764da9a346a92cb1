/- THE ROW CommitLasts holds. Conditions: none but the statement's own. -/
import Derived.Test.YtbphjihgbenkdaaGreatHQ5b
import Derived.Test.YtbphjihgbenkdaaGreatHQBuz
import Derived.Test.YtbphjihgbenkdaaGreatHQZt
import Derived.Test.YtbphjihgbenkdaaGreatHQZc
import Derived.Test.YtbphjihgbenkdaaGreatRows
namespace Go.Proofs.YtbphjihgbenkdaaGreat
set_option linter.unusedVariables false
set_option linter.unusedSectionVars false
set_option linter.unusedSimpArgs false
open Go Go.ChangeShapes Go.WideShapes Go.ChangeAt Go.RowKit Go.Proofs.YtbphjihgbenkdaaGreat.HQ
set_option maxRecDepth 100000
theorem Tryz.own : ownKnob Tryz.prog.godebug = none := by kernel_rfl
theorem Tryz.laidOut : laidOutB Tryz.prog = true := by kernel_rfl
def RO (H : Heap) : Prop := ∀ b cs ro, H.get b = .cells cs ro → ro = true ∧ b < H.n
noncomputable instance sea : Sea := ⟨[(n_draft_by_int, f_draft_by_int), (n_wal_Log_All_1, f_wal_Log_All_1), (n_tome_Tome_All_1, f_tome_Tome_All_1), (n_slices_Backward_acts_Open_acts_Open_1, f_slices_Backward_acts_Open_acts_Open_1), (n_draft_Draft_int_All_1, f_draft_Draft_int_All_1), (n_wafer_All_1, f_wafer_All_1), (n_cell_Row_file_File_All_1, f_cell_Row_file_File_All_1), (n_draft_Draft_file_File_All_1, f_draft_Draft_file_File_All_1), (n_reads_Set_place_1, f_reads_Set_place_1), (n_draft_by_file_File, f_draft_by_file_File)], [(94685864, r0_wafer_Whole), (91115101, r0_wal_Log_All_1), (69547369, r0_vault_look), (71670451, r0_tome_Tome_All_1), (38705704, r0_tome_Tome_Bytes), (89324821, r0_redo_Bytes), (82349159, r0_sheet_Sheet_Over), (45135019, r0_attempt_Attempt_Land), (49475106, r0_acts_undo)]⟩
instance : SeaOk := ⟨rfl, rfl, rfl⟩
instance : SeaLand := ⟨rfl, rfl, rfl, rfl⟩
instance : SeaUndo := ⟨rfl, rfl⟩
instance : SeaRedo := ⟨rfl⟩
instance : SeaOpen := ⟨rfl, rfl, rfl, rfl, rfl⟩instance : SeaRec := ⟨rfl, rfl, rfl⟩
instance : SeaTome := ⟨rfl⟩
theorem u51 : Tryz.prog.underlying 51 = some (.slice 55) := by kernel_rfl
theorem u3 : Tryz.prog.underlying 3 = some (.int .i64) := by kernel_rfl
theorem u5 : Tryz.prog.underlying 5 = some (.int .u8) := by kernel_rfl
theorem z3 : sizeT Tryz.prog 3 = 1 := by kernel_rfl
theorem z5 : sizeT Tryz.prog 5 = 1 := by kernel_rfl
theorem z51 : sizeT Tryz.prog 51 = 1 := by kernel_rfl
theorem z55 : sizeT Tryz.prog 55 = 4 := by kernel_rfl
theorem z53 : sizeT Tryz.prog 53 = 7 := by kernel_rfl
theorem ag3 : agOf Tryz.prog 3 = some false := by kernel_rfl
theorem f55x0 : fieldAt Tryz.prog 55 0 = some (3, 0) := by kernel_rfl
theorem f55x1 : fieldAt Tryz.prog 55 1 = some (3, 1) := by kernel_rfl
theorem f55x2 : fieldAt Tryz.prog 55 2 = some (3, 2) := by kernel_rfl
theorem f55x3 : fieldAt Tryz.prog 55 3 = some (5, 3) := by kernel_rfl
theorem f53x0 : fieldAt Tryz.prog 53 0 = some (51, 0) := by kernel_rfl
theorem f53x1 : fieldAt Tryz.prog 53 1 = some (3, 1) := by kernel_rfl
theorem f53x2 : fieldAt Tryz.prog 53 2 = some (5, 2) := by kernel_rfl
theorem f53x3 : fieldAt Tryz.prog 53 3 = some (5, 3) := by kernel_rfl
theorem f53x4 : fieldAt Tryz.prog 53 4 = some (3, 4) := by kernel_rfl
theorem f53x5 : fieldAt Tryz.prog 53 5 = some (3, 5) := by kernel_rfl
theorem f53x6 : fieldAt Tryz.prog 53 6 = some (3, 6) := by kernel_rfl
theorem by_of {w : Int} (h : 0 ≤ w) (h2 : w ≤ 255) : ((UInt8.ofNat w.toNat).toNat : Int) = w := by
 rw [UInt8.toNat_ofNat']; omega
theorem in_dee {H : Heap} {n : Nat} {cs : List HV} (h : Ty Tryz.prog H (n + 2) 55 cs) : ∃ x : Dee, cs = deC x ∧ True := by
 obtain ⟨hl, h1⟩ := h.field f55x0
 obtain ⟨_, h2⟩ := h.field f55x1
 obtain ⟨_, h3⟩ := h.field f55x2
 obtain ⟨_, h4⟩ := h.field f55x3
 rw [z55] at hl
 rw [z3] at h1 h2 h3
 rw [z5] at h4
 match cs, hl with
 | [a, b, c, d], _ =>
  obtain ⟨x, hx, _⟩ := h1.int u3
  obtain ⟨y, hy, _⟩ := h2.int u3
  obtain ⟨z, hz, _⟩ := h3.int u3
  obtain ⟨w, hw, hw1, hw2⟩ := h4.int u5
  simp at hx hy hz hw
  subst hx; subst hy; subst hz; subst hw
  refine ⟨⟨x, y, z, UInt8.ofNat w.toNat⟩, ?_, trivial⟩
  simp only [deC, by_of hw1 hw2]
theorem in_try0 {H : Heap} (hro : RO H) {n : Nat} {cs : List HV} (ht : Ty Tryz.prog H (n + 4) 53 cs) : ∃ (y : TyA) (l : List Dee), cs = tyC y ∧ RoR H y.s Dee deC 4 l := by
 obtain ⟨hl, h0⟩ := ht.field f53x0
 obtain ⟨_, h1⟩ := ht.field f53x1
 obtain ⟨_, h2⟩ := ht.field f53x2
 obtain ⟨_, h3⟩ := ht.field f53x3
 obtain ⟨_, h4⟩ := ht.field f53x4
 obtain ⟨_, h5⟩ := ht.field f53x5
 obtain ⟨_, h6⟩ := ht.field f53x6
 rw [z53] at hl
 rw [z51] at h0
 rw [z3] at h1 h4 h5 h6
 rw [z5] at h2 h3
 match cs, hl with
 | [a, b, c, d, e, f, g], _ =>
  obtain ⟨s, ls, hs, hsl, hll⟩ := h0.slice hro u51
  rw [z55] at hsl
  obtain ⟨l, rfl, _⟩ := choose_map (f := deC) (p := fun _ => True) fun x hx => in_dee (hll x hx)
  obtain ⟨x1, e1, _⟩ := h1.int u3
  obtain ⟨x2, e2, g2, k2⟩ := h2.int u5
  obtain ⟨x3, e3, g3, k3⟩ := h3.int u5
  obtain ⟨x4, e4, _⟩ := h4.int u3
  obtain ⟨x5, e5, _⟩ := h5.int u3
  obtain ⟨x6, e6, _⟩ := h6.int u3
  simp at hs e1 e2 e3 e4 e5 e6
  subst hs; subst e1; subst e2; subst e3; subst e4; subst e5; subst e6
  refine ⟨⟨s, x1, UInt8.ofNat x2.toNat, UInt8.ofNat x3.toNat, x4, x5, x6⟩, l, ?_, ⟨hsl⟩⟩
  simp only [tyC, by_of g2 k2, by_of g3 k3]
theorem u22 : Tryz.prog.underlying 22 = some (.slice 53) := by kernel_rfl
theorem ag22 : agOf Tryz.prog 22 = some false := by kernel_rfl
theorem in_tries {H : Heap} (hro : RO H) {x : HV} (h : ArgTy Tryz.prog H 6 22 x) : ∃ (s : Sl) (l : List TyA) (ls : TyA → List Dee), x = .sl s ∧ RoR H s TyA tyC 7 l ∧ ∀ y ∈ l, RoR H y.s Dee deC 4 (ls y) := by
 obtain ⟨s, ls, e, hs, hl⟩ := (h.ty ag22).slice hro u22
 rw [z53] at hs
 obtain ⟨l, rfl, hp⟩ := choose_map (f := tyC) (p := fun y => ∃ m, RoR H y.s Dee deC 4 m) fun x hx => by
  obtain ⟨y, m, e, hr⟩ := in_try0 hro (hl x hx)
  exact ⟨y, e, m, hr⟩
 simp at e
 classical
 refine ⟨s, l, fun y => if q : ∃ m, RoR H y.s Dee deC 4 m then q.choose else [], e, ⟨hs⟩, fun y hy => ?_⟩
 have q := hp y hy
 simp only [dif_pos q]
 exact q.choose_spec
theorem args_four {P : Program} {H : Heap} {n : Nat} {t1 t2 t3 t4 : TypeId} {xs : List HV} (h : ArgsTy P H n [t1, t2, t3, t4] xs) : ∃ x y z w, xs = [x, y, z, w] ∧ ArgTy P H n t1 x ∧ ArgTy P H n t2 y ∧ ArgTy P H n t3 z ∧ ArgTy P H n t4 w := by
 match xs, h with
 | [x, y, z, w], h => exact ⟨x, y, z, w, rfl, h.1, h.2.1, h.2.2.1, h.2.2.2.1⟩
theorem u23 : Tryz.prog.underlying 23 = some (.slice 3) := by kernel_rfl
theorem ag23 : agOf Tryz.prog 23 = some false := by kernel_rfl
theorem in_ints {H : Heap} (hro : RO H) {x : HV} (h : ArgTy Tryz.prog H 6 23 x) : ∃ (s : Sl) (l : List Int), x = .sl s ∧ RoR H s Int iiC 1 l := by
 obtain ⟨s, ls, e, hs, hl⟩ := (h.ty ag23).slice hro u23
 rw [z3] at hs
 obtain ⟨l, rfl, _⟩ := choose_map (f := iiC) (p := fun _ => True) fun x hx => by
  obtain ⟨y, hy, _⟩ := (hl x hx).int u3
  exact ⟨y, hy, trivial⟩
 simp at e
 exact ⟨s, l, e, ⟨hs⟩⟩
theorem law4 (H : Heap) (xs : List HV) (hro : RO H) (_hty : ∀ x, H.ty x = none) (ht : ArgsTy Tryz.prog H 6 Tryz.f4.params.toList xs) : ∃ n H', f_law22_CommitLasts (lev 4) xs H n = some (.bool true, H') := by
 rw [Tryz.params4] at ht
 obtain ⟨x, y, z, w, rfl, hx, hy, hz, hw⟩ := args_four ht
 obtain ⟨s, l, ls, rfl, rr, hr⟩ := in_tries hro hx
 obtain ⟨s1, l1, rfl, r1⟩ := in_ints hro hy
 obtain ⟨k, hk, _⟩ := (hz.ty ag3).int u3
 simp at hk
 subst hk
 obtain ⟨k', hk', _⟩ := (hw.ty ag3).int u3
 simp at hk'
 subst hk'
 have hv := law22_CommitLasts_v (n := 0) (s := s) (s1 := s1) (xs := l) (ls := ls) (steps := l1) (keep := k) (part := k') (rr := rr) (r1 := r1) hr H (Ho.nil H)
 obtain ⟨n, v, H', h1, P', rfl, _⟩ := hv
 exact ⟨n, H', h1 n (Nat.le_refl _)⟩
theorem lifted4 (os : Os) (started : os.Started) (H : Type) (enc : TypeId × Value → H) :
  ReturnsInHanded {} Tryz.checked os 4 .any (Rows.commitLastsSpec.pre6 enc Tryz.prog Tryz.f4 Rows.commitLastsRow.domain false) (Rows.commitLastsSpec.post enc Tryz.prog Tryz.f4 false Rows.commitLastsRow.fresh Rows.commitLastsRow.handsOn Rows.commitLastsRow.again) := by
 refine returnsInHanded_of_change (C := Tryz.checked) Tryz.own started (by kernel_rfl) Tryz.func4
  (ChangeSpec.witness6 (enc := enc) (C := Tryz.checked) false ⟨#[], #[.slice none 0 0, .slice none 0 0, .int .i64 0, .int .i64 0], []⟩ 8 (by kernel_rfl) (by kernel_rfl) (by kernel_rfl) (by kernel_rfl)) ?_
 intro W base args ds gs before hval0 hW hcnd _
 have hd : ds.length = 4 ∧ gs = [] := by
  obtain ⟨p, q, hA, hV, _⟩ := hW
  have hA' : DataW.TrodAll enc Tryz.prog W 0 (fun _ => true) true Tryz.f4.params.toList args.toList ds p := hA
  rw [Tryz.params4] at hA'
  obtain ⟨rfl, rfl⟩ := trodVars_none hV
  exact ⟨trod_len hA', rfl⟩
 obtain ⟨hd, rfl⟩ := hd
 match ds, hd with
 | [d0, d1, d2, d3], _ =>
  exact run_lawT (N := 6) (bt := 4) (ok4 (lev_ok 4)) Tryz.laidOut (by kernel_rfl) (by kernel_rfl) (by kernel_rfl) (by kernel_rfl) rfl hW hval0 rfl rfl rfl law4
theorem CommitLasts_holds : Rows.CommitLastsSaid :=
 OpenClaim.holds_of_wide 4 Tryz.f4 rfl rfl rfl rfl rfl rfl rfl ⟨rfl, rfl, rfl, rfl, rfl⟩ rfl rfl rfl rfl rfl (by kernel_rfl) Tryz.func4 (by kernel_rfl)
  (of_decide_eq_true (by kernel_rfl)) (by unfold Func.isWrapper; first | (rw [if_pos (by decide +kernel)]; kernel_rfl) | (rw [if_neg (by decide +kernel)]; exact ⟨rfl, rfl⟩))
  (fun os started H enc _ => lifted4 os started H enc)
end Go.Proofs.YtbphjihgbenkdaaGreat
