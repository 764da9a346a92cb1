/- THE ROW WitnessOf holds. Conditions: none but the statement's own. -/
import Derived.Test.YtoogohhlmdgdpaaGreatHL5b
import Derived.Test.YtoogohhlmdgdpaaGreatHLAu3
import Derived.Test.YtoogohhlmdgdpaaGreatHLZt
import Derived.Test.YtoogohhlmdgdpaaGreatHLZc
import Derived.Test.YtoogohhlmdgdpaaGreatRows
namespace Go.Proofs.YtoogohhlmdgdpaaGreat
open Go Go.ChangeShapes Go.WideShapes Go.ChangeAt Go.RowKit Go.Proofs.YtoogohhlmdgdpaaGreat.HL
set_option maxRecDepth 100000
theorem Tryz.own : ownKnob Tryz.prog.godebug = none := by kernel_rfl
theorem Tryz.laidOut : laidOutB Tryz.prog = true := by kernel_rfl
def RO (H : Heap) : Prop := ∀ b cs ro, H.get b = .cells cs ro → ro = true ∧ b < H.n
noncomputable instance sea : Sea := ⟨[(n_reads_Set_All_1, f_reads_Set_All_1), (n_witness_ahead, f_witness_ahead), (n_draft_Draft_int_All_1, f_draft_Draft_int_All_1), (n_draft_Draft_file_File_All_1, f_draft_Draft_file_File_All_1), (n_slices_Values_reads_Entry_reads_Entry_1, f_slices_Values_reads_Entry_reads_Entry_1), (n_draft_by_int, f_draft_by_int), (n_reads_Set_place_1, f_reads_Set_place_1), (n_draft_by_file_File, f_draft_by_file_File)], [(82349159, r0_sheet_Sheet_Over), (45135019, r0_attempt_Attempt_Land), (58353469, r0_slices_AppendSeq_reads_Entry_reads_Entry), (78258034, r0_witness_Of), (19334329, r1_witness_Of), (11373009, r0_law30_WitnessOf)]⟩
theorem lv_lev (n : Nat) : lv n = lev n := rfl
instance : SeaOk := ⟨rfl, rfl, rfl⟩
instance : SeaLand := ⟨rfl, rfl, rfl, rfl⟩
instance : SeaOf := ⟨rfl, rfl, rfl, rfl⟩
instance : SeaMain := ⟨rfl, rfl⟩
theorem u22 : Tryz.prog.underlying 22 = some (.slice 39) := by kernel_rfl
theorem u23 : Tryz.prog.underlying 23 = some (.array 3 9) := by kernel_rfl
theorem u3 : Tryz.prog.underlying 3 = some (.int .i64) := by kernel_rfl
theorem u5 : Tryz.prog.underlying 5 = some (.int .u8) := by kernel_rfl
theorem u9 : Tryz.prog.underlying 9 = some .string := by kernel_rfl
theorem z3 : sizeT Tryz.prog 3 = 1 := by kernel_rfl
theorem z5 : sizeT Tryz.prog 5 = 1 := by kernel_rfl
theorem z9 : sizeT Tryz.prog 9 = 1 := by kernel_rfl
theorem z39 : sizeT Tryz.prog 39 = 4 := by kernel_rfl
theorem ag22 : agOf Tryz.prog 22 = some false := by kernel_rfl
theorem ag23 : agOf Tryz.prog 23 = some true := by kernel_rfl
theorem f39a : fieldAt Tryz.prog 39 0 = some (3, 0) := by kernel_rfl
theorem f39b : fieldAt Tryz.prog 39 1 = some (3, 1) := by kernel_rfl
theorem f39c : fieldAt Tryz.prog 39 2 = some (3, 2) := by kernel_rfl
theorem f39d : fieldAt Tryz.prog 39 3 = some (5, 3) := by kernel_rfl
theorem in_dee {H : Heap} {n : Nat} {cs : List HV} (h : Ty Tryz.prog H (n + 2) 39 cs) : ∃ x : Dee, cs = deC x ∧ True := by
  obtain ⟨hl, h1⟩ := h.field f39a
  obtain ⟨_, h2⟩ := h.field f39b
  obtain ⟨_, h3⟩ := h.field f39c
  obtain ⟨_, h4⟩ := h.field f39d
  rw [z39] at hl
  rw [z3] at h1 h2 h3
  rw [z5] at h4
  match cs, hl with
  | [a, b, c, d], _ =>
    obtain ⟨x, hx, _⟩ := h1.int u3
    obtain ⟨y, hy, _⟩ := h2.int u3
    obtain ⟨z, hz, _⟩ := h3.int u3
    obtain ⟨w, hw, hw1, hw2⟩ := h4.int u5
    simp at hx hy hz hw
    subst hx; subst hy; subst hz; subst hw
    have hw1 : 0 ≤ w := hw1
    have hw2 : w ≤ 255 := hw2
    refine ⟨⟨x, y, z, UInt8.ofNat w.toNat⟩, ?_, trivial⟩
    have e : ((UInt8.ofNat w.toNat).toNat : Int) = w := by
      rw [UInt8.toNat_ofNat']; omega
    simp only [deC, e]
theorem in_dees {H : Heap} (hro : RO H) {x : HV} (h : ArgTy Tryz.prog H 6 22 x) : ∃ s l, x = .sl s ∧ RoR H s Dee deC 4 l := by
  obtain ⟨s, ls, e, hs, hl⟩ := (h.ty ag22).slice hro u22
  rw [z39] at hs
  obtain ⟨l, rfl, _⟩ := choose_map (f := deC) (p := fun _ => True) fun x hx => in_dee (hl x hx)
  simp at e
  exact ⟨s, l, e, ⟨hs⟩⟩
theorem in_texts {H : Heap} {x : HV} (h : ArgTy Tryz.prog H 6 23 x) : ∃ a b c : Bs, x = .agg [.str (S a), .str (S b), .str (S c)] := by
  obtain ⟨cs, rfl, ht⟩ := h.ag ag23
  unfold Ty at ht
  rw [u23] at ht
  obtain ⟨h1, h2⟩ := ht
  rw [z9] at h1 h2
  match cs, h1 with
  | [a, b, c], _ =>
    obtain ⟨x, hx, _⟩ := (h2 0 (by decide)).str u9
    obtain ⟨y, hy, _⟩ := (h2 1 (by decide)).str u9
    obtain ⟨z, hz, _⟩ := (h2 2 (by decide)).str u9
    simp at hx hy hz
    subst hx; subst hy; subst hz
    obtain ⟨l, rfl⟩ := S_of x
    obtain ⟨m, rfl⟩ := S_of y
    obtain ⟨k, rfl⟩ := S_of z
    exact ⟨l, m, k, rfl⟩
theorem law3 (H : Heap) (xs : List HV) (hro : RO H) (hty : ∀ x, H.ty x = none) (ht : ArgsTy Tryz.prog H 6 Tryz.f3.params.toList xs) : ∃ n H', f_law30_WitnessOf (lev 4) xs H n = some (.bool true, H') := by
  rw [Tryz.params3] at ht
  obtain ⟨x, y, z, rfl, hx, hy, hz⟩ := args_three ht
  obtain ⟨s0, l0, rfl, r0⟩ := in_dees hro hx
  obtain ⟨s1, l1, rfl, r1⟩ := in_dees hro hy
  obtain ⟨a, b, c, rfl⟩ := in_texts hz
  have hw := law30_WitnessOf_v (n := 2) (t0 := a) (t1 := b) (t2 := c) (r0 := r0) (r1 := r1) hty H (Ho.nil H)
  obtain ⟨n, v, H', h1, P', rfl, _⟩ := hw
  exact ⟨n, H', h1 n (Nat.le_refl _)⟩
theorem lifted3 (os : Os) (started : os.Started) (H : Type) (enc : TypeId × Value → H) :
    ReturnsInHanded {} Tryz.checked os 3 .any (Rows.witnessOfSpec.pre6 enc Tryz.prog Tryz.f3 Rows.witnessOfRow.domain false) (Rows.witnessOfSpec.post enc Tryz.prog Tryz.f3 false Rows.witnessOfRow.fresh Rows.witnessOfRow.handsOn Rows.witnessOfRow.again) := by
  refine returnsInHanded_of_change (C := Tryz.checked) Tryz.own started (by kernel_rfl) Tryz.func3
    (ChangeSpec.witness6 (enc := enc) (C := Tryz.checked) false ⟨#[], #[.slice none 0 0, .slice none 0 0, .agg #[.string ByteArray.empty, .string ByteArray.empty, .string ByteArray.empty]], []⟩ 8 (by kernel_rfl) (by kernel_rfl) (by kernel_rfl) (by kernel_rfl)) ?_
  intro W base args ds gs before hval0 hW hcnd _
  have hd : ds.length = 3 ∧ gs = [] := by
    obtain ⟨p, q, hA, hV, _⟩ := hW
    have hA' : DataW.TrodAll enc Tryz.prog W 0 (fun _ => true) true Tryz.f3.params.toList args.toList ds p := hA
    rw [Tryz.params3] at hA'
    obtain ⟨rfl, rfl⟩ := trodVars_none hV
    exact ⟨trod_len hA', rfl⟩
  obtain ⟨hd, rfl⟩ := hd
  match ds, hd with
  | [d0, d1, d2], _ =>
    exact run_lawT (N := 6) (bt := 4) (ok3 (lev_ok 4)) Tryz.laidOut (by kernel_rfl) (by kernel_rfl) (by kernel_rfl) (by kernel_rfl) rfl hW hval0 rfl rfl rfl law3
/-- WitnessOf: for every input the law answers true. -/
theorem WitnessOf_holds : Rows.WitnessOfSaid :=
  OpenClaim.holds_of_wide 3 Tryz.f3 rfl rfl rfl rfl rfl rfl rfl ⟨rfl, rfl, rfl, rfl, rfl⟩ rfl rfl rfl rfl rfl (by kernel_rfl) Tryz.func3 (by kernel_rfl)
    (of_decide_eq_true (by kernel_rfl)) (by unfold Func.isWrapper; first | (rw [if_pos (by decide +kernel)]; kernel_rfl) | (rw [if_neg (by decide +kernel)]; exact ⟨rfl, rfl⟩))
    (fun os started H enc _ => lifted3 os started H enc)
end Go.Proofs.YtoogohhlmdgdpaaGreat
