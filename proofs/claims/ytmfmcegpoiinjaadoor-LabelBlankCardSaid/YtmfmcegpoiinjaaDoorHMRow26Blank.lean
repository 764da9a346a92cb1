/- THE CARD LabelBlank holds. Conditions: none but the statement's own. -/
import Derived.Test.YtmfmcegpoiinjaaDoorHMRwh
import Derived.Test.YtmfmcegpoiinjaaDoorHMRm
namespace Go.Proofs.YtmfmcegpoiinjaaDoor
open Go Go.ChangeShapes Go.WideShapes Go.ChangeAt Go.RowKit Go.Proofs.YtmfmcegpoiinjaaDoor.HM
set_option maxRecDepth 100000

theorem law8 (H : Heap) (xs : List HV) (hro : RO H) (hG : Gl H) (ht : ArgsTy Tryd.prog H 6 Tryd.f8.params.toList xs) : ∃ n H', f_law26_LabelBlank (lev 5) xs H n = some (.bool true, H') := by
  rw [Tryd.params8] at ht
  obtain ⟨x, y, rfl, hx, hy⟩ := args_two ht
  obtain ⟨s, l, rfl, hs, _, hf⟩ := in_strs hro hx
  obtain ⟨m, rfl, hm⟩ := in_int hy
  exact yes_run (LabelBlank_wp (D0 := lev 3) rfl rfl hG hs hf hm fun _ => rfl)
theorem lifted8 (os : Os) (started : os.Started) (H : Type) (enc : TypeId × Value → H) :
    ReturnsInHanded {} Tryd.checked os 8 .any (fun w args => (Rows.labelBlankSpec.pre enc Tryd.prog Tryd.f8 [] false w args ∧ laidMetH Tryd.prog laidL w) ∧ sizedMet enc Tryd.prog Tryd.f8 (OpenSpec.ofChange Rows.labelBlankSpec) false w args)
      (Rows.labelBlankSpec.post enc Tryd.prog Tryd.f8 false Rows.labelBlankRow.fresh Rows.labelBlankRow.handsOn Rows.labelBlankRow.again) := by
  refine wrap_laid (C := Tryd.checked) (X := fun w _ => laidMetH Tryd.prog laidL w) (fun _ _ _ hh h => h.of_heap hh) Tryd.own started (by kernel_rfl) Tryd.func8
    (ChangeSpec.witness_shaped (enc := enc) (C := Tryd.checked) (os := os) (X := fun w _ => laidMetH Tryd.prog laidL w) false (wit os) #[.slice none 0 0, .int .i64 0] 8 rfl (World.shaped_of_RefB (by kernel_rfl) (by kernel_rfl)) (by kernel_rfl) (by kernel_rfl) (by kernel_rfl) (door_met os _)) ?_
  intro W base args ds gs before hval0 hW hL hS
  have hd : ds.length = 2 ∧ gs = [] := by
    obtain ⟨p, q, hA, hV, _⟩ := hW
    have hA' : DataW.TrodAll enc Tryd.prog W 0 (fun _ => true) true Tryd.f8.params.toList args.toList ds p := hA
    rw [Tryd.params8] at hA'
    obtain ⟨rfl, rfl⟩ := trodVars_none hV
    exact ⟨trod_len hA', rfl⟩
  obtain ⟨hd, rfl⟩ := hd
  obtain ⟨I0, H0, hst, hgl, hG0⟩ := laid_open hL hS
  match ds, hd with
  | [d0, d1], _ =>
    exact run_lawG (N := 6) (bt := 4) (ok8 (lev_ok 5)) hst hgl Tryd.laidOut (by kernel_rfl) (by kernel_rfl) (by kernel_rfl) (by kernel_rfl) rfl hW hval0 rfl rfl rfl (fun H xs hro hn hg hty ht => law8 H xs hro (gl_ext hG0 hn hg hty) ht)
theorem LabelBlank_row : Rows.LabelBlankSaid :=
  OpenClaim.holds_of_wide 8 Tryd.f8 rfl rfl rfl rfl rfl rfl rfl ⟨rfl, rfl, rfl, rfl, rfl⟩ rfl rfl rfl rfl rfl (by kernel_rfl) Tryd.func8 (by kernel_rfl)
    (of_decide_eq_true (by kernel_rfl)) (by unfold Func.isWrapper; first | (rw [if_pos (by decide +kernel)]; kernel_rfl) | (rw [if_neg (by decide +kernel)]; exact ⟨rfl, rfl⟩))
    (fun os started H enc _ => lifted8 os started H enc)
/-- LabelBlank: for every input the law answers true; the card, tied. -/
theorem LabelBlank_holds : Rows.LabelBlankCardSaid :=
  Claim7.holds_tied_plain_at .later [] [.data, .data, .data, .data, .sentinel, .sentinel, .data, .data, .pinned] true (true, "b73955d4189b87c6aa64c779127569a889c9d0f1771f10a08d7ff4ae65ca5d74") true
    LabelBlank_row (fun _ h => by cases h) (by kernel_rfl) (fun _ h => by cases h) labelBlank_row_tie rfl ⟨rfl, rfl⟩ (by kernel_rfl) rfl
    (fun f fn hf hfn => by
      obtain rfl : f = 8 := Option.some.inj ((show Tryd.prog.funcNamed "countermand/countermandlaw26.LabelBlank" = some 8 by kernel_rfl).symm.trans hf) |>.symm
      obtain rfl : fn = Tryd.f8 := (Option.some.inj (Tryd.func8.symm.trans hfn)).symm
      exact ⟨by kernel_rfl, fun j t ht => by
        rw [Tryd.params8] at ht
        have hm : t ∈ [40, 3] := by simpa using Array.mem_of_getElem? ht
        have hall : ([40, 3].all fun u => !Tryd.prog.wantsStandIn u) = true := by kernel_rfl
        exact (show Tryd.prog.wantsStandIn t = false by simpa using List.all_eq_true.1 hall t hm)⟩)
    (by kernel_rfl)
end Go.Proofs.YtmfmcegpoiinjaaDoor
