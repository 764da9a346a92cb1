/- THE CARD LabelFull holds. Conditions: none but the statement's own. -/
import Derived.Test.YtmfmcegpoiinjaaDoorHMRwh
import Derived.Test.YtmfmcegpoiinjaaDoorHMRm
namespace Go.Proofs.YtmfmcegpoiinjaaDoor
open Go Go.ChangeShapes Go.WideShapes Go.ChangeAt Go.RowKit Go.Proofs.YtmfmcegpoiinjaaDoor.HM
set_option maxRecDepth 100000

theorem law10 (H : Heap) (xs : List HV) (_hro : RO H) (hG : Gl H) (ht : ArgsTy Tryd.prog H 6 Tryd.f10.params.toList xs) : ∃ n H', f_law26_LabelFull (lev 5) xs H n = some (.bool true, H') := by
  rw [Tryd.params10] at ht
  obtain ⟨x, y, rfl, hx, hy⟩ := args_two ht
  obtain ⟨m, rfl, hm⟩ := in_int hx
  obtain ⟨n, rfl, hn⟩ := in_int hy
  exact yes_run (LabelFull_wp (D0 := lev 3) rfl rfl hG hm hn fun _ => rfl)
theorem lifted10 (os : Os) (started : os.Started) (H : Type) (enc : TypeId × Value → H) :
    ReturnsInHanded {} Tryd.checked os 10 .any (fun w args => (Rows.labelFullSpec.pre enc Tryd.prog Tryd.f10 [] false w args ∧ laidMetH Tryd.prog laidL w) ∧ sizedMet enc Tryd.prog Tryd.f10 (OpenSpec.ofChange Rows.labelFullSpec) false w args)
      (Rows.labelFullSpec.post enc Tryd.prog Tryd.f10 false Rows.labelFullRow.fresh Rows.labelFullRow.handsOn Rows.labelFullRow.again) := by
  refine wrap_laid (C := Tryd.checked) (X := fun w _ => laidMetH Tryd.prog laidL w) (fun _ _ _ hh h => h.of_heap hh) Tryd.own started (by kernel_rfl) Tryd.func10
    (ChangeSpec.witness_shaped (enc := enc) (C := Tryd.checked) (os := os) (X := fun w _ => laidMetH Tryd.prog laidL w) false (wit os) #[.int .i64 0, .int .i64 0] 8 rfl (World.shaped_of_RefB (by kernel_rfl) (by kernel_rfl)) (by kernel_rfl) (by kernel_rfl) (by kernel_rfl) (door_met os _)) ?_
  intro W base args ds gs before hval0 hW hL hS
  have hd : ds.length = 2 ∧ gs = [] := by
    obtain ⟨p, q, hA, hV, _⟩ := hW
    have hA' : DataW.TrodAll enc Tryd.prog W 0 (fun _ => true) true Tryd.f10.params.toList args.toList ds p := hA
    rw [Tryd.params10] at hA'
    obtain ⟨rfl, rfl⟩ := trodVars_none hV
    exact ⟨trod_len hA', rfl⟩
  obtain ⟨hd, rfl⟩ := hd
  obtain ⟨I0, H0, hst, hgl, hG0⟩ := laid_open hL hS
  match ds, hd with
  | [d0, d1], _ =>
    exact run_lawG (N := 6) (bt := 4) (ok10 (lev_ok 5)) hst hgl Tryd.laidOut (by kernel_rfl) (by kernel_rfl) (by kernel_rfl) (by kernel_rfl) rfl hW hval0 rfl rfl rfl (fun H xs hro hn hg hty ht => law10 H xs hro (gl_ext hG0 hn hg hty) ht)
theorem LabelFull_row : Rows.LabelFullSaid :=
  OpenClaim.holds_of_wide 10 Tryd.f10 rfl rfl rfl rfl rfl rfl rfl ⟨rfl, rfl, rfl, rfl, rfl⟩ rfl rfl rfl rfl rfl (by kernel_rfl) Tryd.func10 (by kernel_rfl)
    (of_decide_eq_true (by kernel_rfl)) (by unfold Func.isWrapper; first | (rw [if_pos (by decide +kernel)]; kernel_rfl) | (rw [if_neg (by decide +kernel)]; exact ⟨rfl, rfl⟩))
    (fun os started H enc _ => lifted10 os started H enc)
/-- LabelFull: for every input the law answers true; the card, tied. -/
theorem LabelFull_holds : Rows.LabelFullCardSaid :=
  Claim7.holds_tied_plain_at .later [] [.data, .data, .data, .data, .sentinel, .sentinel, .data, .data, .pinned] true (true, "b73955d4189b87c6aa64c779127569a889c9d0f1771f10a08d7ff4ae65ca5d74") true
    LabelFull_row (fun _ h => by cases h) (by kernel_rfl) (fun _ h => by cases h) labelFull_row_tie rfl ⟨rfl, rfl⟩ (by kernel_rfl) rfl
    (fun f fn hf hfn => by
      obtain rfl : f = 10 := Option.some.inj ((show Tryd.prog.funcNamed "countermand/countermandlaw26.LabelFull" = some 10 by kernel_rfl).symm.trans hf) |>.symm
      obtain rfl : fn = Tryd.f10 := (Option.some.inj (Tryd.func10.symm.trans hfn)).symm
      exact ⟨by kernel_rfl, fun j t ht => by
        rw [Tryd.params10] at ht
        have hm : t ∈ [3, 3] := by simpa using Array.mem_of_getElem? ht
        have hall : ([3, 3].all fun u => !Tryd.prog.wantsStandIn u) = true := by kernel_rfl
        exact (show Tryd.prog.wantsStandIn t = false by simpa using List.all_eq_true.1 hall t hm)⟩)
    (by kernel_rfl)
end Go.Proofs.YtmfmcegpoiinjaaDoor
