/- What code's functions compute. Conditions: none (lemmas). -/
import Derived.Test.YtolchnaegifckaaHQGa
import Derived.Test.YtolchnaegifckaaHQMd
namespace Go.Proofs.Ytolchnaegifckaa.HQ
open Go

theorem code_in_wp {D : HV → List HV → M HV} {H : Heap} {Q : HV → Heap → Prop} {a n : Int} (h : ∀ b : Bool, (b = true ↔ 0 ≤ a ∧ a < n) → Q (.bool b) H) : wp (f_code_in D [I a, I n]) Q H := by
  unfold f_code_in
  with_reducible repeat' (first | refine wp_finF ?_ | refine wp_uA ?_ | refine wp_uI ?_ | refine wp_uB ?_ | refine wp_uL ?_ | refine wp_uS ?_ | refine wp_uP ?_ | refine wp_uc ?_ | refine wp_nl ?_ | refine wp_asB ?_ | refine wp_asI ?_ | refine wp_asSl ?_ | refine wp_asT ?_ | refine wp_asA ?_ | refine wp_asS ?_ | refine wp_asP ?_ | refine wp_jn ?_ | refine wp_nN ?_ | refine wp_rN ?_ | refine wp_xN ?_ | refine wp_nB ?_ | refine wp_rB ?_ | refine wp_xB rfl ?_ | refine wp_xB' rfl ?_ | refine wp_bB ?_ | refine wp_rX ?_ | refine wp_xX ?_ | refine wp_rE ?_ | refine wp_xE ?_ | refine wp_rR ?_ | refine wp_xR ?_ | refine wp_r0 ?_ | refine wp_x0 ?_ | refine wp_rF ?_ | refine wp_rF0 ?_ | refine wp_rF2 ?_ | refine wp_rF3 ?_ | refine wp_rF4 ?_ | refine wp_condT ?_ | refine wp_condF ?_ | refine wp_condNT ?_ | refine wp_condNF ?_ | refine wp_condD (fun _ => ?_) (fun _ => ?_) | refine wp_condE (fun _ => ?_) (fun _ => ?_) | refine wp_condNE (fun _ => ?_) (fun _ => ?_) | refine wp_condN (fun _ => ?_) (fun _ => ?_) | refine wp_cond (fun _ => ?_) (fun _ => ?_))
  all_goals (refine h _ ?_; clear h)
  all_goals simp
  all_goals omega
theorem code_placed_wp {D : HV → List HV → M HV} {H : Heap} {Q : HV → Heap → Prop} {op : Int} {ins : Bool} (h : ∀ b : Bool, (b = true ↔ op = 1 ∨ op = 2 ∨ op = 3 ∨ (if op = 0 ∨ op = 4 then ins = false else ins = true)) → Q (.bool b) H) : wp (f_code_placed D [I op, .bool ins]) Q H := by
  unfold f_code_placed
  with_reducible repeat' (first | refine wp_finF ?_ | refine wp_uA ?_ | refine wp_uI ?_ | refine wp_uB ?_ | refine wp_uL ?_ | refine wp_uS ?_ | refine wp_uP ?_ | refine wp_uc ?_ | refine wp_nl ?_ | refine wp_asB ?_ | refine wp_asI ?_ | refine wp_asSl ?_ | refine wp_asT ?_ | refine wp_asA ?_ | refine wp_asS ?_ | refine wp_asP ?_ | refine wp_jn ?_ | refine wp_nN ?_ | refine wp_rN ?_ | refine wp_xN ?_ | refine wp_nB ?_ | refine wp_rB ?_ | refine wp_xB rfl ?_ | refine wp_xB' rfl ?_ | refine wp_bB ?_ | refine wp_rX ?_ | refine wp_xX ?_ | refine wp_rE ?_ | refine wp_xE ?_ | refine wp_rR ?_ | refine wp_xR ?_ | refine wp_r0 ?_ | refine wp_x0 ?_ | refine wp_rF ?_ | refine wp_rF0 ?_ | refine wp_rF2 ?_ | refine wp_rF3 ?_ | refine wp_rF4 ?_ | refine wp_condT ?_ | refine wp_condF ?_ | refine wp_condNT ?_ | refine wp_condNF ?_ | refine wp_condD (fun _ => ?_) (fun _ => ?_) | refine wp_condE (fun _ => ?_) (fun _ => ?_) | refine wp_condNE (fun _ => ?_) (fun _ => ?_) | refine wp_condN (fun _ => ?_) (fun _ => ?_) | refine wp_cond (fun _ => ?_) (fun _ => ?_))
  all_goals (refine h _ ?_; clear h)
  all_goals simp_all

/-- what 'fields' lets, op by op. -/
def thingsP (o a b c : Int) : Prop :=
  if o = 8 then 0 ≤ a ∧ a < 4 ∧ 0 ≤ b ∧ b < 6 ∧ 0 ≤ c ∧ c < 32 else if o = 9 then 0 ≤ a ∧ a < 6 ∧ 0 ≤ b ∧ b < 32 ∧ 0 ≤ c ∧ c < 4
  else if o = 10 then 0 ≤ a ∧ a < 6 ∧ b = 0 ∧ c = 0 else if o = 11 then 0 ≤ a ∧ a < 6 ∧ b = 0 ∧ c = 0
  else if o = 12 then 0 ≤ a ∧ a < 6 ∧ 0 ≤ b ∧ b < 6 ∧ a ≠ b ∧ c = 0 else if o = 13 then 0 ≤ a ∧ a < 6 ∧ 0 ≤ b ∧ b < 33 ∧ c = 0
  else if o = 14 then 0 ≤ a ∧ a < 4 ∧ 0 ≤ b ∧ b < 3 ∧ c = 0 else if o = 15 then 0 ≤ a ∧ a < 3 ∧ 0 ≤ b ∧ b < 4 ∧ c = 0
  else if o = 16 then 0 ≤ a ∧ a < 3 ∧ 0 ≤ b ∧ b < 256 ∧ c = 0 else if o = 17 then 0 ≤ a ∧ a < 256 ∧ b = 0 ∧ c = 0
  else if o = 18 then 0 ≤ a ∧ a < 4 ∧ -100 ≤ b ∧ b ≤ 100 ∧ c = 0 else False
def fieldsP (o a b c : Int) : Prop :=
  if o = 0 then a = 0 ∧ b = 0 ∧ c = 0 else if o = 4 then a = 0 ∧ b = 0 ∧ c = 0 else if o = 5 then a = 0 ∧ b = 0 ∧ c = 0 else if o = 19 then a = 0 ∧ b = 0 ∧ c = 0
  else if o = 21 then a = 0 ∧ b = 0 ∧ c = 0 else if o = 1 then 0 ≤ a ∧ a < 4 ∧ c = 0 else if o = 2 then 0 ≤ a ∧ a < 4 ∧ 0 ≤ b ∧ b < 4 ∧ c = 0
  else if o = 3 then 0 ≤ b ∧ b < 4 ∧ 0 ≤ c ∧ c < 3 else if o = 6 then 0 ≤ a ∧ a < 4 ∧ 0 ≤ b ∧ b < 8 ∧ c = 0 else if o = 7 then 0 ≤ a ∧ a < 8 ∧ 0 ≤ b ∧ b < 4 ∧ c = 0
  else if o = 20 then b = 0 ∧ c = 0 else thingsP o a b c
structure IFit (x : Ins) : Prop where
  o : loI ≤ x.op ∧ x.op ≤ hiI
  a : loI ≤ x.a ∧ x.a ≤ hiI
  b : loI ≤ x.b ∧ x.b ≤ hiI
  c : loI ≤ x.c ∧ x.c ≤ hiI
theorem fits_iff (x : Ins) (hx : IFit x) : Fits x ↔ fieldsP x.op x.a x.b x.c := by
  obtain ⟨o, a, b, c⟩ := x
  have ha := hx.a
  have hb := hx.b
  unfold loI hiI at ha hb
  simp only at ha hb ⊢
  have key : o = 0 ∨ o = 1 ∨ o = 2 ∨ o = 3 ∨ o = 4 ∨ o = 5 ∨ o = 6 ∨ o = 7 ∨ o = 8 ∨ o = 9 ∨ o = 10 ∨ o = 11 ∨ o = 12 ∨ o = 13 ∨ o = 14 ∨ o = 15 ∨ o = 16 ∨ o = 17 ∨ o = 18 ∨ o = 19 ∨ o = 20 ∨ o = 21 ∨
      (o ≠ 0 ∧ o ≠ 1 ∧ o ≠ 2 ∧ o ≠ 3 ∧ o ≠ 4 ∧ o ≠ 5 ∧ o ≠ 6 ∧ o ≠ 7 ∧ o ≠ 8 ∧ o ≠ 9 ∧ o ≠ 10 ∧ o ≠ 11 ∧ o ≠ 12 ∧ o ≠ 13 ∧ o ≠ 14 ∧ o ≠ 15 ∧ o ≠ 16 ∧ o ≠ 17 ∧ o ≠ 18 ∧ o ≠ 19 ∧ o ≠ 20 ∧ o ≠ 21) := by omega
  rcases key with rfl | rfl | rfl | rfl | rfl | rfl | rfl | rfl | rfl | rfl | rfl | rfl | rfl | rfl | rfl | rfl | rfl | rfl | rfl | rfl | rfl | rfl | h
  case inr.inr.inr.inr.inr.inr.inr.inr.inr.inr.inr.inr.inr.inr.inr.inr.inr.inr.inr.inr.inr.inr => simp [Fits, lims, fieldsP, thingsP, h]
  all_goals
    simp [Fits, lims, inside, fieldsP, thingsP, loI, hiI]
    try omega
theorem code_things_wp {D : HV → List HV → M HV} {H : Heap} {Q : HV → Heap → Prop} {o a b c : Int} (h : ∀ z : Bool, (z = true ↔ thingsP o a b c) → Q (.bool z) H) : wp (f_code_things D [.agg [I o, I a, I b, I c]]) Q H := by
  unfold f_code_things
  with_reducible repeat' (first | refine wp_finF ?_ | refine wp_uA ?_ | refine wp_uI ?_ | refine wp_uB ?_ | refine wp_uL ?_ | refine wp_uS ?_ | refine wp_uP ?_ | refine wp_uc ?_ | refine wp_nl ?_ | refine wp_asB ?_ | refine wp_asI ?_ | refine wp_asSl ?_ | refine wp_asT ?_ | refine wp_asA ?_ | refine wp_asS ?_ | refine wp_asP ?_ | refine wp_jn ?_ | refine wp_nN ?_ | refine wp_rN ?_ | refine wp_xN ?_ | refine wp_nB ?_ | refine wp_rB ?_ | refine wp_xB rfl ?_ | refine wp_xB' rfl ?_ | refine wp_bB ?_ | refine wp_rX ?_ | refine wp_xX ?_ | refine wp_rE ?_ | refine wp_xE ?_ | refine wp_rR ?_ | refine wp_xR ?_ | refine wp_r0 ?_ | refine wp_x0 ?_ | refine wp_rF ?_ | refine wp_rF0 ?_ | refine wp_rF2 ?_ | refine wp_rF3 ?_ | refine wp_rF4 ?_ | refine wp_condT ?_ | refine wp_condF ?_ | refine wp_condNT ?_ | refine wp_condNF ?_ | refine wp_condD (fun _ => ?_) (fun _ => ?_) | refine wp_condE (fun _ => ?_) (fun _ => ?_) | refine wp_condNE (fun _ => ?_) (fun _ => ?_) | refine wp_condN (fun _ => ?_) (fun _ => ?_) | refine wp_cond (fun _ => ?_) (fun _ => ?_) | refine wp_bnd (code_in_wp fun _ _ => ?_))
  all_goals (refine h _ ?_; clear h)
  all_goals subst_vars
  all_goals simp_all [thingsP]
  all_goals omega
theorem code_fields_wp {D : HV → List HV → M HV} {H : Heap} {Q : HV → Heap → Prop} {o a b c : Int} (h : ∀ z : Bool, (z = true ↔ fieldsP o a b c) → Q (.bool z) H) : wp (f_code_fields D [.agg [I o, I a, I b, I c]]) Q H := by
  unfold f_code_fields
  with_reducible repeat' (first | refine wp_finF ?_ | refine wp_uA ?_ | refine wp_uI ?_ | refine wp_uB ?_ | refine wp_uL ?_ | refine wp_uS ?_ | refine wp_uP ?_ | refine wp_uc ?_ | refine wp_nl ?_ | refine wp_asB ?_ | refine wp_asI ?_ | refine wp_asSl ?_ | refine wp_asT ?_ | refine wp_asA ?_ | refine wp_asS ?_ | refine wp_asP ?_ | refine wp_jn ?_ | refine wp_nN ?_ | refine wp_rN ?_ | refine wp_xN ?_ | refine wp_nB ?_ | refine wp_rB ?_ | refine wp_xB rfl ?_ | refine wp_xB' rfl ?_ | refine wp_bB ?_ | refine wp_rX ?_ | refine wp_xX ?_ | refine wp_rE ?_ | refine wp_xE ?_ | refine wp_rR ?_ | refine wp_xR ?_ | refine wp_r0 ?_ | refine wp_x0 ?_ | refine wp_rF ?_ | refine wp_rF0 ?_ | refine wp_rF2 ?_ | refine wp_rF3 ?_ | refine wp_rF4 ?_ | refine wp_condT ?_ | refine wp_condF ?_ | refine wp_condNT ?_ | refine wp_condNF ?_ | refine wp_condD (fun _ => ?_) (fun _ => ?_) | refine wp_condE (fun _ => ?_) (fun _ => ?_) | refine wp_condNE (fun _ => ?_) (fun _ => ?_) | refine wp_condN (fun _ => ?_) (fun _ => ?_) | refine wp_cond (fun _ => ?_) (fun _ => ?_) | refine wp_bnd (code_in_wp fun _ _ => ?_) | refine wp_bnd (code_things_wp fun _ _ => ?_))
  all_goals (refine h _ ?_; clear h)
  all_goals subst_vars
  all_goals simp_all [fieldsP]
  all_goals omega
end Go.Proofs.Ytolchnaegifckaa.HQ
