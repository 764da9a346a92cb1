/- What code's functions compute. Conditions: none (lemmas). -/
import Derived.Test.YtolchnaegifckaaHPGa
import Derived.Test.YtolchnaegifckaaHPCa
import Derived.Test.YtolchnaegifckaaHPMd
namespace Go.Proofs.Ytolchnaegifckaa.HP
open Go

theorem code_in_wp {D : HV → List HV → M HV} {H : Heap} {Q : HV → Heap → Prop} {a n : Int} (h : ∀ b : Bool, (b = true ↔ 0 ≤ a ∧ a < n) → Q (.bool b) H) : wp (f_code_in D [I a, I n]) Q H := by
  unfold f_code_in
  repeat' (first | with_reducible refine wp_finF ?_ | with_reducible refine wp_uA ?_ | with_reducible refine wp_uI ?_ | with_reducible refine wp_uB ?_ | with_reducible refine wp_uL ?_ | with_reducible refine wp_uS ?_ | with_reducible refine wp_uP ?_ | with_reducible refine wp_uc ?_ | with_reducible refine wp_nl ?_ | with_reducible refine wp_asB ?_ | with_reducible refine wp_asI ?_ | with_reducible refine wp_asSl ?_ | with_reducible refine wp_asT ?_ | with_reducible refine wp_asA ?_ | with_reducible refine wp_asS ?_ | with_reducible refine wp_asP ?_ | with_reducible refine wp_jn ?_ | with_reducible refine wp_nN ?_ | with_reducible refine wp_rN ?_ | with_reducible refine wp_xN ?_ | with_reducible refine wp_nB ?_ | with_reducible refine wp_rB ?_ | with_reducible refine wp_xB rfl ?_ | with_reducible refine wp_xB' rfl ?_ | with_reducible refine wp_bB ?_ | with_reducible refine wp_rX ?_ | with_reducible refine wp_xX ?_ | with_reducible refine wp_rE ?_ | with_reducible refine wp_xE ?_ | with_reducible refine wp_rR ?_ | with_reducible refine wp_xR ?_ | with_reducible refine wp_r0 ?_ | with_reducible refine wp_x0 ?_ | with_reducible refine wp_rF ?_ | with_reducible refine wp_rF0 ?_ | with_reducible refine wp_rF2 ?_ | with_reducible refine wp_rF3 ?_ | with_reducible refine wp_rF4 ?_ | with_reducible refine wp_condT ?_ | with_reducible refine wp_condF ?_ | with_reducible refine wp_condNT ?_ | with_reducible refine wp_condNF ?_ | with_reducible refine wp_condD (fun _ => ?_) (fun _ => ?_) | with_reducible refine wp_condE (fun _ => ?_) (fun _ => ?_) | with_reducible refine wp_condNE (fun _ => ?_) (fun _ => ?_) | with_reducible refine wp_condN (fun _ => ?_) (fun _ => ?_) | with_reducible refine wp_cond (fun _ => ?_) (fun _ => ?_))
  all_goals (refine h _ ?_; clear h)
  all_goals simp
  all_goals omega
theorem code_placed_wp {D : HV → List HV → M HV} {H : Heap} {Q : HV → Heap → Prop} {op : Int} {ins : Bool} (h : ∀ b : Bool, (b = true ↔ op = 1 ∨ op = 2 ∨ op = 3 ∨ (if op = 0 ∨ op = 4 then ins = false else ins = true)) → Q (.bool b) H) : wp (f_code_placed D [I op, .bool ins]) Q H := by
  unfold f_code_placed
  repeat' (first | with_reducible refine wp_finF ?_ | with_reducible refine wp_uA ?_ | with_reducible refine wp_uI ?_ | with_reducible refine wp_uB ?_ | with_reducible refine wp_uL ?_ | with_reducible refine wp_uS ?_ | with_reducible refine wp_uP ?_ | with_reducible refine wp_uc ?_ | with_reducible refine wp_nl ?_ | with_reducible refine wp_asB ?_ | with_reducible refine wp_asI ?_ | with_reducible refine wp_asSl ?_ | with_reducible refine wp_asT ?_ | with_reducible refine wp_asA ?_ | with_reducible refine wp_asS ?_ | with_reducible refine wp_asP ?_ | with_reducible refine wp_jn ?_ | with_reducible refine wp_nN ?_ | with_reducible refine wp_rN ?_ | with_reducible refine wp_xN ?_ | with_reducible refine wp_nB ?_ | with_reducible refine wp_rB ?_ | with_reducible refine wp_xB rfl ?_ | with_reducible refine wp_xB' rfl ?_ | with_reducible refine wp_bB ?_ | with_reducible refine wp_rX ?_ | with_reducible refine wp_xX ?_ | with_reducible refine wp_rE ?_ | with_reducible refine wp_xE ?_ | with_reducible refine wp_rR ?_ | with_reducible refine wp_xR ?_ | with_reducible refine wp_r0 ?_ | with_reducible refine wp_x0 ?_ | with_reducible refine wp_rF ?_ | with_reducible refine wp_rF0 ?_ | with_reducible refine wp_rF2 ?_ | with_reducible refine wp_rF3 ?_ | with_reducible refine wp_rF4 ?_ | with_reducible refine wp_condT ?_ | with_reducible refine wp_condF ?_ | with_reducible refine wp_condNT ?_ | with_reducible refine wp_condNF ?_ | with_reducible refine wp_condD (fun _ => ?_) (fun _ => ?_) | with_reducible refine wp_condE (fun _ => ?_) (fun _ => ?_) | with_reducible refine wp_condNE (fun _ => ?_) (fun _ => ?_) | with_reducible refine wp_condN (fun _ => ?_) (fun _ => ?_) | with_reducible refine wp_cond (fun _ => ?_) (fun _ => ?_))
  all_goals (refine h _ ?_; clear h)
  all_goals simp_all

/-- what 'fields' lets, op by op. -/
def thingsP (o a b c : Int) : Prop :=
  if o = 8 then 0 ≤ a ∧ a < 4 ∧ 0 ≤ b ∧ b < 6 ∧ 0 ≤ c ∧ c < 32 else if o = 9 then 0 ≤ a ∧ a < 6 ∧ 0 ≤ b ∧ b < 32 ∧ 0 ≤ c ∧ c < 4
  else if o = 10 then 0 ≤ a ∧ a < 6 ∧ b = 0 ∧ c = 0 else if o = 11 then 0 ≤ a ∧ a < 6 ∧ b = 0 ∧ c = 0
  else if o = 12 then 0 ≤ a ∧ a < 6 ∧ 0 ≤ b ∧ b < 6 ∧ a ≠ b ∧ c = 0 else if o = 13 then 0 ≤ a ∧ a < 6 ∧ 0 ≤ b ∧ b < 33 ∧ c = 0
  else if o = 14 then 0 ≤ a ∧ a < 4 ∧ 0 ≤ b ∧ b < 3 ∧ c = 0 else if o = 15 then 0 ≤ a ∧ a < 3 ∧ 0 ≤ b ∧ b < 4 ∧ c = 0
  else if o = 16 then 0 ≤ a ∧ a < 3 ∧ 0 ≤ b ∧ b < 256 ∧ c = 0 else if o = 17 then 0 ≤ a ∧ a < 256 ∧ b = 0 ∧ c = 0
  else if o = 18 then 0 ≤ a ∧ a < 4 ∧ -100 ≤ b ∧ b ≤ 100 ∧ c = 0 else False
def fieldsP (o a b c : Int) : Prop :=
  if o = 0 then a = 0 ∧ b = 0 ∧ c = 0 else if o = 4 then a = 0 ∧ b = 0 ∧ c = 0 else if o = 5 then a = 0 ∧ b = 0 ∧ c = 0 else if o = 19 then a = 0 ∧ b = 0 ∧ c = 0
  else if o = 21 then a = 0 ∧ b = 0 ∧ c = 0 else if o = 1 then 0 ≤ a ∧ a < 4 ∧ c = 0 else if o = 2 then 0 ≤ a ∧ a < 4 ∧ 0 ≤ b ∧ b < 4 ∧ c = 0
  else if o = 3 then 0 ≤ b ∧ b < 4 ∧ 0 ≤ c ∧ c < 3 else if o = 6 then 0 ≤ a ∧ a < 4 ∧ 0 ≤ b ∧ b < 8 ∧ c = 0 else if o = 7 then 0 ≤ a ∧ a < 8 ∧ 0 ≤ b ∧ b < 4 ∧ c = 0
  else if o = 20 then b = 0 ∧ c = 0 else thingsP o a b c
structure IFit (x : Ins) : Prop where
  o : loI ≤ x.op ∧ x.op ≤ hiI
  a : loI ≤ x.a ∧ x.a ≤ hiI
  b : loI ≤ x.b ∧ x.b ≤ hiI
  c : loI ≤ x.c ∧ x.c ≤ hiI
theorem fits_iff (x : Ins) (hx : IFit x) : Fits x ↔ fieldsP x.op x.a x.b x.c := by
  obtain ⟨o, a, b, c⟩ := x
  have ha := hx.a
  have hb := hx.b
  unfold loI hiI at ha hb
  simp only at ha hb ⊢
  have key : o = 0 ∨ o = 1 ∨ o = 2 ∨ o = 3 ∨ o = 4 ∨ o = 5 ∨ o = 6 ∨ o = 7 ∨ o = 8 ∨ o = 9 ∨ o = 10 ∨ o = 11 ∨ o = 12 ∨ o = 13 ∨ o = 14 ∨ o = 15 ∨ o = 16 ∨ o = 17 ∨ o = 18 ∨ o = 19 ∨ o = 20 ∨ o = 21 ∨
      (o ≠ 0 ∧ o ≠ 1 ∧ o ≠ 2 ∧ o ≠ 3 ∧ o ≠ 4 ∧ o ≠ 5 ∧ o ≠ 6 ∧ o ≠ 7 ∧ o ≠ 8 ∧ o ≠ 9 ∧ o ≠ 10 ∧ o ≠ 11 ∧ o ≠ 12 ∧ o ≠ 13 ∧ o ≠ 14 ∧ o ≠ 15 ∧ o ≠ 16 ∧ o ≠ 17 ∧ o ≠ 18 ∧ o ≠ 19 ∧ o ≠ 20 ∧ o ≠ 21) := by omega
  rcases key with rfl | rfl | rfl | rfl | rfl | rfl | rfl | rfl | rfl | rfl | rfl | rfl | rfl | rfl | rfl | rfl | rfl | rfl | rfl | rfl | rfl | rfl | h
  case inr.inr.inr.inr.inr.inr.inr.inr.inr.inr.inr.inr.inr.inr.inr.inr.inr.inr.inr.inr.inr.inr => simp [Fits, lims, fieldsP, thingsP, h]
  all_goals
    simp [Fits, lims, inside, fieldsP, thingsP, loI, hiI]
    try omega
theorem code_things_wp {D : HV → List HV → M HV} {H : Heap} {Q : HV → Heap → Prop} {o a b c : Int} (h : ∀ z : Bool, (z = true ↔ thingsP o a b c) → Q (.bool z) H) : wp (f_code_things D [.agg [I o, I a, I b, I c]]) Q H := by
  unfold f_code_things
  repeat' (first | with_reducible refine wp_finF ?_ | with_reducible refine wp_uA ?_ | with_reducible refine wp_uI ?_ | with_reducible refine wp_uB ?_ | with_reducible refine wp_uL ?_ | with_reducible refine wp_uS ?_ | with_reducible refine wp_uP ?_ | with_reducible refine wp_uc ?_ | with_reducible refine wp_nl ?_ | with_reducible refine wp_asB ?_ | with_reducible refine wp_asI ?_ | with_reducible refine wp_asSl ?_ | with_reducible refine wp_asT ?_ | with_reducible refine wp_asA ?_ | with_reducible refine wp_asS ?_ | with_reducible refine wp_asP ?_ | with_reducible refine wp_jn ?_ | with_reducible refine wp_nN ?_ | with_reducible refine wp_rN ?_ | with_reducible refine wp_xN ?_ | with_reducible refine wp_nB ?_ | with_reducible refine wp_rB ?_ | with_reducible refine wp_xB rfl ?_ | with_reducible refine wp_xB' rfl ?_ | with_reducible refine wp_bB ?_ | with_reducible refine wp_rX ?_ | with_reducible refine wp_xX ?_ | with_reducible refine wp_rE ?_ | with_reducible refine wp_xE ?_ | with_reducible refine wp_rR ?_ | with_reducible refine wp_xR ?_ | with_reducible refine wp_r0 ?_ | with_reducible refine wp_x0 ?_ | with_reducible refine wp_rF ?_ | with_reducible refine wp_rF0 ?_ | with_reducible refine wp_rF2 ?_ | with_reducible refine wp_rF3 ?_ | with_reducible refine wp_rF4 ?_ | with_reducible refine wp_condT ?_ | with_reducible refine wp_condF ?_ | with_reducible refine wp_condNT ?_ | with_reducible refine wp_condNF ?_ | with_reducible refine wp_condD (fun _ => ?_) (fun _ => ?_) | with_reducible refine wp_condE (fun _ => ?_) (fun _ => ?_) | with_reducible refine wp_condNE (fun _ => ?_) (fun _ => ?_) | with_reducible refine wp_condN (fun _ => ?_) (fun _ => ?_) | with_reducible refine wp_cond (fun _ => ?_) (fun _ => ?_) | with_reducible refine wp_bnd (code_in_wp fun _ _ => ?_))
  all_goals (refine h _ ?_; clear h)
  all_goals subst_vars
  all_goals simp_all [thingsP]
  all_goals omega
theorem code_fields_wp {D : HV → List HV → M HV} {H : Heap} {Q : HV → Heap → Prop} {o a b c : Int} (h : ∀ z : Bool, (z = true ↔ fieldsP o a b c) → Q (.bool z) H) : wp (f_code_fields D [.agg [I o, I a, I b, I c]]) Q H := by
  unfold f_code_fields
  repeat' (first | with_reducible refine wp_finF ?_ | with_reducible refine wp_uA ?_ | with_reducible refine wp_uI ?_ | with_reducible refine wp_uB ?_ | with_reducible refine wp_uL ?_ | with_reducible refine wp_uS ?_ | with_reducible refine wp_uP ?_ | with_reducible refine wp_uc ?_ | with_reducible refine wp_nl ?_ | with_reducible refine wp_asB ?_ | with_reducible refine wp_asI ?_ | with_reducible refine wp_asSl ?_ | with_reducible refine wp_asT ?_ | with_reducible refine wp_asA ?_ | with_reducible refine wp_asS ?_ | with_reducible refine wp_asP ?_ | with_reducible refine wp_jn ?_ | with_reducible refine wp_nN ?_ | with_reducible refine wp_rN ?_ | with_reducible refine wp_xN ?_ | with_reducible refine wp_nB ?_ | with_reducible refine wp_rB ?_ | with_reducible refine wp_xB rfl ?_ | with_reducible refine wp_xB' rfl ?_ | with_reducible refine wp_bB ?_ | with_reducible refine wp_rX ?_ | with_reducible refine wp_xX ?_ | with_reducible refine wp_rE ?_ | with_reducible refine wp_xE ?_ | with_reducible refine wp_rR ?_ | with_reducible refine wp_xR ?_ | with_reducible refine wp_r0 ?_ | with_reducible refine wp_x0 ?_ | with_reducible refine wp_rF ?_ | with_reducible refine wp_rF0 ?_ | with_reducible refine wp_rF2 ?_ | with_reducible refine wp_rF3 ?_ | with_reducible refine wp_rF4 ?_ | with_reducible refine wp_condT ?_ | with_reducible refine wp_condF ?_ | with_reducible refine wp_condNT ?_ | with_reducible refine wp_condNF ?_ | with_reducible refine wp_condD (fun _ => ?_) (fun _ => ?_) | with_reducible refine wp_condE (fun _ => ?_) (fun _ => ?_) | with_reducible refine wp_condNE (fun _ => ?_) (fun _ => ?_) | with_reducible refine wp_condN (fun _ => ?_) (fun _ => ?_) | with_reducible refine wp_cond (fun _ => ?_) (fun _ => ?_) | with_reducible refine wp_bnd (code_in_wp fun _ _ => ?_) | with_reducible refine wp_bnd (code_things_wp fun _ _ => ?_))
  all_goals (refine h _ ?_; clear h)
  all_goals subst_vars
  all_goals simp_all [fieldsP]
  all_goals omega
end Go.Proofs.Ytolchnaegifckaa.HP
