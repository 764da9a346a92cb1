/- What code's functions compute. Conditions: none (lemmas). -/
import Derived.Test.YtolchnaegifckaaHSGa
import Derived.Test.YtolchnaegifckaaHSMd
import Derived.Test.YtolchnaegifckaaHSNa
namespace Go.Proofs.Ytolchnaegifckaa.HS
open Go

theorem code_in_wp {D : HV → List HV → M HV} {H : Heap} {Q : HV → Heap → Prop} {a n : Int} (h : ∀ b : Bool, (b = true ↔ 0 ≤ a ∧ a < n) → Q (.bool b) H) : wp (f_code_in D [I a, I n]) Q H := by
  unfold f_code_in
  with_reducible repeat' (first | refine wp_finF ?_ | refine wp_uA ?_ | refine wp_uI ?_ | refine wp_uB ?_ | refine wp_uL ?_ | refine wp_uS ?_ | refine wp_uP ?_ | refine wp_uc ?_ | refine wp_nl ?_ | refine wp_asB ?_ | refine wp_asI ?_ | refine wp_asSl ?_ | refine wp_asT ?_ | refine wp_asA ?_ | refine wp_asS ?_ | refine wp_asP ?_ | refine wp_jn ?_ | refine wp_nN ?_ | refine wp_rN ?_ | refine wp_xN ?_ | refine wp_nB ?_ | refine wp_rB ?_ | refine wp_xB rfl ?_ | refine wp_xB' rfl ?_ | refine wp_bB ?_ | refine wp_rX ?_ | refine wp_xX ?_ | refine wp_rE ?_ | refine wp_xE ?_ | refine wp_rR ?_ | refine wp_xR ?_ | refine wp_r0 ?_ | refine wp_x0 ?_ | refine wp_rF ?_ | refine wp_rF0 ?_ | refine wp_rF2 ?_ | refine wp_rF3 ?_ | refine wp_rF4 ?_ | refine wp_condT ?_ | refine wp_condF ?_ | refine wp_condNT ?_ | refine wp_condNF ?_ | refine wp_condD (fun _ => ?_) (fun _ => ?_) | refine wp_condE (fun _ => ?_) (fun _ => ?_) | refine wp_condNE (fun _ => ?_) (fun _ => ?_) | refine wp_condN (fun _ => ?_) (fun _ => ?_) | refine wp_cond (fun _ => ?_) (fun _ => ?_))
  all_goals (refine h _ ?_; clear h)
  all_goals simp
  all_goals omega
theorem code_placed_wp {D : HV → List HV → M HV} {H : Heap} {Q : HV → Heap → Prop} {op : Int} {ins : Bool} (h : ∀ b : Bool, (b = true ↔ op = 1 ∨ op = 2 ∨ op = 3 ∨ (if op = 0 ∨ op = 4 then ins = false else ins = true)) → Q (.bool b) H) : wp (f_code_placed D [I op, .bool ins]) Q H := by
  unfold f_code_placed
  with_reducible repeat' (first | refine wp_finF ?_ | refine wp_uA ?_ | refine wp_uI ?_ | refine wp_uB ?_ | refine wp_uL ?_ | refine wp_uS ?_ | refine wp_uP ?_ | refine wp_uc ?_ | refine wp_nl ?_ | refine wp_asB ?_ | refine wp_asI ?_ | refine wp_asSl ?_ | refine wp_asT ?_ | refine wp_asA ?_ | refine wp_asS ?_ | refine wp_asP ?_ | refine wp_jn ?_ | refine wp_nN ?_ | refine wp_rN ?_ | refine wp_xN ?_ | refine wp_nB ?_ | refine wp_rB ?_ | refine wp_xB rfl ?_ | refine wp_xB' rfl ?_ | refine wp_bB ?_ | refine wp_rX ?_ | refine wp_xX ?_ | refine wp_rE ?_ | refine wp_xE ?_ | refine wp_rR ?_ | refine wp_xR ?_ | refine wp_r0 ?_ | refine wp_x0 ?_ | refine wp_rF ?_ | refine wp_rF0 ?_ | refine wp_rF2 ?_ | refine wp_rF3 ?_ | refine wp_rF4 ?_ | refine wp_condT ?_ | refine wp_condF ?_ | refine wp_condNT ?_ | refine wp_condNF ?_ | refine wp_condD (fun _ => ?_) (fun _ => ?_) | refine wp_condE (fun _ => ?_) (fun _ => ?_) | refine wp_condNE (fun _ => ?_) (fun _ => ?_) | refine wp_condN (fun _ => ?_) (fun _ => ?_) | refine wp_cond (fun _ => ?_) (fun _ => ?_))
  all_goals (refine h _ ?_; clear h)
  all_goals simp_all

/-- what 'fields' lets, op by op. -/
def thingsP (o a b c : Int) : Prop :=
  if o = 8 then 0 ≤ a ∧ a < 4 ∧ 0 ≤ b ∧ b < 6 ∧ 0 ≤ c ∧ c < 32 else if o = 9 then 0 ≤ a ∧ a < 6 ∧ 0 ≤ b ∧ b < 32 ∧ 0 ≤ c ∧ c < 4
  else if o = 10 then 0 ≤ a ∧ a < 6 ∧ b = 0 ∧ c = 0 else if o = 11 then 0 ≤ a ∧ a < 6 ∧ b = 0 ∧ c = 0
  else if o = 12 then 0 ≤ a ∧ a < 6 ∧ 0 ≤ b ∧ b < 6 ∧ a ≠ b ∧ c = 0 else if o = 13 then 0 ≤ a ∧ a < 6 ∧ 0 ≤ b ∧ b < 33 ∧ c = 0
  else if o = 14 then 0 ≤ a ∧ a < 4 ∧ 0 ≤ b ∧ b < 3 ∧ c = 0 else if o = 15 then 0 ≤ a ∧ a < 3 ∧ 0 ≤ b ∧ b < 4 ∧ c = 0
  else if o = 16 then 0 ≤ a ∧ a < 3 ∧ 0 ≤ b ∧ b < 256 ∧ c = 0 else if o = 17 then 0 ≤ a ∧ a < 256 ∧ b = 0 ∧ c = 0
  else if o = 18 then 0 ≤ a ∧ a < 4 ∧ -100 ≤ b ∧ b ≤ 100 ∧ c = 0 else False
def fieldsP (o a b c : Int) : Prop :=
  if o = 0 then a = 0 ∧ b = 0 ∧ c = 0 else if o = 4 then a = 0 ∧ b = 0 ∧ c = 0 else if o = 5 then a = 0 ∧ b = 0 ∧ c = 0 else if o = 19 then a = 0 ∧ b = 0 ∧ c = 0
  else if o = 21 then a = 0 ∧ b = 0 ∧ c = 0 else if o = 1 then 0 ≤ a ∧ a < 4 ∧ c = 0 else if o = 2 then 0 ≤ a ∧ a < 4 ∧ 0 ≤ b ∧ b < 4 ∧ c = 0
  else if o = 3 then 0 ≤ b ∧ b < 4 ∧ 0 ≤ c ∧ c < 3 else if o = 6 then 0 ≤ a ∧ a < 4 ∧ 0 ≤ b ∧ b < 8 ∧ c = 0 else if o = 7 then 0 ≤ a ∧ a < 8 ∧ 0 ≤ b ∧ b < 4 ∧ c = 0
  else if o = 20 then b = 0 ∧ c = 0 else thingsP o a b c
structure IFit (x : Ins) : Prop where
  o : loI ≤ x.op ∧ x.op ≤ hiI
  a : loI ≤ x.a ∧ x.a ≤ hiI
  b : loI ≤ x.b ∧ x.b ≤ hiI
  c : loI ≤ x.c ∧ x.c ≤ hiI
theorem fits_iff (x : Ins) (hx : IFit x) : Fits x ↔ fieldsP x.op x.a x.b x.c := by
  obtain ⟨o, a, b, c⟩ := x
  have ha := hx.a
  have hb := hx.b
  unfold loI hiI at ha hb
  simp only at ha hb ⊢
  have key : o = 0 ∨ o = 1 ∨ o = 2 ∨ o = 3 ∨ o = 4 ∨ o = 5 ∨ o = 6 ∨ o = 7 ∨ o = 8 ∨ o = 9 ∨ o = 10 ∨ o = 11 ∨ o = 12 ∨ o = 13 ∨ o = 14 ∨ o = 15 ∨ o = 16 ∨ o = 17 ∨ o = 18 ∨ o = 19 ∨ o = 20 ∨ o = 21 ∨
      (o ≠ 0 ∧ o ≠ 1 ∧ o ≠ 2 ∧ o ≠ 3 ∧ o ≠ 4 ∧ o ≠ 5 ∧ o ≠ 6 ∧ o ≠ 7 ∧ o ≠ 8 ∧ o ≠ 9 ∧ o ≠ 10 ∧ o ≠ 11 ∧ o ≠ 12 ∧ o ≠ 13 ∧ o ≠ 14 ∧ o ≠ 15 ∧ o ≠ 16 ∧ o ≠ 17 ∧ o ≠ 18 ∧ o ≠ 19 ∧ o ≠ 20 ∧ o ≠ 21) := by omega
  rcases key with rfl | rfl | rfl | rfl | rfl | rfl | rfl | rfl | rfl | rfl | rfl | rfl | rfl | rfl | rfl | rfl | rfl | rfl | rfl | rfl | rfl | rfl | h
  case inr.inr.inr.inr.inr.inr.inr.inr.inr.inr.inr.inr.inr.inr.inr.inr.inr.inr.inr.inr.inr.inr => simp [Fits, lims, fieldsP, thingsP, h]
  all_goals
    simp [Fits, lims, inside, fieldsP, thingsP, loI, hiI]
    try omega
theorem code_things_wp {D : HV → List HV → M HV} {H : Heap} {Q : HV → Heap → Prop} {o a b c : Int} (h : ∀ z : Bool, (z = true ↔ thingsP o a b c) → Q (.bool z) H) : wp (f_code_things D [.agg [I o, I a, I b, I c]]) Q H := by
  unfold f_code_things
  with_reducible repeat' (first | refine wp_finF ?_ | refine wp_uA ?_ | refine wp_uI ?_ | refine wp_uB ?_ | refine wp_uL ?_ | refine wp_uS ?_ | refine wp_uP ?_ | refine wp_uc ?_ | refine wp_nl ?_ | refine wp_asB ?_ | refine wp_asI ?_ | refine wp_asSl ?_ | refine wp_asT ?_ | refine wp_asA ?_ | refine wp_asS ?_ | refine wp_asP ?_ | refine wp_jn ?_ | refine wp_nN ?_ | refine wp_rN ?_ | refine wp_xN ?_ | refine wp_nB ?_ | refine wp_rB ?_ | refine wp_xB rfl ?_ | refine wp_xB' rfl ?_ | refine wp_bB ?_ | refine wp_rX ?_ | refine wp_xX ?_ | refine wp_rE ?_ | refine wp_xE ?_ | refine wp_rR ?_ | refine wp_xR ?_ | refine wp_r0 ?_ | refine wp_x0 ?_ | refine wp_rF ?_ | refine wp_rF0 ?_ | refine wp_rF2 ?_ | refine wp_rF3 ?_ | refine wp_rF4 ?_ | refine wp_condT ?_ | refine wp_condF ?_ | refine wp_condNT ?_ | refine wp_condNF ?_ | refine wp_condD (fun _ => ?_) (fun _ => ?_) | refine wp_condE (fun _ => ?_) (fun _ => ?_) | refine wp_condNE (fun _ => ?_) (fun _ => ?_) | refine wp_condN (fun _ => ?_) (fun _ => ?_) | refine wp_cond (fun _ => ?_) (fun _ => ?_) | refine wp_bnd (code_in_wp fun _ _ => ?_))
  all_goals (refine h _ ?_; clear h)
  all_goals subst_vars
  all_goals simp_all [thingsP]
  all_goals omega
theorem code_fields_wp {D : HV → List HV → M HV} {H : Heap} {Q : HV → Heap → Prop} {o a b c : Int} (h : ∀ z : Bool, (z = true ↔ fieldsP o a b c) → Q (.bool z) H) : wp (f_code_fields D [.agg [I o, I a, I b, I c]]) Q H := by
  unfold f_code_fields
  with_reducible repeat' (first | refine wp_finF ?_ | refine wp_uA ?_ | refine wp_uI ?_ | refine wp_uB ?_ | refine wp_uL ?_ | refine wp_uS ?_ | refine wp_uP ?_ | refine wp_uc ?_ | refine wp_nl ?_ | refine wp_asB ?_ | refine wp_asI ?_ | refine wp_asSl ?_ | refine wp_asT ?_ | refine wp_asA ?_ | refine wp_asS ?_ | refine wp_asP ?_ | refine wp_jn ?_ | refine wp_nN ?_ | refine wp_rN ?_ | refine wp_xN ?_ | refine wp_nB ?_ | refine wp_rB ?_ | refine wp_xB rfl ?_ | refine wp_xB' rfl ?_ | refine wp_bB ?_ | refine wp_rX ?_ | refine wp_xX ?_ | refine wp_rE ?_ | refine wp_xE ?_ | refine wp_rR ?_ | refine wp_xR ?_ | refine wp_r0 ?_ | refine wp_x0 ?_ | refine wp_rF ?_ | refine wp_rF0 ?_ | refine wp_rF2 ?_ | refine wp_rF3 ?_ | refine wp_rF4 ?_ | refine wp_condT ?_ | refine wp_condF ?_ | refine wp_condNT ?_ | refine wp_condNF ?_ | refine wp_condD (fun _ => ?_) (fun _ => ?_) | refine wp_condE (fun _ => ?_) (fun _ => ?_) | refine wp_condNE (fun _ => ?_) (fun _ => ?_) | refine wp_condN (fun _ => ?_) (fun _ => ?_) | refine wp_cond (fun _ => ?_) (fun _ => ?_) | refine wp_bnd (code_in_wp fun _ _ => ?_) | refine wp_bnd (code_things_wp fun _ _ => ?_))
  all_goals (refine h _ ?_; clear h)
  all_goals subst_vars
  all_goals simp_all [fieldsP]
  all_goals omega
end Go.Proofs.Ytolchnaegifckaa.HS
namespace Go.Proofs.Ytolchnaegifckaa.HS
open Go

def shapeAt (p : List Ins) (j : Nat) (hj : j < p.length) : Prop := ((p[j]).op = 4 → opn p j < 0) ∧ ((p[j]).op = 5 → 0 ≤ opn p j)
def spW (p : List Ins) (i : Nat) : List Int := (List.range p.length).map fun k => if k < i then opn p k else 0
theorem spW_len {p : List Ins} {i : Nat} : (spW p i).length = p.length := by simp [spW]
theorem spW_get {p : List Ins} {i k : Nat} (hk : k < p.length) : (spW p i)[k]? = some (if k < i then opn p k else 0) := by simp [spW, hk]
theorem spW_all {p : List Ins} : spW p p.length = (List.range p.length).map (opn p) := by
  unfold spW
  apply List.map_congr_left
  intro k hk
  rw [if_pos (by simpa using hk)]
theorem spW_set {p : List Ins} {i : Nat} (hi : i < p.length) : (spW p i).set i (opn p i) = spW p (i + 1) := by
  refine set_eq_of spW_len spW_len hi ?_ ?_
  · rw [spW_get hi, if_pos (by omega)]
  · intro j hj hji
    rw [spW_get hj, spW_get hj]
    have : (j < i + 1) ↔ j < i := by omega
    simp only [this]
theorem code_spans_wp {D : HV → List HV → M HV} {H : Heap} {Q : HV → Heap → Prop} {s : Sl} {p : List Ins} (hs : RProg H s p) (hn : p.length ≤ 48)
    (h1 : ∀ b H', Shaped p → H.n ≤ b → Keeps H H' → Nums H' b ((List.range p.length).map (opn p)) → Q (.tup [.sl (numSl b p.length), .bool true]) H')
    (h2 : ∀ x H', ¬ Shaped p → Keeps H H' → Q (.tup [.sl x, .bool false]) H') : wp (f_code_spans D [.sl s]) Q H := by
  unfold f_code_spans
  have hlen := hs.len
  refine wp_finF (wp_uL (wp_nl (wp_gdD (by omega) (wp_gdD (by omega) (wp_gdD (by simp only [room, Int.toNat_natCast, hlen]; omega) (wp_nw ?_))))))
  have hsl : (⟨some (H.n, 0), (s.len : Int).toNat, (s.len : Int).toNat, none⟩ : Sl) = numSl H.n p.length := by
    rw [hlen]; simp [numSl]
  have hn0 : Nums (H.push (.cells (repL (s.len : Int).toNat [I 0]) false)) H.n (spW p 0) := by
    refine ⟨by simp [Heap.push], ?_, by rw [spW_len]; omega⟩
    simp only [Heap.push, if_pos]
    rw [repL_one, hlen]
    congr 1
    apply List.ext_getElem?
    intro j
    rw [List.getElem?_map]
    simp only [Int.toNat_natCast, List.getElem?_replicate]
    by_cases hj : j < p.length
    · rw [spW_get hj, if_pos hj, if_neg (by omega)]; rfl
    · rw [List.getElem?_eq_none (by rw [spW_len]; omega), if_neg hj]; rfl
  rw [hsl]
  refine wp_for (σ := Int) p.length hs.lt hs.lenI (fun x i => [I x, I i]) (fun _ _ => rfl) rfl (fun i x H' => x = opn p i ∧ Keeps H H' ∧ Nums H' H.n (spW p i) ∧ ∀ j (hj : j < p.length), j < i → shapeAt p j hj) (-1) rfl ⟨rfl, Keeps.push _ _, hn0, fun j _ h => by omega⟩ ?_ ?_
  · rintro i _ H1 hi ⟨rfl, hk, hnm, hsh⟩
    refine wp_blk (wp_at (hs.keeps hk) hi fun _ _ => ?_)
    with_reducible repeat' (first | refine wp_finF ?_ | refine wp_uA ?_ | refine wp_uI ?_ | refine wp_uB ?_ | refine wp_uL ?_ | refine wp_uS ?_ | refine wp_uP ?_ | refine wp_uc ?_ | refine wp_nl ?_ | refine wp_asB ?_ | refine wp_asI ?_ | refine wp_asSl ?_ | refine wp_asT ?_ | refine wp_asA ?_ | refine wp_asS ?_ | refine wp_asP ?_ | refine wp_jn ?_ | refine wp_nN ?_ | refine wp_rN ?_ | refine wp_xN ?_ | refine wp_nB ?_ | refine wp_rB ?_ | refine wp_xB rfl ?_ | refine wp_xB' rfl ?_ | refine wp_bB ?_ | refine wp_rX ?_ | refine wp_xX ?_ | refine wp_rE ?_ | refine wp_xE ?_ | refine wp_rR ?_ | refine wp_xR ?_ | refine wp_r0 ?_ | refine wp_x0 ?_ | refine wp_rF ?_ | refine wp_rF0 ?_ | refine wp_rF2 ?_ | refine wp_rF3 ?_ | refine wp_rF4 ?_)
    have hil : (i : Int).toNat < (spW p i).length := by rw [spW_len]; simpa using hi
    refine wp_numset hnm (by rw [spW_len]) (by omega) hil fun hn2 => ?_
    rw [Int.toNat_natCast, spW_set hi] at hn2
    rw [Int.toNat_natCast]
    have hk2 : Keeps H (H1.set H.n (.cells (List.set (List.map I (spW p i)) i (I (opn p i))) false)) := hk.set (Nat.le_refl _) _
    have hop := opn_succ hi
    have next : ∀ H2, Keeps H H2 → Nums H2 H.n (spW p (i + 1)) → shapeAt p i hi → opn p (i + 1) = opn p (i + 1) ∧ Keeps H H2 ∧ Nums H2 H.n (spW p (i + 1)) ∧ ∀ j (hj : j < p.length), j < i + 1 → shapeAt p j hj := by
      intro H2 a b c
      refine ⟨rfl, a, b, fun j hj hji => ?_⟩
      by_cases hh : j = i
      · subst hh; exact c
      · exact hsh j hj (by omega)
    have no : ¬ shapeAt p i hi → ¬ Shaped p := fun h hh => h (hh.1 i hi)
    with_reducible repeat' (first | refine wp_finF ?_ | refine wp_uA ?_ | refine wp_uI ?_ | refine wp_uB ?_ | refine wp_uL ?_ | refine wp_uS ?_ | refine wp_uP ?_ | refine wp_uc ?_ | refine wp_nl ?_ | refine wp_asB ?_ | refine wp_asI ?_ | refine wp_asSl ?_ | refine wp_asT ?_ | refine wp_asA ?_ | refine wp_asS ?_ | refine wp_asP ?_ | refine wp_jn ?_ | refine wp_nN ?_ | refine wp_rN ?_ | refine wp_xN ?_ | refine wp_nB ?_ | refine wp_rB ?_ | refine wp_xB rfl ?_ | refine wp_xB' rfl ?_ | refine wp_bB ?_ | refine wp_rX ?_ | refine wp_xX ?_ | refine wp_rE ?_ | refine wp_xE ?_ | refine wp_rR ?_ | refine wp_xR ?_ | refine wp_r0 ?_ | refine wp_x0 ?_ | refine wp_rF ?_ | refine wp_rF0 ?_ | refine wp_rF2 ?_ | refine wp_rF3 ?_ | refine wp_rF4 ?_ | refine wp_condT ?_ | refine wp_condF ?_ | refine wp_condNT ?_ | refine wp_condNF ?_ | refine wp_condD (fun _ => ?_) (fun _ => ?_) | refine wp_condE (fun _ => ?_) (fun _ => ?_) | refine wp_condNE (fun _ => ?_) (fun _ => ?_) | refine wp_condN (fun _ => ?_) (fun _ => ?_) | refine wp_cond (fun _ => ?_) (fun _ => ?_))
    · exact h2 _ _ (no fun h => by have := h.1 ‹_›; omega) hk2
    · exact wp_nR ⟨opn p (i + 1), by rw [hop, if_pos ‹_›], next _ hk2 hn2 ⟨fun _ => by omega, fun _ => by omega⟩⟩
    · exact h2 _ _ (no fun h => by have := h.2 ‹_›; omega) hk2
    · exact wp_nR ⟨opn p (i + 1), by rw [hop, if_neg ‹_›, if_pos ‹_›], next _ hk2 hn2 ⟨fun _ => by omega, fun _ => by omega⟩⟩
    · exact wp_nR ⟨opn p (i + 1), by rw [hop, if_neg ‹_›, if_neg ‹_›], next _ hk2 hn2 ⟨fun _ => by omega, fun _ => by omega⟩⟩
  · rintro _ H1 ⟨rfl, hk, hnm, hsh⟩
    with_reducible repeat' (first | refine wp_finF ?_ | refine wp_uA ?_ | refine wp_uI ?_ | refine wp_uB ?_ | refine wp_uL ?_ | refine wp_uS ?_ | refine wp_uP ?_ | refine wp_uc ?_ | refine wp_nl ?_ | refine wp_asB ?_ | refine wp_asI ?_ | refine wp_asSl ?_ | refine wp_asT ?_ | refine wp_asA ?_ | refine wp_asS ?_ | refine wp_asP ?_ | refine wp_jn ?_ | refine wp_nN ?_ | refine wp_rN ?_ | refine wp_xN ?_ | refine wp_nB ?_ | refine wp_rB ?_ | refine wp_xB rfl ?_ | refine wp_xB' rfl ?_ | refine wp_bB ?_ | refine wp_rX ?_ | refine wp_xX ?_ | refine wp_rE ?_ | refine wp_xE ?_ | refine wp_rR ?_ | refine wp_xR ?_ | refine wp_r0 ?_ | refine wp_x0 ?_ | refine wp_rF ?_ | refine wp_rF0 ?_ | refine wp_rF2 ?_ | refine wp_rF3 ?_ | refine wp_rF4 ?_)
    by_cases hneg : opn p p.length < 0
    · rw [decide_eq_true hneg]
      exact h1 _ _ ⟨fun i hi => hsh i hi hi, hneg⟩ (Nat.le_refl _) hk (spW_all ▸ hnm)
    · rw [decide_eq_false hneg]
      exact h2 _ _ (fun hh => hneg hh.2) hk
theorem code_lands_wp {D : HV → List HV → M HV} {H : Heap} {Q : HV → Heap → Prop} {s t : Sl} {p : List Ins} {w : List Int} (hs : RProg H s p) (ht : RInts H t w) (hw : w.length = p.length) {i : Nat} (hi : i < p.length)
    (h : ∀ z : Bool, (z = true ↔ (i : Int) < (p[i]).a ∧ (p[i]).a ≤ p.length ∧ ((p[i]).a = p.length → w[i] < 0) ∧ ((p[i]).a < p.length → w.getD (p[i]).a.toNat 0 = w[i])) → Q (.bool z) H) : wp (f_code_lands D [.sl s, .sl t, I i]) Q H := by
  unfold f_code_lands
  have hlen := hs.len
  have hiw : i < w.length := by omega
  with_reducible repeat' (first | refine wp_finF ?_ | refine wp_uA ?_ | refine wp_uI ?_ | refine wp_uB ?_ | refine wp_uL ?_ | refine wp_uS ?_ | refine wp_uP ?_ | refine wp_uc ?_ | refine wp_nl ?_ | refine wp_asB ?_ | refine wp_asI ?_ | refine wp_asSl ?_ | refine wp_asT ?_ | refine wp_asA ?_ | refine wp_asS ?_ | refine wp_asP ?_ | refine wp_jn ?_ | refine wp_nN ?_ | refine wp_rN ?_ | refine wp_xN ?_ | refine wp_nB ?_ | refine wp_rB ?_ | refine wp_xB rfl ?_ | refine wp_xB' rfl ?_ | refine wp_bB ?_ | refine wp_rX ?_ | refine wp_xX ?_ | refine wp_rE ?_ | refine wp_xE ?_ | refine wp_rR ?_ | refine wp_xR ?_ | refine wp_r0 ?_ | refine wp_x0 ?_ | refine wp_rF ?_ | refine wp_rF0 ?_ | refine wp_rF2 ?_ | refine wp_rF3 ?_ | refine wp_rF4 ?_)
  refine wp_atF hs hi (k := 1) (v := I (p[i]).a) rfl fun _ _ => ?_
  with_reducible repeat' (first | refine wp_finF ?_ | refine wp_uA ?_ | refine wp_uI ?_ | refine wp_uB ?_ | refine wp_uL ?_ | refine wp_uS ?_ | refine wp_uP ?_ | refine wp_uc ?_ | refine wp_nl ?_ | refine wp_asB ?_ | refine wp_asI ?_ | refine wp_asSl ?_ | refine wp_asT ?_ | refine wp_asA ?_ | refine wp_asS ?_ | refine wp_asP ?_ | refine wp_jn ?_ | refine wp_nN ?_ | refine wp_rN ?_ | refine wp_xN ?_ | refine wp_nB ?_ | refine wp_rB ?_ | refine wp_xB rfl ?_ | refine wp_xB' rfl ?_ | refine wp_bB ?_ | refine wp_rX ?_ | refine wp_xX ?_ | refine wp_rE ?_ | refine wp_xE ?_ | refine wp_rR ?_ | refine wp_xR ?_ | refine wp_r0 ?_ | refine wp_x0 ?_ | refine wp_rF ?_ | refine wp_rF0 ?_ | refine wp_rF2 ?_ | refine wp_rF3 ?_ | refine wp_rF4 ?_ | refine wp_condT ?_ | refine wp_condF ?_ | refine wp_condNT ?_ | refine wp_condNF ?_ | refine wp_condD (fun _ => ?_) (fun _ => ?_) | refine wp_condE (fun _ => ?_) (fun _ => ?_) | refine wp_condNE (fun _ => ?_) (fun _ => ?_) | refine wp_condN (fun _ => ?_) (fun _ => ?_) | refine wp_cond (fun _ => ?_) (fun _ => ?_) | refine wp_atI ht hiw fun _ _ => ?_)
  · refine h _ ⟨fun hh => (by cases hh), fun hh => ?_⟩; omega
  · rename_i h1 h2
    refine h _ ⟨fun hh => (by cases hh), fun hh => ?_⟩
    rw [hlen] at h2; simp at h2; omega
  · rename_i h1 h2 h3 _ _
    rw [hlen] at h2 h3; simp at h2
    refine h _ ?_
    rw [decide_eq_true_eq]
    refine ⟨fun hh => ⟨by omega, by omega, fun _ => hh, fun _ => by omega⟩, fun hh => hh.2.2.1 h3⟩
  · rename_i h1 h2 h3
    rw [hlen] at h2 h3; simp at h2
    obtain ⟨a, ha⟩ : ∃ a : Nat, (p[i]).a = a := ⟨(p[i]).a.toNat, by omega⟩
    have hal : a < w.length := by omega
    rw [ha]
    refine wp_atI ht hal fun _ _ => ?_
    with_reducible repeat' (first | refine wp_finF ?_ | refine wp_uA ?_ | refine wp_uI ?_ | refine wp_uB ?_ | refine wp_uL ?_ | refine wp_uS ?_ | refine wp_uP ?_ | refine wp_uc ?_ | refine wp_nl ?_ | refine wp_asB ?_ | refine wp_asI ?_ | refine wp_asSl ?_ | refine wp_asT ?_ | refine wp_asA ?_ | refine wp_asS ?_ | refine wp_asP ?_ | refine wp_jn ?_ | refine wp_nN ?_ | refine wp_rN ?_ | refine wp_xN ?_ | refine wp_nB ?_ | refine wp_rB ?_ | refine wp_xB rfl ?_ | refine wp_xB' rfl ?_ | refine wp_bB ?_ | refine wp_rX ?_ | refine wp_xX ?_ | refine wp_rE ?_ | refine wp_xE ?_ | refine wp_rR ?_ | refine wp_xR ?_ | refine wp_r0 ?_ | refine wp_x0 ?_ | refine wp_rF ?_ | refine wp_rF0 ?_ | refine wp_rF2 ?_ | refine wp_rF3 ?_ | refine wp_rF4 ?_ | refine wp_condT ?_ | refine wp_condF ?_ | refine wp_condNT ?_ | refine wp_condNF ?_ | refine wp_condD (fun _ => ?_) (fun _ => ?_) | refine wp_condE (fun _ => ?_) (fun _ => ?_) | refine wp_condNE (fun _ => ?_) (fun _ => ?_) | refine wp_condN (fun _ => ?_) (fun _ => ?_) | refine wp_cond (fun _ => ?_) (fun _ => ?_) | refine wp_atI ht hiw fun _ _ => ?_)
    refine h _ ?_
    rw [beq_iff_eq, ha, Int.toNat_natCast, List.getD_eq_getElem?_getD, List.getElem?_eq_getElem hal]
    simp only [Option.getD_some]
    exact ⟨fun hh => ⟨by omega, by omega, fun _ => by omega, fun _ => hh⟩, fun hh => hh.2.2.2 (by omega)⟩
end Go.Proofs.Ytolchnaegifckaa.HS
namespace Go.Proofs.Ytolchnaegifckaa.HS
open Go

theorem fields_range {o a b c : Int} (h : fieldsP o a b c) : 0 ≤ o ∧ o ≤ 21 := by
  have key : o = 0 ∨ o = 1 ∨ o = 2 ∨ o = 3 ∨ o = 4 ∨ o = 5 ∨ o = 6 ∨ o = 7 ∨ o = 8 ∨ o = 9 ∨ o = 10 ∨ o = 11 ∨ o = 12 ∨ o = 13 ∨ o = 14 ∨ o = 15 ∨ o = 16 ∨ o = 17 ∨ o = 18 ∨ o = 19 ∨ o = 20 ∨ o = 21 ∨
      (o ≠ 0 ∧ o ≠ 1 ∧ o ≠ 2 ∧ o ≠ 3 ∧ o ≠ 4 ∧ o ≠ 5 ∧ o ≠ 6 ∧ o ≠ 7 ∧ o ≠ 8 ∧ o ≠ 9 ∧ o ≠ 10 ∧ o ≠ 11 ∧ o ≠ 12 ∧ o ≠ 13 ∧ o ≠ 14 ∧ o ≠ 15 ∧ o ≠ 16 ∧ o ≠ 17 ∧ o ≠ 18 ∧ o ≠ 19 ∧ o ≠ 20 ∧ o ≠ 21) := by omega
  rcases key with h1 | h1 | h1 | h1 | h1 | h1 | h1 | h1 | h1 | h1 | h1 | h1 | h1 | h1 | h1 | h1 | h1 | h1 | h1 | h1 | h1 | h1 | h1
  case inr.inr.inr.inr.inr.inr.inr.inr.inr.inr.inr.inr.inr.inr.inr.inr.inr.inr.inr.inr.inr.inr => simp [fieldsP, thingsP, h1] at h
  all_goals omega
theorem code_Check_wp {D : HV → List HV → M HV} {H : Heap} {Q : HV → Heap → Prop} {s : Sl} {p : List Ins} (hs : RProg H s p) (hf : ∀ x ∈ p, IFit x)
    (h0 : 48 < p.length → Q (.tup [I 0, I 3]) H) (h1 : CanC p → ∀ H', Keeps H H' → Q (.tup [I 0, I 0]) H')
    (h2 : p.length ≤ 48 → ¬ CanC p → ∀ (i : Int) H', Keeps H H' → Q (.tup [I i, I 11]) H') : wp (f_code_Check D [.sl s]) Q H := by
  unfold f_code_Check
  refine wp_finF (wp_uL (wp_nl (wp_condD (fun c => ?_) (fun c => ?_))))
  · refine wp_rF2 (h0 ?_)
    rw [hs.len] at c; omega
  have hn : p.length ≤ 48 := by rw [hs.len] at c; omega
  refine wp_bnd (code_spans_wp hs hn (fun b H1 hsh hb hk hnm => ?_) (fun x H1 hsh hk => ?_))
  case refine_2 =>
    with_reducible repeat' (first | refine wp_finF ?_ | refine wp_uA ?_ | refine wp_uI ?_ | refine wp_uB ?_ | refine wp_uL ?_ | refine wp_uS ?_ | refine wp_uP ?_ | refine wp_uc ?_ | refine wp_nl ?_ | refine wp_asB ?_ | refine wp_asI ?_ | refine wp_asSl ?_ | refine wp_asT ?_ | refine wp_asA ?_ | refine wp_asS ?_ | refine wp_asP ?_ | refine wp_jn ?_ | refine wp_nN ?_ | refine wp_rN ?_ | refine wp_xN ?_ | refine wp_nB ?_ | refine wp_rB ?_ | refine wp_xB rfl ?_ | refine wp_xB' rfl ?_ | refine wp_bB ?_ | refine wp_rX ?_ | refine wp_xX ?_ | refine wp_rE ?_ | refine wp_xE ?_ | refine wp_rR ?_ | refine wp_xR ?_ | refine wp_r0 ?_ | refine wp_x0 ?_ | refine wp_rF ?_ | refine wp_rF0 ?_ | refine wp_rF2 ?_ | refine wp_rF3 ?_ | refine wp_rF4 ?_ | refine wp_condT ?_ | refine wp_condF ?_ | refine wp_condNT ?_ | refine wp_condNF ?_ | refine wp_condD (fun _ => ?_) (fun _ => ?_) | refine wp_condE (fun _ => ?_) (fun _ => ?_) | refine wp_condNE (fun _ => ?_) (fun _ => ?_) | refine wp_condN (fun _ => ?_) (fun _ => ?_) | refine wp_cond (fun _ => ?_) (fun _ => ?_))
    exact h2 hn (fun hc => hsh hc.shaped) 0 H1 hk
  have ht : RInts H1 (numSl b p.length) ((List.range p.length).map (opn p)) := by
    have := hnm.ints
    simp only [List.length_map, List.length_range] at this
    exact this
  have hwl : ((List.range p.length).map (opn p)).length = p.length := by simp
  have hwg : ∀ k (hk : k < ((List.range p.length).map (opn p)).length), ((List.range p.length).map (opn p))[k] = opn p k := fun k hk => by simp
  have hwd : ∀ k : Nat, k < p.length → ((List.range p.length).map (opn p)).getD k 0 = opn p k := fun k hk => by
    rw [List.getD_eq_getElem?_getD, List.getElem?_eq_getElem (by simpa using hk), hwg]; rfl
  with_reducible repeat' (first | refine wp_finF ?_ | refine wp_uA ?_ | refine wp_uI ?_ | refine wp_uB ?_ | refine wp_uL ?_ | refine wp_uS ?_ | refine wp_uP ?_ | refine wp_uc ?_ | refine wp_nl ?_ | refine wp_asB ?_ | refine wp_asI ?_ | refine wp_asSl ?_ | refine wp_asT ?_ | refine wp_asA ?_ | refine wp_asS ?_ | refine wp_asP ?_ | refine wp_jn ?_ | refine wp_nN ?_ | refine wp_rN ?_ | refine wp_xN ?_ | refine wp_nB ?_ | refine wp_rB ?_ | refine wp_xB rfl ?_ | refine wp_xB' rfl ?_ | refine wp_bB ?_ | refine wp_rX ?_ | refine wp_xX ?_ | refine wp_rE ?_ | refine wp_xE ?_ | refine wp_rR ?_ | refine wp_xR ?_ | refine wp_r0 ?_ | refine wp_x0 ?_ | refine wp_rF ?_ | refine wp_rF0 ?_ | refine wp_rF2 ?_ | refine wp_rF3 ?_ | refine wp_rF4 ?_ | refine wp_condT ?_ | refine wp_condF ?_ | refine wp_condNT ?_ | refine wp_condNF ?_ | refine wp_condD (fun _ => ?_) (fun _ => ?_) | refine wp_condE (fun _ => ?_) (fun _ => ?_) | refine wp_condNE (fun _ => ?_) (fun _ => ?_) | refine wp_condN (fun _ => ?_) (fun _ => ?_) | refine wp_cond (fun _ => ?_) (fun _ => ?_))
  generalize hwdef : (List.range p.length).map (opn p) = w at *
  refine wp_for (σ := Bool × Int) p.length hs.lt hs.lenI (fun x i => [.bool x.1, I x.2, I i]) (fun _ _ => rfl) rfl (fun i x H' => H' = H1 ∧ x = (sureR p i, (waysR p i : Int)) ∧ waysR p i ≤ 3 ∧ ∀ j (hj : j < p.length), j < i → GoodI p j p[j]) (false, 0) rfl ⟨rfl, rfl, by simp [waysR], fun j _ h => by omega⟩ ?_ ?_
  · rintro i _ H2 hi ⟨rfl, rfl, hw3, hg⟩
    have hi' : i < w.length := by omega
    have hF := fits_iff p[i] (hf _ (List.getElem_mem hi))
    have hs' := hs.keeps hk
    have hwi : w[i] = opn p i := hwg i hi'
    have hwa : 0 ≤ (p[i]).a → (p[i]).a < p.length → w.getD (p[i]).a.toNat 0 = opn p (p[i]).a.toNat := fun q1 q2 => hwd _ (by omega)
    have hsu := sureR_succ hi
    have hwu := waysR_succ hi
    have hw1 : wr ((waysR p i : Int) + 1) = (waysR p i : Int) + 1 := wr_small (by omega) (by omega)
    have hw2 : wr (0 + 1 : Int) = 1 := rfl
    have hdup := hwd
    have hrg := fields_range (o := (p[i]).op) (a := (p[i]).a) (b := (p[i]).b) (c := (p[i]).c)
    refine wp_blk (wp_at hs' hi fun _ _ => ?_)
    simp only
    with_reducible repeat' (first | refine wp_finF ?_ | refine wp_uA ?_ | refine wp_uI ?_ | refine wp_uB ?_ | refine wp_uL ?_ | refine wp_uS ?_ | refine wp_uP ?_ | refine wp_uc ?_ | refine wp_nl ?_ | refine wp_asB ?_ | refine wp_asI ?_ | refine wp_asSl ?_ | refine wp_asT ?_ | refine wp_asA ?_ | refine wp_asS ?_ | refine wp_asP ?_ | refine wp_jn ?_ | refine wp_nN ?_ | refine wp_rN ?_ | refine wp_xN ?_ | refine wp_nB ?_ | refine wp_rB ?_ | refine wp_xB rfl ?_ | refine wp_xB' rfl ?_ | refine wp_bB ?_ | refine wp_rX ?_ | refine wp_xX ?_ | refine wp_rE ?_ | refine wp_xE ?_ | refine wp_rR ?_ | refine wp_xR ?_ | refine wp_r0 ?_ | refine wp_x0 ?_ | refine wp_rF ?_ | refine wp_rF0 ?_ | refine wp_rF2 ?_ | refine wp_rF3 ?_ | refine wp_rF4 ?_ | refine wp_condT ?_ | refine wp_condF ?_ | refine wp_condNT ?_ | refine wp_condNF ?_ | refine wp_condD (fun _ => ?_) (fun _ => ?_) | refine wp_condE (fun _ => ?_) (fun _ => ?_) | refine wp_condNE (fun _ => ?_) (fun _ => ?_) | refine wp_condN (fun _ => ?_) (fun _ => ?_) | refine wp_cond (fun _ => ?_) (fun _ => ?_) | refine wp_bnd (code_fields_wp fun _ _ => ?_) | refine wp_bnd (code_placed_wp fun _ _ => ?_) | refine wp_bnd (code_lands_wp hs' ht hwl hi fun _ _ => ?_) | refine wp_atI ht hi' fun _ _ => ?_ | refine wp_blk ?_)
    all_goals clear h1 h0 hs hs' ht hnm hdup hwd hwg hwdef hsh hb c hf
    all_goals first
      | (refine h2 hn (fun hc => ?_) i _ hk
         have hgi := hc.good i hi
         clear h2
         unfold GoodI at hgi
         rw [hF] at hgi
         grind)
      | (clear h2
         try rw [hw1]
         try rw [hw2]
         refine wp_nR ⟨(_, _), rfl, rfl, Prod.ext ?_ ?_, ?_, fun j hj hji => ?_⟩
         · simp only
           grind
         · simp only
           grind
         · grind
         · by_cases hjj : j = i
           · subst hjj
             unfold GoodI
             rw [hF]
             grind
           · exact hg j hj (by omega))
  · rintro _ H2 ⟨rfl, rfl, hw3, hg⟩
    with_reducible repeat' (first | refine wp_finF ?_ | refine wp_uA ?_ | refine wp_uI ?_ | refine wp_uB ?_ | refine wp_uL ?_ | refine wp_uS ?_ | refine wp_uP ?_ | refine wp_uc ?_ | refine wp_nl ?_ | refine wp_asB ?_ | refine wp_asI ?_ | refine wp_asSl ?_ | refine wp_asT ?_ | refine wp_asA ?_ | refine wp_asS ?_ | refine wp_asP ?_ | refine wp_jn ?_ | refine wp_nN ?_ | refine wp_rN ?_ | refine wp_xN ?_ | refine wp_nB ?_ | refine wp_rB ?_ | refine wp_xB rfl ?_ | refine wp_xB' rfl ?_ | refine wp_bB ?_ | refine wp_rX ?_ | refine wp_xX ?_ | refine wp_rE ?_ | refine wp_xE ?_ | refine wp_rR ?_ | refine wp_xR ?_ | refine wp_r0 ?_ | refine wp_x0 ?_ | refine wp_rF ?_ | refine wp_rF0 ?_ | refine wp_rF2 ?_ | refine wp_rF3 ?_ | refine wp_rF4 ?_ | refine wp_condT ?_ | refine wp_condF ?_ | refine wp_condNT ?_ | refine wp_condNF ?_ | refine wp_condD (fun _ => ?_) (fun _ => ?_) | refine wp_condE (fun _ => ?_) (fun _ => ?_) | refine wp_condNE (fun _ => ?_) (fun _ => ?_) | refine wp_condN (fun _ => ?_) (fun _ => ?_) | refine wp_cond (fun _ => ?_) (fun _ => ?_))
    exact h1 ⟨hn, hsh, fun i hi => hg i hi hi⟩ _ hk
end Go.Proofs.Ytolchnaegifckaa.HS
namespace Go.Proofs.Ytolchnaegifckaa.HS
open Go

theorem ref07_Block_wp {D : HV → List HV → M HV} {H : Heap} {Q : HV → Heap → Prop} {s : Sl} {p : List Ins} (hs : RProg H s p) (hn : p.length ≤ 1000) {i : Nat} (hi : i < p.length) (h : Q (I (Blk p i)) H) : wp (f_ref07_Block D [.sl s, I i]) Q H := by
  unfold f_ref07_Block
  with_reducible repeat' (first | refine wp_finF ?_ | refine wp_uA ?_ | refine wp_uI ?_ | refine wp_uB ?_ | refine wp_uL ?_ | refine wp_uS ?_ | refine wp_uP ?_ | refine wp_uc ?_ | refine wp_nl ?_ | refine wp_asB ?_ | refine wp_asI ?_ | refine wp_asSl ?_ | refine wp_asT ?_ | refine wp_asA ?_ | refine wp_asS ?_ | refine wp_asP ?_ | refine wp_jn ?_ | refine wp_nN ?_ | refine wp_rN ?_ | refine wp_xN ?_ | refine wp_nB ?_ | refine wp_rB ?_ | refine wp_xB rfl ?_ | refine wp_xB' rfl ?_ | refine wp_bB ?_ | refine wp_rX ?_ | refine wp_xX ?_ | refine wp_rE ?_ | refine wp_xE ?_ | refine wp_rR ?_ | refine wp_xR ?_ | refine wp_r0 ?_ | refine wp_x0 ?_ | refine wp_rF ?_ | refine wp_rF0 ?_ | refine wp_rF2 ?_ | refine wp_rF3 ?_ | refine wp_rF4 ?_)
  refine wp_atF hs hi (k := 0) (v := I (p[i]).op) rfl fun _ _ => ?_
  have hB := Blk_eq hi
  with_reducible repeat' (first | refine wp_finF ?_ | refine wp_uA ?_ | refine wp_uI ?_ | refine wp_uB ?_ | refine wp_uL ?_ | refine wp_uS ?_ | refine wp_uP ?_ | refine wp_uc ?_ | refine wp_nl ?_ | refine wp_asB ?_ | refine wp_asI ?_ | refine wp_asSl ?_ | refine wp_asT ?_ | refine wp_asA ?_ | refine wp_asS ?_ | refine wp_asP ?_ | refine wp_jn ?_ | refine wp_nN ?_ | refine wp_rN ?_ | refine wp_xN ?_ | refine wp_nB ?_ | refine wp_rB ?_ | refine wp_xB rfl ?_ | refine wp_xB' rfl ?_ | refine wp_bB ?_ | refine wp_rX ?_ | refine wp_xX ?_ | refine wp_rE ?_ | refine wp_xE ?_ | refine wp_rR ?_ | refine wp_xR ?_ | refine wp_r0 ?_ | refine wp_x0 ?_ | refine wp_rF ?_ | refine wp_rF0 ?_ | refine wp_rF2 ?_ | refine wp_rF3 ?_ | refine wp_rF4 ?_)
  refine wp_condE (fun h4 => ?_) (fun h4 => ?_)
  · rw [if_pos h4] at hB
    with_reducible repeat' (first | refine wp_finF ?_ | refine wp_uA ?_ | refine wp_uI ?_ | refine wp_uB ?_ | refine wp_uL ?_ | refine wp_uS ?_ | refine wp_uP ?_ | refine wp_uc ?_ | refine wp_nl ?_ | refine wp_asB ?_ | refine wp_asI ?_ | refine wp_asSl ?_ | refine wp_asT ?_ | refine wp_asA ?_ | refine wp_asS ?_ | refine wp_asP ?_ | refine wp_jn ?_ | refine wp_nN ?_ | refine wp_rN ?_ | refine wp_xN ?_ | refine wp_nB ?_ | refine wp_rB ?_ | refine wp_xB rfl ?_ | refine wp_xB' rfl ?_ | refine wp_bB ?_ | refine wp_rX ?_ | refine wp_xX ?_ | refine wp_rE ?_ | refine wp_xE ?_ | refine wp_rR ?_ | refine wp_xR ?_ | refine wp_r0 ?_ | refine wp_x0 ?_ | refine wp_rF ?_ | refine wp_rF0 ?_ | refine wp_rF2 ?_ | refine wp_rF3 ?_ | refine wp_rF4 ?_)
    rw [← hB]; exact h
  rw [if_neg h4] at hB
  refine wp_blk ?_
  refine wp_range (σ := Unit) i (fun j _ => [I ((i : Int) - 1 - j)]) (fun j _ H' => H' = H ∧ opn p i = opn p (i - j)) () (by rw [wr_small (by omega) (by omega)]; simp) ⟨rfl, by simp⟩ ?_ ?_
  · rintro j _ H' hj ⟨rfl, hop⟩
    obtain ⟨k, hk⟩ : ∃ k : Nat, (i : Int) - 1 - j = k := ⟨i - 1 - j, by omega⟩
    have hkp : k < p.length := by omega
    have hkk : i - j = k + 1 := by omega
    have hsucc := opn_succ hkp
    rw [hkk] at hop
    simp only [hk]
    with_reducible repeat' (first | refine wp_finF ?_ | refine wp_uA ?_ | refine wp_uI ?_ | refine wp_uB ?_ | refine wp_uL ?_ | refine wp_uS ?_ | refine wp_uP ?_ | refine wp_uc ?_ | refine wp_nl ?_ | refine wp_asB ?_ | refine wp_asI ?_ | refine wp_asSl ?_ | refine wp_asT ?_ | refine wp_asA ?_ | refine wp_asS ?_ | refine wp_asP ?_ | refine wp_jn ?_ | refine wp_nN ?_ | refine wp_rN ?_ | refine wp_xN ?_ | refine wp_nB ?_ | refine wp_rB ?_ | refine wp_xB rfl ?_ | refine wp_xB' rfl ?_ | refine wp_bB ?_ | refine wp_rX ?_ | refine wp_xX ?_ | refine wp_rE ?_ | refine wp_xE ?_ | refine wp_rR ?_ | refine wp_xR ?_ | refine wp_r0 ?_ | refine wp_x0 ?_ | refine wp_rF ?_ | refine wp_rF0 ?_ | refine wp_rF2 ?_ | refine wp_rF3 ?_ | refine wp_rF4 ?_)
    refine wp_condD (fun _ => ?_) (fun hc => by omega)
    refine wp_atF hs hkp (k := 0) (v := I (p[k]).op) rfl fun _ _ => ?_
    with_reducible repeat' (first | refine wp_finF ?_ | refine wp_uA ?_ | refine wp_uI ?_ | refine wp_uB ?_ | refine wp_uL ?_ | refine wp_uS ?_ | refine wp_uP ?_ | refine wp_uc ?_ | refine wp_nl ?_ | refine wp_asB ?_ | refine wp_asI ?_ | refine wp_asSl ?_ | refine wp_asT ?_ | refine wp_asA ?_ | refine wp_asS ?_ | refine wp_asP ?_ | refine wp_jn ?_ | refine wp_nN ?_ | refine wp_rN ?_ | refine wp_xN ?_ | refine wp_nB ?_ | refine wp_rB ?_ | refine wp_xB rfl ?_ | refine wp_xB' rfl ?_ | refine wp_bB ?_ | refine wp_rX ?_ | refine wp_xX ?_ | refine wp_rE ?_ | refine wp_xE ?_ | refine wp_rR ?_ | refine wp_xR ?_ | refine wp_r0 ?_ | refine wp_x0 ?_ | refine wp_rF ?_ | refine wp_rF0 ?_ | refine wp_rF2 ?_ | refine wp_rF3 ?_ | refine wp_rF4 ?_)
    refine wp_condE (fun h5 => ?_) (fun h5 => ?_)
    · with_reducible repeat' (first | refine wp_finF ?_ | refine wp_uA ?_ | refine wp_uI ?_ | refine wp_uB ?_ | refine wp_uL ?_ | refine wp_uS ?_ | refine wp_uP ?_ | refine wp_uc ?_ | refine wp_nl ?_ | refine wp_asB ?_ | refine wp_asI ?_ | refine wp_asSl ?_ | refine wp_asT ?_ | refine wp_asA ?_ | refine wp_asS ?_ | refine wp_asP ?_ | refine wp_jn ?_ | refine wp_nN ?_ | refine wp_rN ?_ | refine wp_xN ?_ | refine wp_nB ?_ | refine wp_rB ?_ | refine wp_xB rfl ?_ | refine wp_xB' rfl ?_ | refine wp_bB ?_ | refine wp_rX ?_ | refine wp_xX ?_ | refine wp_rE ?_ | refine wp_xE ?_ | refine wp_rR ?_ | refine wp_xR ?_ | refine wp_r0 ?_ | refine wp_x0 ?_ | refine wp_rF ?_ | refine wp_rF0 ?_ | refine wp_rF2 ?_ | refine wp_rF3 ?_ | refine wp_rF4 ?_)
      have : Blk p i = -1 := by rw [hB, hop, hsucc, if_neg (by omega), if_pos h5]
      rw [← this]; exact h
    refine wp_atF hs hkp (k := 0) (v := I (p[k]).op) rfl fun _ _ => ?_
    with_reducible repeat' (first | refine wp_finF ?_ | refine wp_uA ?_ | refine wp_uI ?_ | refine wp_uB ?_ | refine wp_uL ?_ | refine wp_uS ?_ | refine wp_uP ?_ | refine wp_uc ?_ | refine wp_nl ?_ | refine wp_asB ?_ | refine wp_asI ?_ | refine wp_asSl ?_ | refine wp_asT ?_ | refine wp_asA ?_ | refine wp_asS ?_ | refine wp_asP ?_ | refine wp_jn ?_ | refine wp_nN ?_ | refine wp_rN ?_ | refine wp_xN ?_ | refine wp_nB ?_ | refine wp_rB ?_ | refine wp_xB rfl ?_ | refine wp_xB' rfl ?_ | refine wp_bB ?_ | refine wp_rX ?_ | refine wp_xX ?_ | refine wp_rE ?_ | refine wp_xE ?_ | refine wp_rR ?_ | refine wp_xR ?_ | refine wp_r0 ?_ | refine wp_x0 ?_ | refine wp_rF ?_ | refine wp_rF0 ?_ | refine wp_rF2 ?_ | refine wp_rF3 ?_ | refine wp_rF4 ?_)
    refine wp_condE (fun h6 => ?_) (fun h6 => ?_)
    · with_reducible repeat' (first | refine wp_finF ?_ | refine wp_uA ?_ | refine wp_uI ?_ | refine wp_uB ?_ | refine wp_uL ?_ | refine wp_uS ?_ | refine wp_uP ?_ | refine wp_uc ?_ | refine wp_nl ?_ | refine wp_asB ?_ | refine wp_asI ?_ | refine wp_asSl ?_ | refine wp_asT ?_ | refine wp_asA ?_ | refine wp_asS ?_ | refine wp_asP ?_ | refine wp_jn ?_ | refine wp_nN ?_ | refine wp_rN ?_ | refine wp_xN ?_ | refine wp_nB ?_ | refine wp_rB ?_ | refine wp_xB rfl ?_ | refine wp_xB' rfl ?_ | refine wp_bB ?_ | refine wp_rX ?_ | refine wp_xX ?_ | refine wp_rE ?_ | refine wp_xE ?_ | refine wp_rR ?_ | refine wp_xR ?_ | refine wp_r0 ?_ | refine wp_x0 ?_ | refine wp_rF ?_ | refine wp_rF0 ?_ | refine wp_rF2 ?_ | refine wp_rF3 ?_ | refine wp_rF4 ?_)
      have : Blk p i = k := by rw [hB, hop, hsucc, if_pos h6]
      rw [← this]; exact h
    · refine wp_nX ⟨(), ?_, rfl, ?_⟩
      · rw [wr_small (by omega) (by omega)]
        congr 2; omega
      · rw [hop, hsucc, if_neg h6, if_neg h5]
        congr 1; omega
  · rintro _ H' ⟨rfl, hop⟩
    with_reducible repeat' (first | refine wp_finF ?_ | refine wp_uA ?_ | refine wp_uI ?_ | refine wp_uB ?_ | refine wp_uL ?_ | refine wp_uS ?_ | refine wp_uP ?_ | refine wp_uc ?_ | refine wp_nl ?_ | refine wp_asB ?_ | refine wp_asI ?_ | refine wp_asSl ?_ | refine wp_asT ?_ | refine wp_asA ?_ | refine wp_asS ?_ | refine wp_asP ?_ | refine wp_jn ?_ | refine wp_nN ?_ | refine wp_rN ?_ | refine wp_xN ?_ | refine wp_nB ?_ | refine wp_rB ?_ | refine wp_xB rfl ?_ | refine wp_xB' rfl ?_ | refine wp_bB ?_ | refine wp_rX ?_ | refine wp_xX ?_ | refine wp_rE ?_ | refine wp_xE ?_ | refine wp_rR ?_ | refine wp_xR ?_ | refine wp_r0 ?_ | refine wp_x0 ?_ | refine wp_rF ?_ | refine wp_rF0 ?_ | refine wp_rF2 ?_ | refine wp_rF3 ?_ | refine wp_rF4 ?_)
    refine wp_condD (fun hc => by omega) (fun _ => ?_)
    with_reducible repeat' (first | refine wp_finF ?_ | refine wp_uA ?_ | refine wp_uI ?_ | refine wp_uB ?_ | refine wp_uL ?_ | refine wp_uS ?_ | refine wp_uP ?_ | refine wp_uc ?_ | refine wp_nl ?_ | refine wp_asB ?_ | refine wp_asI ?_ | refine wp_asSl ?_ | refine wp_asT ?_ | refine wp_asA ?_ | refine wp_asS ?_ | refine wp_asP ?_ | refine wp_jn ?_ | refine wp_nN ?_ | refine wp_rN ?_ | refine wp_xN ?_ | refine wp_nB ?_ | refine wp_rB ?_ | refine wp_xB rfl ?_ | refine wp_xB' rfl ?_ | refine wp_bB ?_ | refine wp_rX ?_ | refine wp_xX ?_ | refine wp_rE ?_ | refine wp_xE ?_ | refine wp_rR ?_ | refine wp_xR ?_ | refine wp_r0 ?_ | refine wp_x0 ?_ | refine wp_rF ?_ | refine wp_rF0 ?_ | refine wp_rF2 ?_ | refine wp_rF3 ?_ | refine wp_rF4 ?_)
    rw [Nat.sub_self] at hop
    have : Blk p i = -1 := by rw [hB, hop]; rfl
    rw [← this]; exact h

theorem ref07_Shaped_wp {D : HV → List HV → M HV} {H : Heap} {Q : HV → Heap → Prop} {s : Sl} {p : List Ins} (hs : RProg H s p) (h : ∀ z : Bool, (z = true ↔ Shaped p) → Q (.bool z) H) : wp (f_ref07_Shaped D [.sl s]) Q H := by
  unfold f_ref07_Shaped
  with_reducible repeat' (first | refine wp_finF ?_ | refine wp_uA ?_ | refine wp_uI ?_ | refine wp_uB ?_ | refine wp_uL ?_ | refine wp_uS ?_ | refine wp_uP ?_ | refine wp_uc ?_ | refine wp_nl ?_ | refine wp_asB ?_ | refine wp_asI ?_ | refine wp_asSl ?_ | refine wp_asT ?_ | refine wp_asA ?_ | refine wp_asS ?_ | refine wp_asP ?_ | refine wp_jn ?_ | refine wp_nN ?_ | refine wp_rN ?_ | refine wp_xN ?_ | refine wp_nB ?_ | refine wp_rB ?_ | refine wp_xB rfl ?_ | refine wp_xB' rfl ?_ | refine wp_bB ?_ | refine wp_rX ?_ | refine wp_xX ?_ | refine wp_rE ?_ | refine wp_xE ?_ | refine wp_rR ?_ | refine wp_xR ?_ | refine wp_r0 ?_ | refine wp_x0 ?_ | refine wp_rF ?_ | refine wp_rF0 ?_ | refine wp_rF2 ?_ | refine wp_rF3 ?_ | refine wp_rF4 ?_)
  refine wp_for (σ := Int) p.length hs.lt hs.lenI (fun x i => [I x, I i]) (fun _ _ => rfl) rfl (fun i x H' => H' = H ∧ x = (if 0 ≤ opn p i then 1 else 0) ∧ ∀ j (hj : j < p.length), j < i → shapeAt p j hj) 0 rfl ⟨rfl, by simp [opn], fun j _ h => by omega⟩ ?_ ?_
  · rintro i x H' hi ⟨rfl, hx, hsh⟩
    have hop := opn_succ hi
    have no : ¬ shapeAt p i hi → ¬ Shaped p := fun h hh => h (hh.1 i hi)
    have hw1 : wr (x + 1) = x + 1 := wr_small (by split at hx <;> omega) (by split at hx <;> omega)
    have hw2 : wr (x - 1) = x - 1 := wr_small (by split at hx <;> omega) (by split at hx <;> omega)
    have hw3 : wr (x + 1 - 1) = x := by rw [wr_small (by split at hx <;> omega) (by split at hx <;> omega)]; omega
    have next : shapeAt p i hi → ∀ j (hj : j < p.length), j < i + 1 → shapeAt p j hj := by
      intro c j hj hji
      by_cases hh : j = i
      · subst hh; exact c
      · exact hsh j hj (by omega)
    refine wp_at hs hi fun _ _ => ?_
    rw [hw1]
    with_reducible repeat' (first | refine wp_finF ?_ | refine wp_uA ?_ | refine wp_uI ?_ | refine wp_uB ?_ | refine wp_uL ?_ | refine wp_uS ?_ | refine wp_uP ?_ | refine wp_uc ?_ | refine wp_nl ?_ | refine wp_asB ?_ | refine wp_asI ?_ | refine wp_asSl ?_ | refine wp_asT ?_ | refine wp_asA ?_ | refine wp_asS ?_ | refine wp_asP ?_ | refine wp_jn ?_ | refine wp_nN ?_ | refine wp_rN ?_ | refine wp_xN ?_ | refine wp_nB ?_ | refine wp_rB ?_ | refine wp_xB rfl ?_ | refine wp_xB' rfl ?_ | refine wp_bB ?_ | refine wp_rX ?_ | refine wp_xX ?_ | refine wp_rE ?_ | refine wp_xE ?_ | refine wp_rR ?_ | refine wp_xR ?_ | refine wp_r0 ?_ | refine wp_x0 ?_ | refine wp_rF ?_ | refine wp_rF0 ?_ | refine wp_rF2 ?_ | refine wp_rF3 ?_ | refine wp_rF4 ?_ | refine wp_condT ?_ | refine wp_condF ?_ | refine wp_condNT ?_ | refine wp_condNF ?_ | refine wp_condD (fun _ => ?_) (fun _ => ?_) | refine wp_condE (fun _ => ?_) (fun _ => ?_) | refine wp_condNE (fun _ => ?_) (fun _ => ?_) | refine wp_condN (fun _ => ?_) (fun _ => ?_) | refine wp_cond (fun _ => ?_) (fun _ => ?_))
    all_goals try rw [hw2]
    all_goals try rw [hw3]
    all_goals first
      | (refine h _ ⟨fun hh => (by cases hh), fun hh => absurd hh (no ?_)⟩
         clear h no next
         unfold shapeAt
         grind)
      | (refine wp_nR ⟨_, rfl, rfl, ?_, next ?_⟩
         · clear h no next
           grind
         · clear h no next
           unfold shapeAt
           grind)
  · rintro x H' ⟨rfl, hx, hsh⟩
    with_reducible repeat' (first | refine wp_finF ?_ | refine wp_uA ?_ | refine wp_uI ?_ | refine wp_uB ?_ | refine wp_uL ?_ | refine wp_uS ?_ | refine wp_uP ?_ | refine wp_uc ?_ | refine wp_nl ?_ | refine wp_asB ?_ | refine wp_asI ?_ | refine wp_asSl ?_ | refine wp_asT ?_ | refine wp_asA ?_ | refine wp_asS ?_ | refine wp_asP ?_ | refine wp_jn ?_ | refine wp_nN ?_ | refine wp_rN ?_ | refine wp_xN ?_ | refine wp_nB ?_ | refine wp_rB ?_ | refine wp_xB rfl ?_ | refine wp_xB' rfl ?_ | refine wp_bB ?_ | refine wp_rX ?_ | refine wp_xX ?_ | refine wp_rE ?_ | refine wp_xE ?_ | refine wp_rR ?_ | refine wp_xR ?_ | refine wp_r0 ?_ | refine wp_x0 ?_ | refine wp_rF ?_ | refine wp_rF0 ?_ | refine wp_rF2 ?_ | refine wp_rF3 ?_ | refine wp_rF4 ?_ | refine wp_condT ?_ | refine wp_condF ?_ | refine wp_condNT ?_ | refine wp_condNF ?_ | refine wp_condD (fun _ => ?_) (fun _ => ?_) | refine wp_condE (fun _ => ?_) (fun _ => ?_) | refine wp_condNE (fun _ => ?_) (fun _ => ?_) | refine wp_condN (fun _ => ?_) (fun _ => ?_) | refine wp_cond (fun _ => ?_) (fun _ => ?_))
    refine h _ ?_
    rw [beq_iff_eq, hx]
    constructor
    · intro hh; exact ⟨fun i hi => hsh i hi hi, by grind⟩
    · intro hh; have := hh.2; grind

theorem ref07_limits_wp {D : HV → List HV → M HV} {H : Heap} {Q : HV → Heap → Prop} {o : Int} (h1 : ∀ a b c d e f : Int, lims o = some [a, b, c, d, e, f] → Q (.tup [.agg [I a, I b, I c, I d, I e, I f], .bool true]) H)
    (h2 : lims o = none → Q (.tup [.agg [I 0, I 0, I 0, I 0, I 0, I 0], .bool false]) H) : wp (f_ref07_limits D [I o]) Q H := by
  unfold f_ref07_limits
  with_reducible repeat' (first | refine wp_finF ?_ | refine wp_uA ?_ | refine wp_uI ?_ | refine wp_uB ?_ | refine wp_uL ?_ | refine wp_uS ?_ | refine wp_uP ?_ | refine wp_uc ?_ | refine wp_nl ?_ | refine wp_asB ?_ | refine wp_asI ?_ | refine wp_asSl ?_ | refine wp_asT ?_ | refine wp_asA ?_ | refine wp_asS ?_ | refine wp_asP ?_ | refine wp_jn ?_ | refine wp_nN ?_ | refine wp_rN ?_ | refine wp_xN ?_ | refine wp_nB ?_ | refine wp_rB ?_ | refine wp_xB rfl ?_ | refine wp_xB' rfl ?_ | refine wp_bB ?_ | refine wp_rX ?_ | refine wp_xX ?_ | refine wp_rE ?_ | refine wp_xE ?_ | refine wp_rR ?_ | refine wp_xR ?_ | refine wp_r0 ?_ | refine wp_x0 ?_ | refine wp_rF ?_ | refine wp_rF0 ?_ | refine wp_rF2 ?_ | refine wp_rF3 ?_ | refine wp_rF4 ?_ | refine wp_condT ?_ | refine wp_condF ?_ | refine wp_condNT ?_ | refine wp_condNF ?_ | refine wp_condD (fun _ => ?_) (fun _ => ?_) | refine wp_condE (fun _ => ?_) (fun _ => ?_) | refine wp_condNE (fun _ => ?_) (fun _ => ?_) | refine wp_condN (fun _ => ?_) (fun _ => ?_) | refine wp_cond (fun _ => ?_) (fun _ => ?_))
  all_goals first
    | exact h1 _ _ _ _ _ _ (by clear h1 h2; simp_all [lims, loI, hiI])
    | exact h2 (by clear h1 h2; simp_all [lims])
end Go.Proofs.Ytolchnaegifckaa.HS
