/- What code's functions compute: spans, lands, Check. Conditions: none (lemmas). -/
import Derived.Test.YtolchnaegifckaaHQCb
import Derived.Test.YtolchnaegifckaaHQNa
namespace Go.Proofs.Ytolchnaegifckaa.HQ
open Go

def shapeAt (p : List Ins) (j : Nat) (hj : j < p.length) : Prop := ((p[j]).op = 4 → opn p j < 0) ∧ ((p[j]).op = 5 → 0 ≤ opn p j)
def spW (p : List Ins) (i : Nat) : List Int := (List.range p.length).map fun k => if k < i then opn p k else 0
theorem spW_len {p : List Ins} {i : Nat} : (spW p i).length = p.length := by simp [spW]
theorem spW_get {p : List Ins} {i k : Nat} (hk : k < p.length) : (spW p i)[k]? = some (if k < i then opn p k else 0) := by simp [spW, hk]
theorem spW_all {p : List Ins} : spW p p.length = (List.range p.length).map (opn p) := by
  unfold spW
  apply List.map_congr_left
  intro k hk
  rw [if_pos (by simpa using hk)]
theorem spW_set {p : List Ins} {i : Nat} (hi : i < p.length) : (spW p i).set i (opn p i) = spW p (i + 1) := by
  refine set_eq_of spW_len spW_len hi ?_ ?_
  · rw [spW_get hi, if_pos (by omega)]
  · intro j hj hji
    rw [spW_get hj, spW_get hj]
    have : (j < i + 1) ↔ j < i := by omega
    simp only [this]
theorem code_spans_wp {D : HV → List HV → M HV} {H : Heap} {Q : HV → Heap → Prop} {s : Sl} {p : List Ins} (hs : RProg H s p) (hn : p.length ≤ 48)
    (h1 : ∀ b H', Shaped p → H.n ≤ b → Keeps H H' → Nums H' b ((List.range p.length).map (opn p)) → Q (.tup [.sl (numSl b p.length), .bool true]) H')
    (h2 : ∀ x H', ¬ Shaped p → Keeps H H' → Q (.tup [.sl x, .bool false]) H') : wp (f_code_spans D [.sl s]) Q H := by
  unfold f_code_spans
  have hlen := hs.len
  refine wp_finF (wp_uL (wp_nl (wp_gdD (by omega) (wp_gdD (by omega) (wp_gdD (by simp only [room, Int.toNat_natCast, hlen]; omega) (wp_nw ?_))))))
  have hsl : (⟨some (H.n, 0), (s.len : Int).toNat, (s.len : Int).toNat, none⟩ : Sl) = numSl H.n p.length := by
    rw [hlen]; simp [numSl]
  have hn0 : Nums (H.push (.cells (repL (s.len : Int).toNat [I 0]) false)) H.n (spW p 0) := by
    refine ⟨by simp [Heap.push], ?_, by rw [spW_len]; omega⟩
    simp only [Heap.push, if_pos]
    rw [repL_one, hlen]
    congr 1
    apply List.ext_getElem?
    intro j
    rw [List.getElem?_map]
    simp only [Int.toNat_natCast, List.getElem?_replicate]
    by_cases hj : j < p.length
    · rw [spW_get hj, if_pos hj, if_neg (by omega)]; rfl
    · rw [List.getElem?_eq_none (by rw [spW_len]; omega), if_neg hj]; rfl
  rw [hsl]
  refine wp_for (σ := Int) p.length hs.lt hs.lenI (fun x i => [I x, I i]) (fun _ _ => rfl) rfl (fun i x H' => x = opn p i ∧ Keeps H H' ∧ Nums H' H.n (spW p i) ∧ ∀ j (hj : j < p.length), j < i → shapeAt p j hj) (-1) rfl ⟨rfl, Keeps.push _ _, hn0, fun j _ h => by omega⟩ ?_ ?_
  · rintro i _ H1 hi ⟨rfl, hk, hnm, hsh⟩
    refine wp_blk (wp_at (hs.keeps hk) hi fun _ _ => ?_)
    with_reducible repeat' (first | refine wp_finF ?_ | refine wp_uA ?_ | refine wp_uI ?_ | refine wp_uB ?_ | refine wp_uL ?_ | refine wp_uS ?_ | refine wp_uP ?_ | refine wp_uc ?_ | refine wp_nl ?_ | refine wp_asB ?_ | refine wp_asI ?_ | refine wp_asSl ?_ | refine wp_asT ?_ | refine wp_asA ?_ | refine wp_asS ?_ | refine wp_asP ?_ | refine wp_jn ?_ | refine wp_nN ?_ | refine wp_rN ?_ | refine wp_xN ?_ | refine wp_nB ?_ | refine wp_rB ?_ | refine wp_xB rfl ?_ | refine wp_xB' rfl ?_ | refine wp_bB ?_ | refine wp_rX ?_ | refine wp_xX ?_ | refine wp_rE ?_ | refine wp_xE ?_ | refine wp_rR ?_ | refine wp_xR ?_ | refine wp_r0 ?_ | refine wp_x0 ?_ | refine wp_rF ?_ | refine wp_rF0 ?_ | refine wp_rF2 ?_ | refine wp_rF3 ?_ | refine wp_rF4 ?_)
    have hil : (i : Int).toNat < (spW p i).length := by rw [spW_len]; simpa using hi
    refine wp_numset hnm (by rw [spW_len]) (by omega) hil fun hn2 => ?_
    rw [Int.toNat_natCast, spW_set hi] at hn2
    rw [Int.toNat_natCast]
    have hk2 : Keeps H (H1.set H.n (.cells (List.set (List.map I (spW p i)) i (I (opn p i))) false)) := hk.set (Nat.le_refl _) _
    have hop := opn_succ hi
    have next : ∀ H2, Keeps H H2 → Nums H2 H.n (spW p (i + 1)) → shapeAt p i hi → opn p (i + 1) = opn p (i + 1) ∧ Keeps H H2 ∧ Nums H2 H.n (spW p (i + 1)) ∧ ∀ j (hj : j < p.length), j < i + 1 → shapeAt p j hj := by
      intro H2 a b c
      refine ⟨rfl, a, b, fun j hj hji => ?_⟩
      by_cases hh : j = i
      · subst hh; exact c
      · exact hsh j hj (by omega)
    have no : ¬ shapeAt p i hi → ¬ Shaped p := fun h hh => h (hh.1 i hi)
    with_reducible repeat' (first | refine wp_finF ?_ | refine wp_uA ?_ | refine wp_uI ?_ | refine wp_uB ?_ | refine wp_uL ?_ | refine wp_uS ?_ | refine wp_uP ?_ | refine wp_uc ?_ | refine wp_nl ?_ | refine wp_asB ?_ | refine wp_asI ?_ | refine wp_asSl ?_ | refine wp_asT ?_ | refine wp_asA ?_ | refine wp_asS ?_ | refine wp_asP ?_ | refine wp_jn ?_ | refine wp_nN ?_ | refine wp_rN ?_ | refine wp_xN ?_ | refine wp_nB ?_ | refine wp_rB ?_ | refine wp_xB rfl ?_ | refine wp_xB' rfl ?_ | refine wp_bB ?_ | refine wp_rX ?_ | refine wp_xX ?_ | refine wp_rE ?_ | refine wp_xE ?_ | refine wp_rR ?_ | refine wp_xR ?_ | refine wp_r0 ?_ | refine wp_x0 ?_ | refine wp_rF ?_ | refine wp_rF0 ?_ | refine wp_rF2 ?_ | refine wp_rF3 ?_ | refine wp_rF4 ?_ | refine wp_condT ?_ | refine wp_condF ?_ | refine wp_condNT ?_ | refine wp_condNF ?_ | refine wp_condD (fun _ => ?_) (fun _ => ?_) | refine wp_condE (fun _ => ?_) (fun _ => ?_) | refine wp_condNE (fun _ => ?_) (fun _ => ?_) | refine wp_condN (fun _ => ?_) (fun _ => ?_) | refine wp_cond (fun _ => ?_) (fun _ => ?_))
    · exact h2 _ _ (no fun h => by have := h.1 ‹_›; omega) hk2
    · exact wp_nR ⟨opn p (i + 1), by rw [hop, if_pos ‹_›], next _ hk2 hn2 ⟨fun _ => by omega, fun _ => by omega⟩⟩
    · exact h2 _ _ (no fun h => by have := h.2 ‹_›; omega) hk2
    · exact wp_nR ⟨opn p (i + 1), by rw [hop, if_neg ‹_›, if_pos ‹_›], next _ hk2 hn2 ⟨fun _ => by omega, fun _ => by omega⟩⟩
    · exact wp_nR ⟨opn p (i + 1), by rw [hop, if_neg ‹_›, if_neg ‹_›], next _ hk2 hn2 ⟨fun _ => by omega, fun _ => by omega⟩⟩
  · rintro _ H1 ⟨rfl, hk, hnm, hsh⟩
    with_reducible repeat' (first | refine wp_finF ?_ | refine wp_uA ?_ | refine wp_uI ?_ | refine wp_uB ?_ | refine wp_uL ?_ | refine wp_uS ?_ | refine wp_uP ?_ | refine wp_uc ?_ | refine wp_nl ?_ | refine wp_asB ?_ | refine wp_asI ?_ | refine wp_asSl ?_ | refine wp_asT ?_ | refine wp_asA ?_ | refine wp_asS ?_ | refine wp_asP ?_ | refine wp_jn ?_ | refine wp_nN ?_ | refine wp_rN ?_ | refine wp_xN ?_ | refine wp_nB ?_ | refine wp_rB ?_ | refine wp_xB rfl ?_ | refine wp_xB' rfl ?_ | refine wp_bB ?_ | refine wp_rX ?_ | refine wp_xX ?_ | refine wp_rE ?_ | refine wp_xE ?_ | refine wp_rR ?_ | refine wp_xR ?_ | refine wp_r0 ?_ | refine wp_x0 ?_ | refine wp_rF ?_ | refine wp_rF0 ?_ | refine wp_rF2 ?_ | refine wp_rF3 ?_ | refine wp_rF4 ?_)
    by_cases hneg : opn p p.length < 0
    · rw [decide_eq_true hneg]
      exact h1 _ _ ⟨fun i hi => hsh i hi hi, hneg⟩ (Nat.le_refl _) hk (spW_all ▸ hnm)
    · rw [decide_eq_false hneg]
      exact h2 _ _ (fun hh => hneg hh.2) hk
theorem code_lands_wp {D : HV → List HV → M HV} {H : Heap} {Q : HV → Heap → Prop} {s t : Sl} {p : List Ins} {w : List Int} (hs : RProg H s p) (ht : RInts H t w) (hw : w.length = p.length) {i : Nat} (hi : i < p.length)
    (h : ∀ z : Bool, (z = true ↔ (i : Int) < (p[i]).a ∧ (p[i]).a ≤ p.length ∧ ((p[i]).a = p.length → w[i] < 0) ∧ ((p[i]).a < p.length → w.getD (p[i]).a.toNat 0 = w[i])) → Q (.bool z) H) : wp (f_code_lands D [.sl s, .sl t, I i]) Q H := by
  unfold f_code_lands
  have hlen := hs.len
  have hiw : i < w.length := by omega
  with_reducible repeat' (first | refine wp_finF ?_ | refine wp_uA ?_ | refine wp_uI ?_ | refine wp_uB ?_ | refine wp_uL ?_ | refine wp_uS ?_ | refine wp_uP ?_ | refine wp_uc ?_ | refine wp_nl ?_ | refine wp_asB ?_ | refine wp_asI ?_ | refine wp_asSl ?_ | refine wp_asT ?_ | refine wp_asA ?_ | refine wp_asS ?_ | refine wp_asP ?_ | refine wp_jn ?_ | refine wp_nN ?_ | refine wp_rN ?_ | refine wp_xN ?_ | refine wp_nB ?_ | refine wp_rB ?_ | refine wp_xB rfl ?_ | refine wp_xB' rfl ?_ | refine wp_bB ?_ | refine wp_rX ?_ | refine wp_xX ?_ | refine wp_rE ?_ | refine wp_xE ?_ | refine wp_rR ?_ | refine wp_xR ?_ | refine wp_r0 ?_ | refine wp_x0 ?_ | refine wp_rF ?_ | refine wp_rF0 ?_ | refine wp_rF2 ?_ | refine wp_rF3 ?_ | refine wp_rF4 ?_)
  refine wp_atF hs hi (k := 1) (v := I (p[i]).a) rfl fun _ _ => ?_
  with_reducible repeat' (first | refine wp_finF ?_ | refine wp_uA ?_ | refine wp_uI ?_ | refine wp_uB ?_ | refine wp_uL ?_ | refine wp_uS ?_ | refine wp_uP ?_ | refine wp_uc ?_ | refine wp_nl ?_ | refine wp_asB ?_ | refine wp_asI ?_ | refine wp_asSl ?_ | refine wp_asT ?_ | refine wp_asA ?_ | refine wp_asS ?_ | refine wp_asP ?_ | refine wp_jn ?_ | refine wp_nN ?_ | refine wp_rN ?_ | refine wp_xN ?_ | refine wp_nB ?_ | refine wp_rB ?_ | refine wp_xB rfl ?_ | refine wp_xB' rfl ?_ | refine wp_bB ?_ | refine wp_rX ?_ | refine wp_xX ?_ | refine wp_rE ?_ | refine wp_xE ?_ | refine wp_rR ?_ | refine wp_xR ?_ | refine wp_r0 ?_ | refine wp_x0 ?_ | refine wp_rF ?_ | refine wp_rF0 ?_ | refine wp_rF2 ?_ | refine wp_rF3 ?_ | refine wp_rF4 ?_ | refine wp_condT ?_ | refine wp_condF ?_ | refine wp_condNT ?_ | refine wp_condNF ?_ | refine wp_condD (fun _ => ?_) (fun _ => ?_) | refine wp_condE (fun _ => ?_) (fun _ => ?_) | refine wp_condNE (fun _ => ?_) (fun _ => ?_) | refine wp_condN (fun _ => ?_) (fun _ => ?_) | refine wp_cond (fun _ => ?_) (fun _ => ?_) | refine wp_atI ht hiw fun _ _ => ?_)
  · refine h _ ⟨fun hh => (by cases hh), fun hh => ?_⟩; omega
  · rename_i h1 h2
    refine h _ ⟨fun hh => (by cases hh), fun hh => ?_⟩
    rw [hlen] at h2; simp at h2; omega
  · rename_i h1 h2 h3 _ _
    rw [hlen] at h2 h3; simp at h2
    refine h _ ?_
    rw [decide_eq_true_eq]
    refine ⟨fun hh => ⟨by omega, by omega, fun _ => hh, fun _ => by omega⟩, fun hh => hh.2.2.1 h3⟩
  · rename_i h1 h2 h3
    rw [hlen] at h2 h3; simp at h2
    obtain ⟨a, ha⟩ : ∃ a : Nat, (p[i]).a = a := ⟨(p[i]).a.toNat, by omega⟩
    have hal : a < w.length := by omega
    rw [ha]
    refine wp_atI ht hal fun _ _ => ?_
    with_reducible repeat' (first | refine wp_finF ?_ | refine wp_uA ?_ | refine wp_uI ?_ | refine wp_uB ?_ | refine wp_uL ?_ | refine wp_uS ?_ | refine wp_uP ?_ | refine wp_uc ?_ | refine wp_nl ?_ | refine wp_asB ?_ | refine wp_asI ?_ | refine wp_asSl ?_ | refine wp_asT ?_ | refine wp_asA ?_ | refine wp_asS ?_ | refine wp_asP ?_ | refine wp_jn ?_ | refine wp_nN ?_ | refine wp_rN ?_ | refine wp_xN ?_ | refine wp_nB ?_ | refine wp_rB ?_ | refine wp_xB rfl ?_ | refine wp_xB' rfl ?_ | refine wp_bB ?_ | refine wp_rX ?_ | refine wp_xX ?_ | refine wp_rE ?_ | refine wp_xE ?_ | refine wp_rR ?_ | refine wp_xR ?_ | refine wp_r0 ?_ | refine wp_x0 ?_ | refine wp_rF ?_ | refine wp_rF0 ?_ | refine wp_rF2 ?_ | refine wp_rF3 ?_ | refine wp_rF4 ?_ | refine wp_condT ?_ | refine wp_condF ?_ | refine wp_condNT ?_ | refine wp_condNF ?_ | refine wp_condD (fun _ => ?_) (fun _ => ?_) | refine wp_condE (fun _ => ?_) (fun _ => ?_) | refine wp_condNE (fun _ => ?_) (fun _ => ?_) | refine wp_condN (fun _ => ?_) (fun _ => ?_) | refine wp_cond (fun _ => ?_) (fun _ => ?_) | refine wp_atI ht hiw fun _ _ => ?_)
    refine h _ ?_
    rw [beq_iff_eq, ha, Int.toNat_natCast, List.getD_eq_getElem?_getD, List.getElem?_eq_getElem hal]
    simp only [Option.getD_some]
    exact ⟨fun hh => ⟨by omega, by omega, fun _ => by omega, fun _ => hh⟩, fun hh => hh.2.2.2 (by omega)⟩
end Go.Proofs.Ytolchnaegifckaa.HQ
