/- wp over loops over functions. Conditions: none (lemmas). -/
import Derived.Test.YtbphjihgbenkdaaGreatHLMd
import Derived.Test.YtbphjihgbenkdaaGreatHLZd
namespace Go.Proofs.YtbphjihgbenkdaaGreat.HL
open Go
section
variable {α : Type} {H : Heap} {Q : α → Heap → Prop}
theorem wp_nwL {k : Nat} {vs : List (Nat × HV)} {f : Nat → M α} (h : wp (f H.n) Q (H.push (.spc (.loop k vs .ready none)))) : wp (nwL k vs f) Q H := h
theorem wp_busyL {l k : Nat} {vs : List (Nat × HV)} {pd : Option Code} {m : M α} (hg : H.get l = .spc (.loop k vs .ready pd)) (h : wp m Q (H.set l (.spc (.loop k vs .busy pd)))) : wp (busyL l m) Q H :=
  wp_of (fun n => by unfold busyL; rw [hg]) h
theorem wp_doneL {l k : Nat} {vs : List (Nat × HV)} {st st' : LoopState} {pd pd' : Option Code} {m : M α} (hg : H.get l = .spc (.loop k vs st pd)) (h : wp m Q (H.set l (.spc (.loop k vs st' pd')))) : wp (doneL l st' pd' m) Q H :=
  wp_of (fun n => by unfold doneL; rw [hg]) h
theorem wp_endL0 {l k : Nat} {vs : List (Nat × HV)} {st : LoopState} {K0 Kr : M α} {Kx : Nat → M α} (hg : H.get l = .spc (.loop k vs st none)) (hb : st ≠ .busy) (h : wp K0 Q (H.set l (.spc (.loop k vs .exhausted none)))) : wp (endL l K0 Kx Kr) Q H :=
  wp_of (fun n => by unfold endL; rw [hg]; cases st <;> first | rfl | exact absurd rfl hb) h
theorem wp_endLr {l k : Nat} {vs : List (Nat × HV)} {st : LoopState} {K0 Kr : M α} {Kx : Nat → M α} (hg : H.get l = .spc (.loop k vs st (some .ret))) (hb : st ≠ .busy) (h : wp Kr Q (H.set l (.spc (.loop k vs .exhausted (some .ret))))) : wp (endL l K0 Kx Kr) Q H :=
  wp_of (fun n => by unfold endL; rw [hg]; cases st <;> first | rfl | exact absurd rfl hb) h
theorem wp_endLx {l k id : Nat} {vs : List (Nat × HV)} {st : LoopState} {K0 Kr : M α} {Kx : Nat → M α} (hg : H.get l = .spc (.loop k vs st (some (.exit id)))) (hb : st ≠ .busy) (h : wp (Kx id) Q (H.set l (.spc (.loop k vs .exhausted (some (.exit id)))))) : wp (endL l K0 Kx Kr) Q H :=
  wp_of (fun n => by unfold endL; rw [hg]; cases st <;> first | rfl | exact absurd rfl hb) h
theorem wp_onX {i : Nat} {m : M α} {f : Nat → M α} (h : wp m Q H) : wp (onX i m f i) Q H := by
  unfold onX; rw [Nat.beq_refl]; exact h
theorem wp_gdS {sl : List Nat} {vs : List (Nat × HV)} {f : List HV → M α} (hs : vs.map Prod.fst = sl) (h : wp (f (vs.map Prod.snd)) Q H) : wp (gdS sl vs f) Q H := by
  unfold gdS; rw [decide_eq_true hs]; exact h
end

/-- how a round's body is left. -/
def PRnd (l : Nat) (Q : HV → Heap → Prop) : Leaf → Heap → Prop := fun lf H => match lf with
  | .norm _ => ∃ k vs st pd, H.get l = .spc (.loop k vs st pd) ∧ Q (.bool true) (H.set l (.spc (.loop k vs .ready none)))
  | .exit id _ => ∃ k vs st pd, H.get l = .spc (.loop k vs st pd) ∧ Q (.bool false) (H.set l (.spc (.loop k vs .done (some (.exit id)))))
  | .ret _ => ∃ k vs st pd, H.get l = .spc (.loop k vs st pd) ∧ Q (.bool false) (H.set l (.spc (.loop k vs .done (some .ret))))
section
variable {H : Heap} {Q : HV → Heap → Prop} {l : Nat}
theorem wp_roundL {m : M Leaf} (h : wp m (PRnd l Q) H) : wp (roundL l m) Q H := by
  obtain ⟨n0, a, H', h1, h2⟩ := h
  have key : ∀ {st' : LoopState} {pd' : Option Code} {b : Bool}, (∃ k vs st pd, H'.get l = .spc (.loop k vs st pd) ∧ Q (.bool b) (H'.set l (.spc (.loop k vs st' pd')))) → wp (doneL l st' pd' (ret (.bool b))) Q H' :=
    fun ⟨k, vs, st, pd, g, q⟩ => wp_doneL g (wp_ret q)
  cases a with
  | norm vs =>
    obtain ⟨n1, b, H2, g1, g2⟩ := key h2
    exact ⟨n0 + n1, b, H2, fun n hn => by unfold roundL; rw [h1 n (by omega)]; exact g1 n (by omega), g2⟩
  | exit id vs =>
    obtain ⟨n1, b, H2, g1, g2⟩ := key h2
    exact ⟨n0 + n1, b, H2, fun n hn => by unfold roundL; rw [h1 n (by omega)]; exact g1 n (by omega), g2⟩
  | ret vs =>
    obtain ⟨n1, b, H2, g1, g2⟩ := key h2
    exact ⟨n0 + n1, b, H2, fun n hn => by unfold roundL; rw [h1 n (by omega)]; exact g1 n (by omega), g2⟩
theorem wp_rnd {cl : List (Nat × Clo)} {rn : List (Nat × Rnd)} {D : DD} {args : List HV} {k : Nat} {vs : List (Nat × HV)} {st : LoopState} {pd : Option Code} {m : Rnd} (hg : H.get l = .spc (.loop k vs st pd)) (hm : lkA rn k = some m)
    (h : wp (m D l vs args) (PRnd l Q) H) : wp (stepD cl rn D (.yld l) args) Q H := by
  refine wp_of (m' := roundL l (m D l vs args)) (H' := H) (fun n => ?_) (wp_roundL h)
  show rndD rn D l args H n = _
  unfold rndD; rw [hg]; simp only [hm]
theorem wp_clo {cl : List (Nat × Clo)} {rn : List (Nat × Rnd)} {D : DD} {args first cap : List HV} {i : Nat} {g : Clo} (hm : lkA cl i = some g) (h : wp (g D (first ++ args ++ cap)) Q H) : wp (stepD cl rn D (.func i first cap) args) Q H := by
  unfold stepD; simp only [hm]; exact h
end

/-- all but the blocks of M is as it was. -/
structure But (M : Nat → Prop) (H H' : Heap) : Prop where
  n : H.n ≤ H'.n
  get : ∀ b, b < H.n → ¬ M b → H'.get b = H.get b
theorem But.refl (M : Nat → Prop) (H : Heap) : But M H H := ⟨Nat.le_refl _, fun _ _ _ => rfl⟩
theorem But.trans {M : Nat → Prop} {H1 H2 H3 : Heap} (a : But M H1 H2) (b : But M H2 H3) : But M H1 H3 :=
  ⟨Nat.le_trans a.n b.n, fun x hx hm => (b.get x (Nat.lt_of_lt_of_le hx a.n) hm).trans (a.get x hx hm)⟩
theorem Keeps.but {M : Nat → Prop} {H H' : Heap} (h : Keeps H H') : But M H H' := ⟨h.n, fun b hb _ => h.get b hb⟩
theorem But.set {M : Nat → Prop} {H H' : Heap} (h : But M H H') {b : Nat} (hb : M b) (o : HObj) : But M H (H'.set b o) :=
  ⟨h.n, fun x hx hm => by simp only [Heap.set]; rw [if_neg (fun e => hm (by rw [← e] at hb; exact hb))]; exact h.get x hx hm⟩

theorem Rows.but {β : Type} {f : β → List HV} {sz : Nat} {M : Nat → Prop} {H H' : Heap} {s : Sl} {l : List β} (h : Rows f sz H s l) (hb : But M H H') (hm : ∀ b o, s.p = some (b, o) → ¬ M b) : Rows f sz H' s l := by
  have h : SlR H s sz (l.map f) := h
  refine (⟨h.len, h.lt, h.cap, h.opn, h.szs, ?_⟩ : SlR H' s sz (l.map f))
  rcases h.mem with h1 | ⟨b, o, cs, ro, h1, h2, h3, h4⟩
  · exact .inl h1
  · exact .inr ⟨b, o, cs, ro, h1, Nat.lt_of_lt_of_le h2 hb.n, by rw [hb.get b h2 (hm b o h1)]; exact h3, h4⟩

end Go.Proofs.YtbphjihgbenkdaaGreat.HL
