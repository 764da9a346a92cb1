/- Lemmas for the row. Conditions: none. -/
import Derived.Test.YtbphjihgbenkdaaGreatHQZt
import Derived.Test.YtbphjihgbenkdaaGreatHQMe
namespace Go.Proofs.YtbphjihgbenkdaaGreat.HQ
set_option linter.unusedVariables false
set_option linter.unusedSectionVars false
set_option linter.unusedSimpArgs false
open Go Go.ChangeShapes
theorem trod_len {Hd : Type} {enc : TypeId × Value → Hd} {P : Program} {w : World} {base : Nat} {spare : Nat → Bool} {held : Bool} : ∀ {ts : List TypeId} {vs : List Value} {ds : List (DataW Hd)} {ps : List MemPlace}, DataW.TrodAll enc P w base spare held ts vs ds ps → ds.length = ts.length
 | [], _, _, _, h => by
  obtain ⟨_, rfl, _⟩ := trodAll_nil h
  rfl
 | _ :: _, _, _, _, h => by
  obtain ⟨_, _, _, _, _, _, _, rfl, _, _, h2⟩ := trodAll_cons h
  rw [List.length_cons, List.length_cons, trod_len h2]
theorem choose_map {α β : Type} {f : β → α} {p : β → Prop} : ∀ {ls : List α}, (∀ x ∈ ls, ∃ d, x = f d ∧ p d) → ∃ l : List β, ls = l.map f ∧ ∀ d ∈ l, p d
 | [], _ => ⟨[], rfl, by simp⟩
 | x :: ls, h => by
  obtain ⟨d, rfl, hd⟩ := h x List.mem_cons_self
  obtain ⟨l, rfl, hl⟩ := choose_map (ls := ls) (fun y hy => h y (List.mem_cons_of_mem _ hy))
  exact ⟨d :: l, rfl, fun y hy => by
   rcases List.mem_cons.1 hy with rfl | hy
   ·exact hd
   ·exact hl y hy⟩
section
variable {P : Program} {H : Heap}
theorem Ty.sliceN {n : Nat} {t e : TypeId} {cs : List HV} (hro : ∀ b cs ro, H.get b = .cells cs ro → ro = true ∧ b < H.n) (hu : P.underlying t = some (.slice e)) (h : Ty P H (n + 1) t cs) :
  ∃ s ls, cs = [.sl s] ∧ SlR H s (sizeT P e) ls ∧ s.opn = none ∧ ∀ l ∈ ls, Ty P H n e l := by
 unfold Ty at h
 rw [hu] at h
 rcases h with rfl | ⟨b, len, cap, obj, rfl, hg, hl, hle, hmx, ht⟩
 ·exact ⟨_, [], rfl, ⟨rfl, by simp, Nat.le_refl _, .inl rfl, by simp, .inl ⟨rfl, rfl⟩⟩, rfl, by simp⟩
 ·have hmx' : cap ≤ 9223372036854775807 := hmx
  refine ⟨_, (List.range len).map fun i => (obj.drop (i * sizeT P e)).take (sizeT P e), rfl, ⟨by simp, by simp; omega, hle, .inl rfl, ?_, .inr ⟨b, 0, obj, true, rfl, (hro b _ _ hg).2, hg, ?_, ?_⟩⟩, rfl, ?_⟩
  ·intro l hl2
   obtain ⟨i, hi, rfl⟩ := List.mem_map.1 hl2
   have hi : i < len := by simpa using hi
   have hm : (i + 1) * sizeT P e ≤ cap * sizeT P e := Nat.mul_le_mul_right _ (by omega)
   rw [Nat.succ_mul] at hm
   rw [List.length_take, List.length_drop, hl]; omega
  ·have := Nat.mul_le_mul_right (sizeT P e) hle
   simp; omega
  ·have key : ∀ k, k ≤ len → obj.take (k * sizeT P e) = ((List.range k).map fun i => (obj.drop (i * sizeT P e)).take (sizeT P e)).flatten := by
    intro k
    induction k with
    | zero => intro _; simp
    | succ k ih =>
     intro hk
     rw [List.range_succ, List.map_append, List.flatten_append, ← ih (by omega), Nat.succ_mul, List.take_add]
     simp
   simp only [List.drop_zero, List.length_map, List.length_range]
   exact key len (Nat.le_refl _)
  ·intro l hl2
   obtain ⟨i, hi, rfl⟩ := List.mem_map.1 hl2
   have hi : i < len := by simpa using hi
   exact ht i (by omega)
theorem Ty.slice {n : Nat} {t e : TypeId} {cs : List HV} (hro : ∀ b cs ro, H.get b = .cells cs ro → ro = true ∧ b < H.n) (hu : P.underlying t = some (.slice e)) (h : Ty P H (n + 1) t cs) :
  ∃ s ls, cs = [.sl s] ∧ SlR H s (sizeT P e) ls ∧ ∀ l ∈ ls, Ty P H n e l := by
 obtain ⟨s, ls, h1, h2, _, h3⟩ := h.sliceN hro hu
 exact ⟨s, ls, h1, h2, h3⟩
theorem Ty.int {n : Nat} {t : TypeId} {k : IntKind} {cs : List HV} (hu : P.underlying t = some (.int k)) (h : Ty P H (n + 1) t cs) : ∃ x, cs = [.int k x] ∧ k.min ≤ x ∧ x ≤ k.max := by
 unfold Ty at h; rw [hu] at h; exact h
theorem Ty.struct {n : Nat} {t : TypeId} {fs : Array Field} {cs : List HV} (hu : P.underlying t = some (.struct fs)) (h : Ty P H (n + 1) t cs) :
  cs.length = sizeT P t ∧ ∀ (i : Nat) (f : Field), fs[i]? = some f → Ty P H n f.type ((cs.drop f.offset).take (sizeT P f.type)) := by
 unfold Ty at h; rw [hu] at h; exact h
def fieldAt (P : Program) (t : TypeId) (i : Nat) : Option (TypeId × Nat) := match P.underlying t with
 | some (.struct fs) => fs[i]?.map fun f => (f.type, f.offset)
 | _ => none
theorem Ty.field {n i : Nat} {t ft : TypeId} {off : Nat} {cs : List HV} (hu : fieldAt P t i = some (ft, off)) (h : Ty P H (n + 1) t cs) : cs.length = sizeT P t ∧ Ty P H n ft ((cs.drop off).take (sizeT P ft)) := by
 unfold fieldAt at hu
 split at hu
 ·rename_i fs e
  obtain ⟨h1, h2⟩ := h.struct e
  cases hf : fs[i]? with
  | none => rw [hf] at hu; cases hu
  | some f =>
   rw [hf] at hu
   have := Option.some.inj hu
   have h3 := congrArg Prod.fst this
   have h4 := congrArg Prod.snd this
   simp only at h3 h4
   subst h3; subst h4
   exact ⟨h1, h2 i f hf⟩
 ·cases hu
theorem ArgTy.ty {n : Nat} {t : TypeId} {x : HV} (h : ArgTy P H n t x) (ha : agOf P t = some false) : Ty P H n t [x] := by
 unfold ArgTy at h
 rw [ha] at h; exact h
end
end Go.Proofs.YtbphjihgbenkdaaGreat.HQ
