/- What came in, read off its types. Conditions: none (lemmas). -/
import Derived.Test.YtijppadieomnjaaHMZb
import Derived.Test.YtijppadieomnjaaHMMc
import Derived.Test.YtijppadieomnjaaHMMq
namespace Go.Proofs.Ytijppadieomnjaa.HM
open Go Go.ChangeShapes

theorem trod_len {Hd : Type} {enc : TypeId × Value → Hd} {P : Program} {w : World} {base : Nat} {spare : Nat → Bool} {held : Bool} : ∀ {ts : List TypeId} {vs : List Value} {ds : List (DataW Hd)} {ps : List MemPlace}, DataW.TrodAll enc P w base spare held ts vs ds ps → ds.length = ts.length
  | [], _, _, _, h => by
    obtain ⟨_, rfl, _⟩ := trodAll_nil h
    rfl
  | _ :: _, _, _, _, h => by
    obtain ⟨_, _, _, _, _, _, _, rfl, _, _, h2⟩ := trodAll_cons h
    rw [List.length_cons, List.length_cons, trod_len h2]
theorem choose_map {α β : Type} {f : β → α} {p : β → Prop} : ∀ {ls : List α}, (∀ x ∈ ls, ∃ d, x = f d ∧ p d) → ∃ l : List β, ls = l.map f ∧ ∀ d ∈ l, p d
  | [], _ => ⟨[], rfl, by simp⟩
  | x :: ls, h => by
    obtain ⟨d, rfl, hd⟩ := h x List.mem_cons_self
    obtain ⟨l, rfl, hl⟩ := choose_map (ls := ls) (fun y hy => h y (List.mem_cons_of_mem _ hy))
    exact ⟨d :: l, rfl, fun y hy => by
      rcases List.mem_cons.1 hy with rfl | hy
      · exact hd
      · exact hl y hy⟩
section
variable {P : Program} {H : Heap}
theorem Ty.slice {n : Nat} {t e : TypeId} {cs : List HV} (hro : ∀ b cs ro, H.get b = .cells cs ro → ro = true ∧ b < H.n) (hu : P.underlying t = some (.slice e)) (h : Ty P H (n + 1) t cs) :
    ∃ s ls, cs = [.sl s] ∧ SlR H s (sizeT P e) ls ∧ ∀ l ∈ ls, Ty P H n e l := by
  unfold Ty at h
  rw [hu] at h
  rcases h with rfl | ⟨b, len, cap, obj, rfl, hg, hl, hle, hmx, ht⟩
  · exact ⟨_, [], rfl, ⟨rfl, by simp, Nat.le_refl _, .inl rfl, by simp, .inl ⟨rfl, rfl⟩⟩, by simp⟩
  · have hmx' : cap ≤ 9223372036854775807 := hmx
    refine ⟨_, (List.range len).map fun i => (obj.drop (i * sizeT P e)).take (sizeT P e), rfl, ⟨by simp, by simp; omega, hle, .inl rfl, ?_, .inr ⟨b, 0, obj, true, rfl, (hro b _ _ hg).2, hg, ?_, ?_⟩⟩, ?_⟩
    · intro l hl2
      obtain ⟨i, hi, rfl⟩ := List.mem_map.1 hl2
      have hi : i < len := by simpa using hi
      have hm : (i + 1) * sizeT P e ≤ cap * sizeT P e := Nat.mul_le_mul_right _ (by omega)
      rw [Nat.succ_mul] at hm
      rw [List.length_take, List.length_drop, hl]; omega
    · have := Nat.mul_le_mul_right (sizeT P e) hle
      simp; omega
    · have key : ∀ k, k ≤ len → obj.take (k * sizeT P e) = ((List.range k).map fun i => (obj.drop (i * sizeT P e)).take (sizeT P e)).flatten := by
        intro k
        induction k with
        | zero => intro _; simp
        | succ k ih =>
          intro hk
          rw [List.range_succ, List.map_append, List.flatten_append, ← ih (by omega), Nat.succ_mul, List.take_add]
          simp
      simp only [List.drop_zero, List.length_map, List.length_range]
      exact key len (Nat.le_refl _)
    · intro l hl2
      obtain ⟨i, hi, rfl⟩ := List.mem_map.1 hl2
      have hi : i < len := by simpa using hi
      exact ht i (by omega)
theorem Ty.int {n : Nat} {t : TypeId} {k : IntKind} {cs : List HV} (hu : P.underlying t = some (.int k)) (h : Ty P H (n + 1) t cs) : ∃ x, cs = [.int k x] ∧ k.min ≤ x ∧ x ≤ k.max := by
  unfold Ty at h; rw [hu] at h; exact h
theorem Ty.str {n : Nat} {t : TypeId} {cs : List HV} (hu : P.underlying t = some .string) (h : Ty P H (n + 1) t cs) : ∃ s : ByteArray, cs = [.str s] ∧ s.size ≤ maxLen := by
  unfold Ty at h; rw [hu] at h; exact h
theorem Ty.struct {n : Nat} {t : TypeId} {fs : Array Field} {cs : List HV} (hu : P.underlying t = some (.struct fs)) (h : Ty P H (n + 1) t cs) :
    cs.length = sizeT P t ∧ ∀ (i : Nat) (f : Field), fs[i]? = some f → Ty P H n f.type ((cs.drop f.offset).take (sizeT P f.type)) := by
  unfold Ty at h; rw [hu] at h; exact h
def fieldAt (P : Program) (t : TypeId) (i : Nat) : Option (TypeId × Nat) := match P.underlying t with
  | some (.struct fs) => fs[i]?.map fun f => (f.type, f.offset)
  | _ => none
theorem Ty.field {n i : Nat} {t ft : TypeId} {off : Nat} {cs : List HV} (hu : fieldAt P t i = some (ft, off)) (h : Ty P H (n + 1) t cs) : cs.length = sizeT P t ∧ Ty P H n ft ((cs.drop off).take (sizeT P ft)) := by
  unfold fieldAt at hu
  split at hu
  · rename_i fs e
    obtain ⟨h1, h2⟩ := h.struct e
    cases hf : fs[i]? with
    | none => rw [hf] at hu; cases hu
    | some f =>
      rw [hf] at hu
      have := Option.some.inj hu
      have h3 := congrArg Prod.fst this
      have h4 := congrArg Prod.snd this
      simp only at h3 h4
      subst h3; subst h4
      exact ⟨h1, h2 i f hf⟩
  · cases hu
theorem ArgTy.ty {n : Nat} {t : TypeId} {x : HV} (h : ArgTy P H n t x) (ha : agOf P t = some false) : Ty P H n t [x] := by
  unfold ArgTy at h
  rw [ha] at h; exact h
theorem ArgTy.ag {n : Nat} {t : TypeId} {x : HV} (h : ArgTy P H n t x) (ha : agOf P t = some true) : ∃ cs, x = .agg cs ∧ Ty P H n t cs := by
  unfold ArgTy at h
  rw [ha] at h; exact h
theorem i64_bounds {x : Int} (h1 : IntKind.min .i64 ≤ x) (h2 : x ≤ IntKind.max .i64) : -9223372036854775808 ≤ x ∧ x ≤ 9223372036854775807 := ⟨h1, h2⟩
end
end Go.Proofs.Ytijppadieomnjaa.HM
namespace Go.Proofs.Ytijppadieomnjaa.HM
open Go

section
variable {P : Program} {H : Heap}
theorem Ty.arr {n m : Nat} {t e : TypeId} {cs : List HV} (hu : P.underlying t = some (.array m e)) (h : Ty P H (n + 1) t cs) : cs.length = m * sizeT P e ∧ ∀ i, i < m → Ty P H n e ((cs.drop (i * sizeT P e)).take (sizeT P e)) := by
  unfold Ty at h; rw [hu] at h; exact h
theorem cut_at {cs l : List HV} {o n i : Nat} {v : HV} (e : (cs.drop o).take n = l) (hi : i < n) (h : l[i]? = some v) : cs[o + i]? = some v := by
  rw [← e, List.getElem?_take, if_pos hi, List.getElem?_drop] at h; exact h
theorem Ty.cellsI {n m : Nat} {t e : TypeId} {k : IntKind} {cs : List HV} (hu : P.underlying t = some (.array m e)) (he : P.underlying e = some (.int k)) (hz : sizeT P e = 1) (h : Ty P H (n + 2) t cs) :
    cs.length = m ∧ ∃ f : Nat → Int, ∀ i, i < m → cs[i]? = some (.int k (f i)) := by
  obtain ⟨h1, h2⟩ := h.arr hu
  rw [hz] at h1 h2
  have key : ∀ i, ∃ v, i < m → cs[i]? = some (.int k v) := fun i => by
    by_cases hi : i < m
    · obtain ⟨v, hv, _⟩ := (h2 i hi).int he
      exact ⟨v, fun _ => by have := cut_at hv (i := 0) (by omega) rfl; rwa [Nat.mul_one] at this⟩
    · exact ⟨0, fun h => absurd h hi⟩
  exact ⟨by omega, fun i => Classical.choose (key i), fun i hi => Classical.choose_spec (key i) hi⟩
theorem Ty.cellsS {n m : Nat} {t e : TypeId} {cs : List HV} (hu : P.underlying t = some (.array m e)) (he : P.underlying e = some .string) (hz : sizeT P e = 1) (h : Ty P H (n + 2) t cs) :
    cs.length = m ∧ ∃ f : Nat → ByteArray, ∀ i, i < m → cs[i]? = some (.str (f i)) := by
  obtain ⟨h1, h2⟩ := h.arr hu
  rw [hz] at h1 h2
  have key : ∀ i, ∃ v, i < m → cs[i]? = some (.str v) := fun i => by
    by_cases hi : i < m
    · obtain ⟨v, hv, _⟩ := (h2 i hi).str he
      exact ⟨v, fun _ => by have := cut_at hv (i := 0) (by omega) rfl; rwa [Nat.mul_one] at this⟩
    · exact ⟨ByteArray.mk #[], fun h => absurd h hi⟩
  exact ⟨by omega, fun i => Classical.choose (key i), fun i hi => Classical.choose_spec (key i) hi⟩
theorem Ty.bool' {n : Nat} {t : TypeId} {cs : List HV} (hu : P.underlying t = some .bool) (h : Ty P H (n + 1) t cs) : ∃ b, cs = [.bool b] := by
  unfold Ty at h; rw [hu] at h; exact h
theorem Ty.cellsF {n m : Nat} {t e tb ts : TypeId} {cs : List HV} (hu : P.underlying t = some (.array m e)) (f0 : fieldAt P e 0 = some (tb, 0)) (f1 : fieldAt P e 1 = some (ts, 1)) (hb : P.underlying tb = some .bool) (hs : P.underlying ts = some .string)
    (hz : sizeT P e = 2) (hzb : sizeT P tb = 1) (hzs : sizeT P ts = 1) (h : Ty P H (n + 3) t cs) :
    cs.length = m * 2 ∧ ∃ f : Nat → Bool × ByteArray, ∀ i, i < m → cs[i * 2]? = some (.bool (f i).1) ∧ cs[i * 2 + 1]? = some (.str (f i).2) := by
  obtain ⟨h1, h2⟩ := h.arr hu
  rw [hz] at h1 h2
  have key : ∀ i, ∃ v : Bool × ByteArray, i < m → cs[i * 2]? = some (.bool v.1) ∧ cs[i * 2 + 1]? = some (.str v.2) := fun i => by
    by_cases hi : i < m
    · have h3 := ((h2 i hi).field f0).2
      have h4 := ((h2 i hi).field f1).2
      rw [hzb] at h3
      rw [hzs] at h4
      obtain ⟨b, hb'⟩ := h3.bool' hb
      obtain ⟨s, hs', _⟩ := h4.str hs
      refine ⟨(b, s), fun _ => ⟨?_, ?_⟩⟩
      · have := cut_at hb' (i := 0) (by omega) rfl
        exact cut_at rfl (i := 0) (n := 2) (by omega) this
      · have := cut_at hs' (i := 0) (by omega) rfl
        exact cut_at rfl (i := 1) (n := 2) (by omega) this
    · exact ⟨(false, ByteArray.mk #[]), fun h => absurd h hi⟩
  exact ⟨h1, fun i => Classical.choose (key i), fun i hi => Classical.choose_spec (key i) hi⟩
theorem regL_of {cs : List HV} {f : Nat → Int} (hl : cs.length = 4) (h : ∀ i, i < 4 → cs[i]? = some (I (f i))) : cs = regL f := by
  refine List.ext_getElem? fun i => ?_
  by_cases hi : i < 4
  · rw [h i hi]; rcases lt4 hi with rfl | rfl | rfl | rfl <;> rfl
  · rw [List.getElem?_eq_none (by omega), List.getElem?_eq_none (by simp; omega)]
/-- a model that came in. -/
theorem moL_of {cs : List HV} {fc fp fta : Nat → Int} {ff : Nat → Bool × ByteArray} {ftx fout : Nat → ByteArray} (hl : cs.length = 33)
    (hc : ∀ i, i < 8 → ((((cs.drop 0).take 23).drop 0).take 8)[i]? = some (I (fc i))) (hf : ∀ i, i < 6 → ((((cs.drop 0).take 23).drop 8).take 12)[i * 2]? = some (.bool (ff i).1) ∧ ((((cs.drop 0).take 23).drop 8).take 12)[i * 2 + 1]? = some (.str (ff i).2)) (hp : ∀ i, i < 3 → ((((cs.drop 0).take 23).drop 20).take 3)[i]? = some (I (fp i)))
    (htx : ∀ i, i < 3 → ((cs.drop 23).take 3)[i]? = some (.str (ftx i))) (hout : ∀ i, i < 3 → ((cs.drop 26).take 3)[i]? = some (.str (fout i))) (hta : ∀ i, i < 4 → ((cs.drop 29).take 4)[i]? = some (I (fta i))) :
    MoL cs ⟨⟨fc, ff, fp⟩, ftx, fout, fta, fun _ => ByteArray.mk #[], fun _ => 0, 0⟩ := by
  simp only [List.drop_zero] at hc hf hp
  refine ⟨hl, ⟨by simp; omega, fun i hi => ?_, fun i hi => ⟨?_, ?_⟩, fun i hi => ?_⟩, fun i hi => ?_, fun i hi => ?_, fun i hi => ?_⟩
  · have := hc i hi
    rwa [List.getElem?_take, if_pos hi] at this
  · have := cut_at rfl (by omega) (hf i hi).1
    exact this
  · have := cut_at rfl (by omega) (hf i hi).2
    exact this
  · exact cut_at rfl (by omega) (hp i hi)
  · exact cut_at rfl (by omega) (htx i hi)
  · exact cut_at rfl (by omega) (hout i hi)
  · exact cut_at rfl (by omega) (hta i hi)
end
end Go.Proofs.Ytijppadieomnjaa.HM
