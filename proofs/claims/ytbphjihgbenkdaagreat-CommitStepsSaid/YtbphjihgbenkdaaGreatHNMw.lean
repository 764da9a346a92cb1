/- A calculus of runs by instances; local memory, told place by place. Conditions: none (lemmas). -/
import Derived.Test.YtbphjihgbenkdaaGreatHNMe
namespace Go.Proofs.YtbphjihgbenkdaaGreat.HN
open Go
class W {α : Type} (m : M α) (Q : α → Heap → Prop) (H : Heap) (R : outParam Prop) : Prop where
 w : R → wp m Q H
theorem step {α : Type} {m : M α} {Q : α → Heap → Prop} {H : Heap} {R : Prop} [W m Q H R] (h : R) : wp m Q H := W.w h
class At (cs : List HV) (o : Nat) (v : outParam HV) : Prop where
 at_ : cs[o]? = some v
instance at_zero {v : HV} {r : List HV} : At (v :: r) 0 v := ⟨rfl⟩
instance at_succ {x v : HV} {r : List HV} {o : Nat} [h : At r o v] : At (x :: r) (o + 1) v := ⟨h.at_⟩
section
variable {α : Type} {Q : α → Heap → Prop} {H : Heap} {r : List HV} {R R2 : Prop}
instance (priority := 10) wi_stop {m : M α} : W m Q H (wp m Q H) := ⟨id⟩
instance wi_asI {k : IntKind} {n : Int} {f : Int → M α} [W (f n) Q H R] : W (asI k (.int k n) f) Q H R := ⟨fun h => wp_asI (W.w h)⟩
instance wi_asB {b : Bool} {f : Bool → M α} [W (f b) Q H R] : W (asB (.bool b) f) Q H R := ⟨fun h => wp_asB (W.w h)⟩
instance wi_asS {b : ByteArray} {f : ByteArray → M α} [W (f b) Q H R] : W (asS (.str b) f) Q H R := ⟨fun h => wp_asS (W.w h)⟩
instance wi_asP {b : Option (Nat × Nat)} {f : Option (Nat × Nat) → M α} [W (f b) Q H R] : W (asP (.ptr b) f) Q H R := ⟨fun h => wp_asP (W.w h)⟩
instance wi_asSl {b : Sl} {f : Sl → M α} [W (f b) Q H R] : W (asSl (.sl b) f) Q H R := ⟨fun h => wp_asSl (W.w h)⟩
instance wi_asA {b : List HV} {f : List HV → M α} [W (f b) Q H R] : W (asA (.agg b) f) Q H R := ⟨fun h => wp_asA (W.w h)⟩
instance wi_asT {b : List HV} {f : List HV → M α} [W (f b) Q H R] : W (asT (.tup b) f) Q H R := ⟨fun h => wp_asT (W.w h)⟩
instance wi_uc {v : HV} {f : HV → List HV → M α} [W (f v r) Q H R] : W (uc (v :: r) f) Q H R := ⟨fun h => wp_uc (W.w h)⟩
instance wi_uI {k : IntKind} {n : Int} {f : Int → List HV → M α} [W (f n r) Q H R] : W (uI k (.int k n :: r) f) Q H R := ⟨fun h => wp_uI (W.w h)⟩
instance wi_uB {b : Bool} {f : Bool → List HV → M α} [W (f b r) Q H R] : W (uB (.bool b :: r) f) Q H R := ⟨fun h => wp_uB (W.w h)⟩
instance wi_uS {b : ByteArray} {f : ByteArray → List HV → M α} [W (f b r) Q H R] : W (uS (.str b :: r) f) Q H R := ⟨fun h => wp_uS (W.w h)⟩
instance wi_uP {b : Option (Nat × Nat)} {f : Option (Nat × Nat) → List HV → M α} [W (f b r) Q H R] : W (uP (.ptr b :: r) f) Q H R := ⟨fun h => wp_uP (W.w h)⟩
instance wi_uL {b : Sl} {f : Sl → List HV → M α} [W (f b r) Q H R] : W (uL (.sl b :: r) f) Q H R := ⟨fun h => wp_uL (W.w h)⟩
instance wi_uA {b : List HV} {f : List HV → List HV → M α} [W (f b r) Q H R] : W (uA (.agg b :: r) f) Q H R := ⟨fun h => wp_uA (W.w h)⟩
instance wi_nl {m : M α} [W m Q H R] : W (nl [] m) Q H R := ⟨fun h => wp_nl (W.w h)⟩
instance wi_mP {b o : Nat} {f : Nat → Nat → M α} [W (f b o) Q H R] : W (mP (some (b, o)) f) Q H R := ⟨fun h => by rw [mP_eq']; exact W.w h⟩
instance wi_gx {cs : List HV} {o : Nat} {v : HV} {f : HV → M α} [h1 : At cs o v] [W (f v) Q H R] : W (gx cs o f) Q H R := ⟨fun h => by unfold HN.gx; rw [h1.at_]; exact W.w h⟩
instance (priority := 100) wi_cond {b : Bool} {x y : M α} [W x Q H R] [W y Q H R2] : W (cond b x y) Q H ((b = true → R) ∧ (b = false → R2)) := ⟨fun h => wp_cond (fun c => W.w (h.1 c)) (fun c => W.w (h.2 c))⟩
instance wi_condT {x y : M α} [W x Q H R] : W (cond true x y) Q H R := ⟨fun h => wp_condT (W.w h)⟩
instance wi_condF {x y : M α} [W y Q H R] : W (cond false x y) Q H R := ⟨fun h => wp_condF (W.w h)⟩
instance wi_condNT {x y : M α} [W y Q H R] : W (cond (!true) x y) Q H R := ⟨fun h => wp_condNT (W.w h)⟩
instance wi_condNF {x y : M α} [W x Q H R] : W (cond (!false) x y) Q H R := ⟨fun h => wp_condNF (W.w h)⟩
instance wi_condD {p : Prop} [Decidable p] {x y : M α} [W x Q H R] [W y Q H R2] : W (cond (decide p) x y) Q H ((p → R) ∧ (¬ p → R2)) := ⟨fun h => wp_condD (fun c => W.w (h.1 c)) (fun c => W.w (h.2 c))⟩
instance wi_condE {a b : Int} {x y : M α} [W x Q H R] [W y Q H R2] : W (cond (a == b) x y) Q H ((a = b → R) ∧ (a ≠ b → R2)) := ⟨fun h => wp_condE (fun c => W.w (h.1 c)) (fun c => W.w (h.2 c))⟩
instance wi_condNE {a b : Int} {x y : M α} [W x Q H R] [W y Q H R2] : W (cond (a != b) x y) Q H ((a ≠ b → R) ∧ (a = b → R2)) := ⟨fun h => wp_condNE (fun c => W.w (h.1 c)) (fun c => W.w (h.2 c))⟩
instance (priority := 200) wi_condN {b : Bool} {x y : M α} [W x Q H R] [W y Q H R2] : W (cond (!b) x y) Q H ((b = false → R) ∧ (b = true → R2)) := ⟨fun h => wp_condN (fun c => W.w (h.1 c)) (fun c => W.w (h.2 c))⟩
instance (priority := 100) wi_gd {b : Bool} {m : M α} [W m Q H R] : W (gd b m) Q H (b = true ∧ R) := ⟨fun h => wp_gd h.1 (W.w h.2)⟩
instance wi_gdD {p : Prop} [Decidable p] {m : M α} [W m Q H R] : W (gd (decide p) m) Q H (p ∧ R) := ⟨fun h => wp_gdD h.1 (W.w h.2)⟩
instance wi_snp {f : Heap → M α} [W (f H) Q H R] : W (snp true f) Q H R := ⟨fun h => by
 obtain ⟨n0, a, H', h1, h2⟩ := (W.w h : wp (f H) Q H); exact ⟨n0, a, H', h1, h2⟩⟩
theorem wp_gdP {p : Prop} {m : M α} (hp : p) (h : wp m Q H) : wp (gdP p m) Q H := by unfold HN.gdP; rw [if_pos hp]; exact h
instance wi_gdP {p : Prop} {m : M α} [W m Q H R] : W (gdP p m) Q H (p ∧ R) := ⟨fun h => wp_gdP h.1 (W.w h.2)⟩
end
section
variable {Q : Leaf → Heap → Prop} {H : Heap} {R : Prop} {K : List HV → M Leaf} {vs : List HV}
instance wi_fin {m : M Leaf} {Q : HV → Heap → Prop} [W m (PFin Q) H R] : W (fin m) Q H R := ⟨fun h => wp_finF (W.w h)⟩
instance wi_rF {Q : HV → Heap → Prop} {v : HV} : W (ret (.ret [v])) (PFin Q) H (Q v H) := ⟨wp_rF⟩
instance wi_rF0 {Q : HV → Heap → Prop} : W (ret (.ret [])) (PFin Q) H (Q (.tup []) H) := ⟨wp_rF0⟩
instance wi_rF2 {Q : HV → Heap → Prop} {v w : HV} : W (ret (.ret [v, w])) (PFin Q) H (Q (.tup [v, w]) H) := ⟨wp_rF2⟩
instance wi_rF3 {Q : HV → Heap → Prop} {u v w : HV} : W (ret (.ret [u, v, w])) (PFin Q) H (Q (.tup [u, v, w]) H) := ⟨wp_rF3⟩
instance wi_nN [W (K vs) Q H R] : W (ret (.norm vs)) (PNorm Q K) H R := ⟨fun h => wp_nN (W.w h)⟩
instance wi_rN [W (ret (.ret vs)) Q H R] : W (ret (.ret vs)) (PNorm Q K) H R := ⟨fun h => wp_rN (W.w h)⟩
instance wi_xN {i : Nat} [W (ret (.exit i vs)) Q H R] : W (ret (.exit i vs)) (PNorm Q K) H R := ⟨fun h => wp_xN (W.w h)⟩
instance wi_nB {id : Nat} [W (K vs) Q H R] : W (ret (.norm vs)) (PBlk id Q K) H R := ⟨fun h => wp_nB (W.w h)⟩
instance wi_rB {id : Nat} [W (ret (.ret vs)) Q H R] : W (ret (.ret vs)) (PBlk id Q K) H R := ⟨fun h => wp_rB (W.w h)⟩
instance wi_xB {id : Nat} [W (K vs) Q H R] : W (ret (.exit id vs)) (PBlk id Q K) H R := ⟨fun h => wp_xB (Nat.beq_refl id) (W.w h)⟩
instance wi_rP0 {P : Nat → Prop} {i : Nat} {H0 : Heap} [W (ret (.ret vs)) Q H R] : W (ret (.ret vs)) (PF0 P i H0 Q) H R := ⟨fun h => by
 obtain ⟨n, a, H', h1, h2⟩ := (W.w h : wp (ret (.ret vs)) Q H)
 have := h1 n (Nat.le_refl _); cases this; exact wp_ret h2⟩
instance wi_nP0 {P : Nat → Prop} {i : Nat} : W (ret (.norm [I (wr ((i : Int) + 1))])) (PF0 P i H Q) H (P (i + 1)) := ⟨fun h => wp_n0 h⟩
instance wi_pb {p : Prop} {b : Bool} : W (ret (.norm [.bool b])) (PB p H) H (b = true ↔ p) := ⟨fun h => wp_bB h⟩
end
/-! local memory -/
structure Loc (H0 H : Heap) (l : List (Nat × HObj)) : Prop where
 k : Keeps H0 H
 nd : (l.map Prod.fst).Nodup
 at_ : ∀ p ∈ l, H0.n ≤ p.1 ∧ p.1 < H.n ∧ H.get p.1 = p.2
theorem Loc.nil (H : Heap) : Loc H H [] := ⟨.refl H, List.nodup_nil, fun p h => by cases h⟩
section
variable {H0 H : Heap} {l : List (Nat × HObj)}
theorem Loc.keeps {H' : Heap} (h : Loc H0 H l) (k : Keeps H H') : Loc H0 H' l :=
 ⟨h.k.trans k, h.nd, fun p hp => by
  obtain ⟨h1, h2, h3⟩ := h.at_ p hp
  exact ⟨h1, Nat.lt_of_lt_of_le h2 k.n, by rw [k.get _ h2]; exact h3⟩⟩
theorem Loc.get {i b : Nat} {o : HObj} (h : Loc H0 H l) (hi : l[i]? = some (b, o)) : H.get b = o := (h.at_ _ (List.mem_of_getElem? hi)).2.2
theorem Loc.lt {i b : Nat} {o : HObj} (h : Loc H0 H l) (hi : l[i]? = some (b, o)) : b < H.n := (h.at_ _ (List.mem_of_getElem? hi)).2.1
theorem Loc.ge {i b : Nat} {o : HObj} (h : Loc H0 H l) (hi : l[i]? = some (b, o)) : H0.n ≤ b := (h.at_ _ (List.mem_of_getElem? hi)).1
theorem map_fst_set {b : Nat} {o o' : HObj} : ∀ {l : List (Nat × HObj)} {i : Nat}, l[i]? = some (b, o) → (l.set i (b, o')).map Prod.fst = l.map Prod.fst
 | x :: l, 0, h => by simp at h; subst h; rfl
 | x :: l, i + 1, h => by simp only [List.set_cons_succ, List.map_cons]; rw [map_fst_set (by simpa using h)]
theorem nodup_fst {l : List (Nat × HObj)} (hn : (l.map Prod.fst).Nodup) {i j b : Nat} {o o' : HObj} (hi : l[i]? = some (b, o)) (hj : l[j]? = some (b, o')) : i = j := by
 have h1 : (l.map Prod.fst)[i]? = some b := by rw [List.getElem?_map, hi]; rfl
 have h2 : (l.map Prod.fst)[j]? = some b := by rw [List.getElem?_map, hj]; rfl
 have hil := (List.getElem?_eq_some_iff.1 h1).1
 exact (List.getElem?_inj hil hn).1 (h1.trans h2.symm)
theorem Loc.set {i b : Nat} {o : HObj} (h : Loc H0 H l) (hi : l[i]? = some (b, o)) (o' : HObj) : Loc H0 (H.set b o') (l.set i (b, o')) := by
 have hge := h.ge hi
 refine ⟨h.k.set hge o', by rw [map_fst_set hi]; exact h.nd, fun p hp => ?_⟩
 obtain ⟨j, hj⟩ := List.mem_iff_getElem?.1 hp
 rw [List.getElem?_set] at hj
 split at hj
 ·rename_i e
  subst e
  rw [if_pos (List.getElem?_eq_some_iff.1 hi).1] at hj
  cases hj
  exact ⟨hge, h.lt hi, by simp [Heap.set]⟩
 ·rename_i e
  obtain ⟨x, y⟩ := p
  obtain ⟨h1, h2, h3⟩ := h.at_ _ (List.mem_of_getElem? hj)
  refine ⟨h1, h2, ?_⟩
  simp only [Heap.set]
  rw [if_neg (fun hh => e (by subst hh; exact nodup_fst h.nd hi hj))]
  exact h3
theorem Loc.push (h : Loc H0 H l) (o : HObj) : Loc H0 (H.push o) (l ++ [(H.n, o)]) := by
 refine ⟨h.k.trans (Keeps.push H o), ?_, fun p hp => ?_⟩
 ·rw [List.map_append, List.nodup_append]
  refine ⟨h.nd, by simp, fun a ha b hb => ?_⟩
  obtain ⟨p, hp, rfl⟩ := List.mem_map.1 ha
  have := (h.at_ p hp).2.1
  simp at hb; omega
 ·rcases List.mem_append.1 hp with hp | hp
  ·obtain ⟨h1, h2, h3⟩ := h.at_ p hp
   have k := Keeps.push H o
   exact ⟨h1, Nat.lt_of_lt_of_le h2 k.n, by rw [k.get _ h2]; exact h3⟩
  ·simp at hp; subst hp
   exact ⟨h.k.n, by simp [Heap.push], by simp [Heap.push]⟩
section
variable {α : Type} {Q : α → Heap → Prop}
end
section
variable {Q : HV → Heap → Prop} {lp k : Nat} {ws : List (Nat × HV)} {st : LoopState} {pd : Option Code} {vs : List HV}
end
end
end Go.Proofs.YtbphjihgbenkdaaGreat.HN
