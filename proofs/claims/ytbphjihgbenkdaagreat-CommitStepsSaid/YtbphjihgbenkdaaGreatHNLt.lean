/- Local memory with the types of blocks; what is new in the calculus of runs: maps, ranges over strings, interfaces, variables. Conditions: none (lemmas). -/
import Derived.Test.YtbphjihgbenkdaaGreatHNMw
import Derived.Test.YtbphjihgbenkdaaGreatHN5i
import Derived.Laws.Strings
namespace Go.Proofs.YtbphjihgbenkdaaGreat.HN
open Go
abbrev Bs := List UInt8
structure Kp (H H' : Heap) : Prop where
 k : Keeps H H'
 t : ∀ b, b < H.n → H'.ty b = H.ty b
theorem Kp.refl (H : Heap) : Kp H H := ⟨.refl H, fun _ _ => rfl⟩
theorem Kp.trans {H1 H2 H3 : Heap} (a : Kp H1 H2) (b : Kp H2 H3) : Kp H1 H3 := ⟨a.k.trans b.k, fun x hx => (b.t x (Nat.lt_of_lt_of_le hx a.k.n)).trans (a.t x hx)⟩
theorem Kp.pushT (H : Heap) (t : Option (Nat × Option Nat)) (o : HObj) : Kp H (H.pushT t o) :=
 ⟨⟨by simp [Heap.pushT], fun b hb => by simp only [Heap.pushT]; rw [if_neg (by omega)]⟩, fun b hb => by simp only [Heap.pushT]; rw [if_neg (by omega)]⟩
theorem Kp.push (H : Heap) (o : HObj) : Kp H (H.push o) := Kp.pushT H none o
structure Lm (H0 H : Heap) (l : List (Nat × HObj)) : Prop where
 l : Loc H0 H l
 t : ∀ b, b < H0.n → H.ty b = H0.ty b
theorem Lm.nil (H : Heap) : Lm H H [] := ⟨.nil H, fun _ _ => rfl⟩
section
variable {H0 H : Heap} {l : List (Nat × HObj)}
theorem Lm.kp (h : Lm H0 H l) : Kp H0 H := ⟨h.l.k, h.t⟩
theorem Lm.keeps {H' : Heap} (h : Lm H0 H l) (k : Kp H H') : Lm H0 H' l := ⟨h.l.keeps k.k, fun b hb => (k.t b (Nat.lt_of_lt_of_le hb h.l.k.n)).trans (h.t b hb)⟩
theorem Lm.set {i b : Nat} {o : HObj} (h : Lm H0 H l) (hi : l[i]? = some (b, o)) (o' : HObj) : Lm H0 (H.set b o') (l.set i (b, o')) := ⟨h.l.set hi o', h.t⟩
theorem Lm.pushT (h : Lm H0 H l) (t : Option (Nat × Option Nat)) (o : HObj) : Lm H0 (H.pushT t o) (l ++ [(H.n, o)]) := by
 have hk := Kp.pushT H t o
 refine ⟨⟨h.l.k.trans hk.k, ?_, fun p hp => ?_⟩, fun b hb => (hk.t b (Nat.lt_of_lt_of_le hb h.l.k.n)).trans (h.t b hb)⟩
 ·rw [List.map_append, List.nodup_append]
  refine ⟨h.l.nd, by simp, fun a ha b hb => ?_⟩
  obtain ⟨p, hp, rfl⟩ := List.mem_map.1 ha
  have := (h.l.at_ p hp).2.1
  simp at hb; omega
 ·rcases List.mem_append.1 hp with hp | hp
  ·obtain ⟨h1, h2, h3⟩ := h.l.at_ p hp
   exact ⟨h1, Nat.lt_of_lt_of_le h2 hk.k.n, by rw [hk.k.get _ h2]; exact h3⟩
  ·simp at hp; subst hp
   exact ⟨h.l.k.n, by simp [Heap.pushT], by simp [Heap.pushT]⟩
theorem Lm.push (h : Lm H0 H l) (o : HObj) : Lm H0 (H.push o) (l ++ [(H.n, o)]) := h.pushT none o
theorem Lm.get {i b : Nat} {o : HObj} (h : Lm H0 H l) (hi : l[i]? = some (b, o)) : H.get b = o := h.l.get hi
theorem Lm.lt {i b : Nat} {o : HObj} (h : Lm H0 H l) (hi : l[i]? = some (b, o)) : b < H.n := h.l.lt hi
theorem Lm.ge {i b : Nat} {o : HObj} (h : Lm H0 H l) (hi : l[i]? = some (b, o)) : H0.n ≤ b := h.l.ge hi
section
variable {α : Type} {Q : α → Heap → Prop}
theorem wp_ldG {b o : Nat} {cs : List HV} {ro : Bool} {v : HV} {f : HV → M α} (hg : H.get b = .cells cs ro) (hv : cs[o]? = some v) (hf : wp (f v) Q H) : wp (ldC b o f) Q H := by
 refine wp_of (m' := f v) (fun n => ?_) hf
 unfold ldC; simp only [hg]; unfold HN.gx; rw [hv]
theorem wp_ldGN {b o m : Nat} {cs : List HV} {ro : Bool} {f : List HV → M α} (hg : H.get b = .cells cs ro) (hm : o + m ≤ cs.length) (hf : wp (f ((cs.drop o).take m)) Q H) : wp (ldN b o m f) Q H := by
 refine wp_of (m' := f ((cs.drop o).take m)) (fun n => ?_) hf
 unfold ldN; simp only [hg]; unfold HN.gxN; rw [show decide (o + m ≤ cs.length) = true from by simpa using hm]; rfl
theorem wp_gxG {cs : List HV} {o : Nat} {v : HV} {f : HV → M α} (hv : cs[o]? = some v) (hf : wp (f v) Q H) : wp (gx cs o f) Q H := by
 unfold HN.gx; rw [hv]; exact hf
theorem wp_lk {b : Nat} {s : ByteArray} {es : List (HV × HV)} {q : Option HV} {f : Option HV → M α} (hg : H.get b = .spc (.map es)) (hq : lkS es s = some q) (hf : wp (f q) Q H) : wp (lkM b s f) Q H := by
 refine wp_of (m' := f q) (fun n => ?_) hf
 unfold lkM; simp only [hg, hq]
theorem wp_pu {b : Nat} {s : ByteArray} {v : HV} {es es' : List (HV × HV)} {m : M α} (hg : H.get b = .spc (.map es)) (hq : puS es s v = some es') (hf : wp m Q (H.set b (.spc (.map es')))) : wp (puM b s v m) Q H := by
 refine wp_of (m' := m) (H' := H.set b (.spc (.map es'))) (fun n => ?_) hf
 unfold puM; simp only [hg, hq]
end
section
variable {Q : HV → Heap → Prop} {lp k : Nat} {ws : List (Nat × HV)} {st : LoopState} {pd : Option Code} {vs : List HV}
end
end
section
variable {α : Type} {Q : α → Heap → Prop} {H : Heap} {r : List HV} {R : Prop}
instance wi_asM {b : Option Nat} {f : Option Nat → M α} [W (f b) Q H R] : W (asM (.mp b) f) Q H R := ⟨fun h => (W.w h : wp (f b) Q H)⟩
instance wi_asF {b : Bool} {f : Bool → M α} [W (f b) Q H R] : W (asF (.ifc b) f) Q H R := ⟨fun h => (W.w h : wp (f b) Q H)⟩
instance wi_uM {b : Option Nat} {f : Option Nat → List HV → M α} [W (f b r) Q H R] : W (uM (.mp b :: r) f) Q H R := ⟨fun h => (W.w h : wp (f b r) Q H)⟩
instance wi_uF {b : Bool} {f : Bool → List HV → M α} [W (f b r) Q H R] : W (uF (.ifc b :: r) f) Q H R := ⟨fun h => (W.w h : wp (f b r) Q H)⟩
instance wi_isS {x : HV} {a b : M α} [W a Q H R] : W (cond (some x).isSome a b) Q H R := ⟨fun h => (W.w h : wp a Q H)⟩
instance wi_isN {a b : M α} [W b Q H R] : W (cond (none : Option HV).isSome a b) Q H R := ⟨fun h => (W.w h : wp b Q H)⟩
instance wi_niS {x : HV} {a b : M α} [W b Q H R] : W (cond (!(some x).isSome) a b) Q H R := ⟨fun h => (W.w h : wp b Q H)⟩
instance wi_niN {a b : M α} [W a Q H R] : W (cond (!(none : Option HV).isSome) a b) Q H R := ⟨fun h => (W.w h : wp a Q H)⟩
instance wi_gtS {k : IntKind} {n : Int} {d : HV} {f : Int → M α} [W (f n) Q H R] : W (asI k ((some (.int k n)).getD d) f) Q H R := ⟨fun h => wp_asI (W.w h)⟩
instance wi_gtN {k : IntKind} {n : Int} {f : Int → M α} [W (f n) Q H R] : W (asI k ((none : Option HV).getD (.int k n)) f) Q H R := ⟨fun h => wp_asI (W.w h)⟩
instance wi_mpP {b : Nat} {f : Nat → M α} [W (f b) Q H R] : W (mpP (some b) f) Q H R := ⟨fun h => (W.w h : wp (f b) Q H)⟩
end
section
variable {σ : Type} {st : σ → Int → List HV} {P : Nat → σ → Heap → Prop} {i : Nat} {Q : Leaf → Heap → Prop} {H : Heap} {R : Prop} {vs : List HV}
instance wi_rR [W (ret (.ret vs)) Q H R] : W (ret (.ret vs)) (PFor st P i Q) H R := ⟨fun h => wp_rR (W.w h)⟩
instance wi_xR {j : Nat} [W (ret (.exit j vs)) Q H R] : W (ret (.exit j vs)) (PFor st P i Q) H R := ⟨fun h => wp_xR (W.w h)⟩
instance wi_nR : W (ret (.norm vs)) (PFor st P i Q) H (∃ x', vs = st x' (wr ((i : Int) + 1)) ∧ P (i + 1) x' H) := ⟨fun h => wp_nR h⟩
end
/-! strings as lists of bytes -/
abbrev S (l : List UInt8) : ByteArray := ⟨l.toArray⟩
theorem S_size (l : List UInt8) : (S l).size = l.length := by simp [ByteArray.size]
theorem S_at (l : List UInt8) (i : Nat) : (S l).data[i]? = l[i]? := by simp
theorem S_app (a b : List UInt8) : S a ++ S b = S (a ++ b) := by
 apply ByteArray.ext; simp [ByteArray.data_append]
theorem toList_S (l : List UInt8) : (S l).toList = l := by simp
theorem S_ext (l : List UInt8) (a b : Nat) : (S l).extract a b = S ((l.drop a).take (b - a)) := by
 apply ByteArray.ext
 rw [ByteArray.data_extract]
 apply Array.ext'
 simp
end Go.Proofs.YtbphjihgbenkdaaGreat.HN
