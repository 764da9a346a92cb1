/- Lemmas for the row. Conditions: none. -/
import Derived.Test.YtbphjihgbenkdaaGreatHQMw
import Derived.Test.YtbphjihgbenkdaaGreatHQ5i
import Derived.Laws.Strings
namespace Go.Proofs.YtbphjihgbenkdaaGreat.HQ
set_option linter.unusedVariables false
set_option linter.unusedSectionVars false
set_option linter.unusedSimpArgs false
open Go
abbrev Bs := List UInt8
structure Kp (H H' : Heap) : Prop where
 k : Keeps H H'
 t : ∀ b, b < H.n → H'.ty b = H.ty b
theorem Kp.refl (H : Heap) : Kp H H := ⟨.refl H, fun _ _ => rfl⟩
theorem Kp.pushT (H : Heap) (t : Option (Nat × Option Nat)) (o : HObj) : Kp H (H.pushT t o) :=
 ⟨⟨by simp [Heap.pushT], fun b hb => by simp only [Heap.pushT]; rw [if_neg (by omega)]⟩, fun b hb => by simp only [Heap.pushT]; rw [if_neg (by omega)]⟩
section
variable {H0 H : Heap} {l : List (Nat × HObj)}
section
variable {α : Type} {Q : α → Heap → Prop}
theorem wp_ldG {b o : Nat} {cs : List HV} {ro : Bool} {v : HV} {f : HV → M α} (hg : H.get b = .cells cs ro) (hv : cs[o]? = some v) (hf : wp (f v) Q H) : wp (ldC b o f) Q H := by
 refine wp_of (m' := f v) (fun n => ?_) hf
 unfold ldC; simp only [hg]; unfold HQ.gx; rw [hv]
theorem wp_ldGN {b o m : Nat} {cs : List HV} {ro : Bool} {f : List HV → M α} (hg : H.get b = .cells cs ro) (hm : o + m ≤ cs.length) (hf : wp (f ((cs.drop o).take m)) Q H) : wp (ldN b o m f) Q H := by
 refine wp_of (m' := f ((cs.drop o).take m)) (fun n => ?_) hf
 unfold ldN; simp only [hg]; unfold HQ.gxN; rw [show decide (o + m ≤ cs.length) = true from by simpa using hm]; rfl
theorem wp_gxG {cs : List HV} {o : Nat} {v : HV} {f : HV → M α} (hv : cs[o]? = some v) (hf : wp (f v) Q H) : wp (gx cs o f) Q H := by
 unfold HQ.gx; rw [hv]; exact hf
end
section
variable {Q : HV → Heap → Prop} {lp k : Nat} {ws : List (Nat × HV)} {st : LoopState} {pd : Option Code} {vs : List HV}
end
end
section
variable {α : Type} {Q : α → Heap → Prop} {H : Heap} {r : List HV} {R : Prop}
end
section
variable {σ : Type} {st : σ → Int → List HV} {P : Nat → σ → Heap → Prop} {i : Nat} {Q : Leaf → Heap → Prop} {H : Heap} {R : Prop} {vs : List HV}
end
/-! strings as lists of bytes -/
abbrev S (l : List UInt8) : ByteArray := ⟨l.toArray⟩
theorem S_size (l : List UInt8) : (S l).size = l.length := by simp [ByteArray.size]
theorem S_at (l : List UInt8) (i : Nat) : (S l).data[i]? = l[i]? := by simp
theorem S_app (a b : List UInt8) : S a ++ S b = S (a ++ b) := by
 apply ByteArray.ext; simp [ByteArray.data_append]
theorem toList_S (l : List UInt8) : (S l).toList = l := by simp
theorem S_ext (l : List UInt8) (a b : Nat) : (S l).extract a b = S ((l.drop a).take (b - a)) := by
 apply ByteArray.ext
 rw [ByteArray.data_extract]
 apply Array.ext'
 simp
end Go.Proofs.YtbphjihgbenkdaaGreat.HQ
