/- The laws BoundMost and BoundSmall answer true. Conditions: memory is as what came in is. -/
import Derived.Test.YtolchnaegifckaaHQDe
namespace Go.Proofs.Ytolchnaegifckaa.HQ
open Go

theorem bds_at {p : List Ins} {k : Nat} (hk : k < (bds p).length) : (bds p)[k] = Bd p k := by
  have hk' : k < p.length + 1 := by rw [bds_len] at hk; exact hk
  have := bds_get hk'
  rw [List.getElem?_eq_getElem hk] at this
  exact Option.some.inj this
theorem Nums.bds {H : Heap} {b : Nat} {p : List Ins} (h : Nums H b (bds p)) : RInts H (numSl b (p.length + 1)) (bds p) := by
  have := h.rints
  rw [bds_len] at this
  exact this
theorem numSl_len (b n : Nat) : ((numSl b n).len : Int) = n := rfl

end Go.Proofs.Ytolchnaegifckaa.HQ
