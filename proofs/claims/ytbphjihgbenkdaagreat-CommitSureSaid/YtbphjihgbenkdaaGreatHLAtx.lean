/- alive among pieces of memory; a deed of a law's list: walked. Conditions: none. -/
import Derived.Test.YtbphjihgbenkdaaGreatHLAte
namespace Go.Proofs.YtbphjihgbenkdaaGreat.HL
open Go

abbrev deC (d : Dee) : List HV := [I d.k, I d.a, I d.b, .int .u8 (d.c.toNat : Int)]
section
variable {H0 : Heap} {P F F' : List HP} {Q : HV → List HP → Prop} [Sea] {n : Nat}
variable [SeaOk]
end
end Go.Proofs.YtbphjihgbenkdaaGreat.HL
