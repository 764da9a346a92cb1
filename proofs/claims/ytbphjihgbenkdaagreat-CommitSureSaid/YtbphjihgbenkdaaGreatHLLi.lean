/- slices.Insert of one element into a row of one's own: its text. Conditions: none (definitions). -/
import Derived.Test.YtbphjihgbenkdaaGreatHLLb
namespace Go.Proofs.YtbphjihgbenkdaaGreat.HL
open Go Go.Proofs
/-- E: the elements' type; sz: their cells; by_: their bytes. -/
def insK (E sz b len i : Nat) (vs : List HV) : M HV := fun H n => match H.get b with
  | .cells cs ro => gd (decide (cs.length = len * sz) && !ro && decide (H.ty b = some (E, none))) (fun H n =>
      nwT (E, none) (cs.take (i * sz) ++ vs ++ cs.drop (i * sz)) (fun b' => ret (.sl ⟨some (b', 0), len + 1, len + 1, some sz⟩)) (H.set b .dead) n) H n
  | _ => none
def insT (E sz by_ : Nat) (args : List HV) : M HV :=
  uL args fun s r => uI .i64 r fun i r => uL r fun v r => nl r (
    gd (decide (v.len = 1) && decide (0 ≤ i) && decide (i ≤ s.len) && decide (s.len ≤ s.cap) && decide ((s.len + 1) * by_ ≤ room) && decide (s.len + 1 ≤ room)) (
      match v.p with
      | some (vb, vo) => ldN vb vo sz fun vs => (match s.p with
        | none => gd (decide (s.len = 0) && decide (s.cap = 0)) (nwT (E, none) vs fun b' => ret (.sl ⟨some (b', 0), 1, 1, some sz⟩))
        | some (b, o) => gd (decide (o = 0) && decide (s.opn = some sz) && !(Nat.beq vb b)) (insK E sz b s.len i.toNat vs))
      | none => stk))
end Go.Proofs.YtbphjihgbenkdaaGreat.HL
