/- Lemmas for the row. Conditions: none. -/
import Derived.Test.YtbphjihgbenkdaaGreatHQZd
import Derived.Lib.ItoaNum
import Derived.Lib.AtoiAll
import Derived.Lib.Split
import Derived.Lib.IndexMore
import Derived.Lib.Repeat
import Derived.Lib.LaidTab
namespace Go.Proofs.YtbphjihgbenkdaaGreat.HQ
set_option linter.unusedVariables false
set_option linter.unusedSectionVars false
set_option linter.unusedSimpArgs false
open Go Go.Proofs
/-! the variables of the library: their objects, in every seat: 0 bytealg.MaxLen, 1 strconv's powers of ten, 2 ErrSyntax, 3 ErrRange -/
def f_strings_Repeat (_D : HV → List HV → M HV) (args : List HV) : M HV :=
 uS args fun s r => uI .i64 r fun c r => nl r (gd (decide (0 ≤ c) && decide (c ≤ 9223372036854775807) && decide (s.size * c.toNat ≤ 140737488355328)) (ret (.str ⟨(Lib.repeatL s.data.toList c.toNat).toArray⟩)))
open Go Go.Proofs
def insK (E sz b len i : Nat) (vs : List HV) : M HV := fun H n => match H.get b with
 | .cells cs ro => gd (decide (cs.length = len * sz) && !ro && decide (H.ty b = some (E, none))) (fun H n =>
   nwT (E, none) (cs.take (i * sz) ++ vs ++ cs.drop (i * sz)) (fun b' => ret (.sl ⟨some (b', 0), len + 1, len + 1, some sz⟩)) (H.set b .dead) n) H n
 | _ => none
def insT (E sz by_ : Nat) (args : List HV) : M HV :=
 uL args fun s r => uI .i64 r fun i r => uL r fun v r => nl r (
  gd (decide (v.len = 1) && decide (0 ≤ i) && decide (i ≤ s.len) && decide (s.len ≤ s.cap) && decide ((s.len + 1) * by_ ≤ room) && decide (s.len + 1 ≤ room)) (
   match v.p with
   | some (vb, vo) => ldN vb vo sz fun vs => (match s.p with
    | none => gd (decide (s.len = 0) && decide (s.cap = 0)) (nwT (E, none) vs fun b' => ret (.sl ⟨some (b', 0), 1, 1, some sz⟩))
    | some (b, o) => gd (decide (o = 0) && decide (s.opn = some sz) && !(Nat.beq vb b)) (insK E sz b s.len i.toNat vs))
   | none => stk))
abbrev eDI : Nat := 253
abbrev eDF : Nat := 327
def f_slices_Insert_draft_entry_int_draft_entry_int (_D : HV → List HV → M HV) (args : List HV) : M HV := insT eDI 2 16 args
def f_slices_Insert_draft_entry_file_File_draft_entry_file_File (_D : HV → List HV → M HV) (args : List HV) : M HV := insT eDF 3 32 args
end Go.Proofs.YtbphjihgbenkdaaGreat.HQ
