/- slices.Insert at this seat's elements: texts. Conditions: none (definitions). -/
import Derived.Test.YtbphjihgbenkdaaGreatHLLi
namespace Go.Proofs.YtbphjihgbenkdaaGreat.HL
open Go
/-- the types of the entries of drafts, in this seat. -/
abbrev eDI : Nat := 253
abbrev eDF : Nat := 327
def f_slices_Insert_draft_entry_int_draft_entry_int (_D : HV → List HV → M HV) (args : List HV) : M HV := insT eDI 2 16 args
def f_slices_Insert_draft_entry_file_File_draft_entry_file_File (_D : HV → List HV → M HV) (args : List HV) : M HV := insT eDF 3 32 args
end Go.Proofs.YtbphjihgbenkdaaGreat.HL
