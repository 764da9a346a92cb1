/- Lemmas for the row. Conditions: none. -/
import Derived.Test.YtbphjihgbenkdaaGreatHQLc
import Derived.Test.YtbphjihgbenkdaaGreatHQ5g
import Derived.Test.YtbphjihgbenkdaaGreatHQ5n
import Derived.Test.YtbphjihgbenkdaaGreatHQ5s
import Derived.Test.YtbphjihgbenkdaaGreatHQ5i
import Derived.Test.YtbphjihgbenkdaaGreatHQIf
import Derived.Test.YtbphjihgbenkdaaGreatHQIe2
namespace Go.Proofs.YtbphjihgbenkdaaGreat.HQ
set_option linter.unusedVariables false
set_option linter.unusedSectionVars false
set_option linter.unusedSimpArgs false
open Go Go.Proofs Go.RowKit
variable [Sites] {D : HV → List HV → M HV}
theorem ok209 (_hD : DOk Tryz.prog noG D) : FnOk Tryz.prog noG 209 (f_strings_Repeat D) :=
 ok_Repeat (bodied Tryz.func209 (by kernel_rfl) (by kernel_rfl)) (fun s c w h1 h2 => Tryz.strings_Repeat s c w h1 h2)
theorem ok136 (_hD : DOk Tryz.prog noG D) : FnOk Tryz.prog noG 136 (f_slices_Insert_draft_entry_int_draft_entry_int D) :=
 ok_ins (bodied Tryz.func136 (by kernel_rfl) (by kernel_rfl)) (E := 253) (sz := 2) (by_ := 16) (zc := (Value.agg #[.int .i64 0, .int .i64 0]).cells) (by decide) (by decide) (by kernel_rfl)
  Tryz.ins136_shift Tryz.ins136_end_room Tryz.ins136_end_grow Tryz.ins136_grow
theorem ok215 (_hD : DOk Tryz.prog noG D) : FnOk Tryz.prog noG 215 (f_slices_Insert_draft_entry_file_File_draft_entry_file_File D) :=
 ok_ins (bodied Tryz.func215 (by kernel_rfl) (by kernel_rfl)) (E := 327) (sz := 3) (by_ := 32) (zc := (Value.agg #[.int .i64 0, .bool false, .string ByteArray.empty]).cells) (by decide) (by decide) (by kernel_rfl)
  Tryz.ins215_shift Tryz.ins215_end_room Tryz.ins215_end_grow Tryz.ins215_grow
end Go.Proofs.YtbphjihgbenkdaaGreat.HQ
