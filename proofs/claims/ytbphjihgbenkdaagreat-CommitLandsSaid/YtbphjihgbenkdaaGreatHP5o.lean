/- Lemmas for the row. Conditions: none. -/
import Derived.Test.YtbphjihgbenkdaaGreatHPLc
import Derived.Test.YtbphjihgbenkdaaGreatHP5g
import Derived.Test.YtbphjihgbenkdaaGreatHP5n
import Derived.Test.YtbphjihgbenkdaaGreatHP5s
import Derived.Test.YtbphjihgbenkdaaGreatHP5i
import Derived.Test.YtbphjihgbenkdaaGreatHPIf
import Derived.Test.YtbphjihgbenkdaaGreatHPIe2
namespace Go.Proofs.YtbphjihgbenkdaaGreat.HP
open Go Go.Proofs Go.RowKit
variable [Sites] {D : HV → List HV → M HV}
theorem ok209 (_hD : DOk Tryz.prog noG D) : FnOk Tryz.prog noG 209 (f_strings_Repeat D) :=
 ok_Repeat (bodied Tryz.func209 (by kernel_rfl) (by kernel_rfl)) (fun s c w h1 h2 => Tryz.strings_Repeat s c w h1 h2)
theorem ok136 (_hD : DOk Tryz.prog noG D) : FnOk Tryz.prog noG 136 (f_slices_Insert_draft_entry_int_draft_entry_int D) :=
 ok_ins (bodied Tryz.func136 (by kernel_rfl) (by kernel_rfl)) (E := 253) (sz := 2) (by_ := 16) (zc := (Value.agg #[.int .i64 0, .int .i64 0]).cells) (by decide) (by decide) (by kernel_rfl)
  Tryz.ins136_shift Tryz.ins136_end_room Tryz.ins136_end_grow Tryz.ins136_grow
theorem ok215 (_hD : DOk Tryz.prog noG D) : FnOk Tryz.prog noG 215 (f_slices_Insert_draft_entry_file_File_draft_entry_file_File D) :=
 ok_ins (bodied Tryz.func215 (by kernel_rfl) (by kernel_rfl)) (E := 327) (sz := 3) (by_ := 32) (zc := (Value.agg #[.int .i64 0, .bool false, .string ByteArray.empty]).cells) (by decide) (by decide) (by kernel_rfl)
  Tryz.ins215_shift Tryz.ins215_end_room Tryz.ins215_end_grow Tryz.ins215_grow
end Go.Proofs.YtbphjihgbenkdaaGreat.HP
