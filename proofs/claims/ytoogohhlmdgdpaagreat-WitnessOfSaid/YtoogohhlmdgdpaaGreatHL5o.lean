/- The library's functions at this seat. Conditions: none. -/
import Derived.Test.YtoogohhlmdgdpaaGreatHLLc
import Derived.Test.YtoogohhlmdgdpaaGreatHL5g
import Derived.Test.YtoogohhlmdgdpaaGreatHL5n
import Derived.Test.YtoogohhlmdgdpaaGreatHL5s
import Derived.Test.YtoogohhlmdgdpaaGreatHL5i
import Derived.Test.YtoogohhlmdgdpaaGreatHLIf
import Derived.Test.YtoogohhlmdgdpaaGreatHLIe2
namespace Go.Proofs.YtoogohhlmdgdpaaGreat.HL
open Go Go.Proofs Go.RowKit
variable [Sites] {D : HV → List HV → M HV}
theorem ok100 (_hD : DOk Tryz.prog noG D) : FnOk Tryz.prog noG 100 (f_strings_Repeat D) :=
  ok_Repeat (bodied Tryz.func100 (by kernel_rfl) (by kernel_rfl)) (fun s c w h1 h2 => Tryz.strings_Repeat s c w h1 h2)
theorem ok83 (_hD : DOk Tryz.prog noG D) : FnOk Tryz.prog noG 83 (f_slices_Insert_draft_entry_int_draft_entry_int D) :=
  ok_ins (bodied Tryz.func83 (by kernel_rfl) (by kernel_rfl)) (E := 155) (sz := 2) (by_ := 16) (zc := (Value.agg #[.int .i64 0, .int .i64 0]).cells) (by decide) (by decide) (by kernel_rfl)
    Tryz.ins83_shift Tryz.ins83_end_room Tryz.ins83_end_grow Tryz.ins83_grow
theorem ok106 (_hD : DOk Tryz.prog noG D) : FnOk Tryz.prog noG 106 (f_slices_Insert_draft_entry_file_File_draft_entry_file_File D) :=
  ok_ins (bodied Tryz.func106 (by kernel_rfl) (by kernel_rfl)) (E := 165) (sz := 3) (by_ := 32) (zc := (Value.agg #[.int .i64 0, .bool false, .string ByteArray.empty]).cells) (by decide) (by decide) (by kernel_rfl)
    Tryz.ins106_shift Tryz.ins106_end_room Tryz.ins106_end_grow Tryz.ins106_grow
end Go.Proofs.YtoogohhlmdgdpaaGreat.HL
