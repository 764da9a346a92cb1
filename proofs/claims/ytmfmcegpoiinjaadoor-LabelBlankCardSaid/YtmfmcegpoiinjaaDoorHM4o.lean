/- The library's functions at this seat, by their contracts. Conditions: none. -/
import Derived.Test.YtmfmcegpoiinjaaDoorHMLc
import Derived.Test.YtmfmcegpoiinjaaDoorHM4g
import Derived.Test.YtmfmcegpoiinjaaDoorHM4n
import Derived.Test.YtmfmcegpoiinjaaDoorHM4s
namespace Go.Proofs.YtmfmcegpoiinjaaDoor.HM
open Go Go.Proofs Go.RowKit
variable [Sites] {D : HV → List HV → M HV}
theorem ok28 (_hD : DOk Tryd.prog noG D) : FnOk Tryd.prog noG 28 (f_strconv_Itoa D) :=
  ok_Itoa (bodied Tryd.func28 (by kernel_rfl) (by kernel_rfl)) (q := 3) (by kernel_rfl) (by kernel_rfl) (fun n h0 h1 w ht => Tryd.strconv_Itoa n h0 h1 w ht)
theorem ok87 (_hD : DOk Tryd.prog noG D) : FnOk Tryd.prog noG 87 (f_strconv_Atoi D) :=
  ok_Atoi (bodied Tryd.func87 (by kernel_rfl) (by kernel_rfl)) (q2 := 8) (q3 := 9) (tb := 5) (te := 146) (by kernel_rfl) (by kernel_rfl) (fun s h v hv w => Tryd.strconv_Atoi_ok s h v hv w)
    (fun s h hv ev w h1 h2 => (Tryd.strconv_Atoi_syntax s h hv ev w h1 h2).mono fun _ _ ⟨N, a, _, _, b⟩ => ⟨N, a, b⟩) (fun s h hv ev w h1 h2 => (Tryd.strconv_Atoi_range s h hv ev w h1 h2).mono fun _ _ ⟨N, a, _, _, b⟩ => ⟨N, a, b⟩)
theorem ok55 (_hD : DOk Tryd.prog noG D) : FnOk Tryd.prog noG 55 (f_strings_Split D) :=
  ok_Split (bodied Tryd.func55 (by kernel_rfl) (by kernel_rfl)) (q := 2) (el := 9) (by kernel_rfl) (fun s sep m w h1 h2 h3 => Tryd.strings_Split s sep m w h1 h2 h3)
theorem ok18 (_hD : DOk Tryd.prog noG D) : FnOk Tryd.prog noG 18 (f_strings_Contains D) :=
  ok_Contains (bodied Tryd.func18 (by kernel_rfl) (by kernel_rfl)) (q := 2) (by kernel_rfl) (fun s sub m w h1 h2 => Tryd.strings_Contains s sub m w h1 h2)
theorem ok20 (_hD : DOk Tryd.prog noG D) : FnOk Tryd.prog noG 20 (f_strings_Repeat D) :=
  ok_Repeat (bodied Tryd.func20 (by kernel_rfl) (by kernel_rfl)) (fun s c w h1 h2 => Tryd.strings_Repeat s c w h1 h2)
theorem ok40 (_hD : DOk Tryd.prog noG D) : FnOk Tryd.prog noG 40 (f_strings_Builder_copyCheck D) :=
  ok_copyCheck (bodied Tryd.func40 (by kernel_rfl) (by kernel_rfl)) (T := 62) (fun b w h => Any.Builder_copyCheck_used (ρ := Tryd.lays105_ren) { Tryd.lays105 with } Tryd.Builder_Extra_105.toX72 b w h)
    (fun b w h1 h2 h3 => Any.Builder_copyCheck_fresh (ρ := Tryd.lays105_ren) { Tryd.lays105 with } Tryd.Builder_Extra_105.toX72 b w h1 h2 h3)
end Go.Proofs.YtmfmcegpoiinjaaDoor.HM
