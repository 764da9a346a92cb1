/- The numbers of functions that are values, in this seat. Conditions: none (definitions). -/
import Derived.Test.YtmfmcegpoiinjaaDoorHMLb
namespace Go.Proofs.YtmfmcegpoiinjaaDoor.HM
/-- countermand/label.Marks$1 -/
abbrev n_label_Marks_1 : Nat := 35
/-- countermand/label.lines$1 -/
abbrev n_label_lines_1 : Nat := 54
/-- (*strings.Builder).copyCheck -/
abbrev f_strings_Builder_copyCheck (_D : HV → List HV → M HV) : List HV → M HV := copyCheckT 62
end Go.Proofs.YtmfmcegpoiinjaaDoor.HM
