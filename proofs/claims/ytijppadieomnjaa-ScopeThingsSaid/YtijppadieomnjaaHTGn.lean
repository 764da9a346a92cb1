/- The numbers of functions that are values, in this seat. Conditions: none (definitions). -/
namespace Go.Proofs.Ytijppadieomnjaa.HT
/-- countermand/scope.All$1 -/
abbrev n_scope_All_1 : Nat := 42
/-- (countermand/scope.Things).All$1 -/
abbrev n_scope_Things_All_1 : Nat := 43
/-- countermand/bound.From$1 -/
abbrev n_bound_From_1 : Nat := 48
end Go.Proofs.Ytijppadieomnjaa.HT
