/- The numbers of functions that are values, in this seat. Conditions: none (definitions). -/
namespace Go.Proofs.Ytolchnaegifckaa.HS
/-- countermand/bound.From$1 -/
abbrev n_bound_From_1 : Nat := 45
/-- countermand/trim.Idle$1 -/
abbrev n_trim_Idle_1 : Nat := 55
/-- countermand/scope.All$1 -/
abbrev n_scope_All_1 : Nat := 60
end Go.Proofs.Ytolchnaegifckaa.HS
