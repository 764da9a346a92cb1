/- The numbers of functions that are values, in this seat. Conditions: none (definitions). -/
namespace Go.Proofs.YtoogohhlmdgdpaaGreat.HL
/-- (*countermand/reads.Set).All$1 -/
abbrev n_reads_Set_All_1 : Nat := 43
/-- countermand/witness.ahead -/
abbrev n_witness_ahead : Nat := 50
/-- (*countermand/draft.Draft[int]).All$1 -/
abbrev n_draft_Draft_int_All_1 : Nat := 69
/-- (*countermand/draft.Draft[countermand/file.File]).All$1 -/
abbrev n_draft_Draft_file_File_All_1 : Nat := 74
/-- slices.Values[[]countermand/reads.Entry,countermand/reads.Entry]$1 -/
abbrev n_slices_Values_reads_Entry_reads_Entry_1 : Nat := 75
/-- countermand/draft.by[int] -/
abbrev n_draft_by_int : Nat := 94
/-- (*countermand/reads.Set).place$1 -/
abbrev n_reads_Set_place_1 : Nat := 103
/-- countermand/draft.by[countermand/file.File] -/
abbrev n_draft_by_file_File : Nat := 115
end Go.Proofs.YtoogohhlmdgdpaaGreat.HL
