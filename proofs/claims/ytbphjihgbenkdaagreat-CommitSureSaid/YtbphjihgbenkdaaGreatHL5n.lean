/- The numbers of functions that are values, in this seat. Conditions: none (definitions). -/
namespace Go.Proofs.YtbphjihgbenkdaaGreat.HL
/-- countermand/draft.by[int] -/
abbrev n_draft_by_int : Nat := 177
/-- (*countermand/wal.Log).All$1 -/
abbrev n_wal_Log_All_1 : Nat := 182
/-- (*countermand/tome.Tome).All$1 -/
abbrev n_tome_Tome_All_1 : Nat := 187
/-- slices.Backward[[]countermand/acts.Open,countermand/acts.Open]$1 -/
abbrev n_slices_Backward_acts_Open_acts_Open_1 : Nat := 197
/-- (*countermand/draft.Draft[int]).All$1 -/
abbrev n_draft_Draft_int_All_1 : Nat := 200
/-- countermand/wafer.All$1 -/
abbrev n_wafer_All_1 : Nat := 203
/-- (*countermand/cell.Row[countermand/file.File]).All$1 -/
abbrev n_cell_Row_file_File_All_1 : Nat := 205
/-- (*countermand/draft.Draft[countermand/file.File]).All$1 -/
abbrev n_draft_Draft_file_File_All_1 : Nat := 210
/-- (*countermand/reads.Set).place$1 -/
abbrev n_reads_Set_place_1 : Nat := 213
/-- countermand/draft.by[countermand/file.File] -/
abbrev n_draft_by_file_File : Nat := 223
end Go.Proofs.YtbphjihgbenkdaaGreat.HL
