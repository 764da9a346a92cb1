/- Lemmas for the row. Conditions: none. -/
namespace Go.Proofs.YtbphjihgbenkdaaGreat.HQ
set_option linter.unusedVariables false
set_option linter.unusedSectionVars false
set_option linter.unusedSimpArgs false
abbrev n_draft_by_int : Nat := 177
abbrev n_wal_Log_All_1 : Nat := 182
abbrev n_tome_Tome_All_1 : Nat := 187
abbrev n_slices_Backward_acts_Open_acts_Open_1 : Nat := 197
abbrev n_draft_Draft_int_All_1 : Nat := 200
abbrev n_wafer_All_1 : Nat := 203
abbrev n_cell_Row_file_File_All_1 : Nat := 205
abbrev n_draft_Draft_file_File_All_1 : Nat := 210
abbrev n_reads_Set_place_1 : Nat := 213
abbrev n_draft_by_file_File : Nat := 223
end Go.Proofs.YtbphjihgbenkdaaGreat.HQ
