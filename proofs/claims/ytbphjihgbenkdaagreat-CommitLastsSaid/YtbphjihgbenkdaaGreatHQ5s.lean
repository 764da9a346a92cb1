/- Lemmas for the row. Conditions: none. -/
import Derived.Shelf.Strings.Builder1
import Derived.Shelf.Strings.Repeat
import Derived.Test.YtbphjihgbenkdaaGreatProg
namespace Go.Proofs.YtbphjihgbenkdaaGreat.HQ
set_option linter.unusedVariables false
set_option linter.unusedSectionVars false
set_option linter.unusedSimpArgs false
open Go Go.Proofs Go.Shelf
def Tryz.lays105_ren : Go.Shelf.Ren := ⟨fun | 105 => 209 | 212 => 216 | 99 => 217 | 165 => 218 | 166 => 219 | 170 => 220 | 169 => 221 | 263 => 226 | 264 => 227 | 206 => 228 | 240 => 229 | 241 => 230 | 276 => 232 | 277 => 233 | n => n, fun | 9 => 9 | 3 => 3 | 4 => 4 | 20 => 20 | 0 => 0 | 46 => 47 | 109 => 332 | 5 => 5 | 72 => 337 | 76 => 340 | 51 => 309 | 146 => 346 | 53 => 266 | 148 => 348 | 70 => 335 | 37 => 59 | 75 => 339 | 127 => 350 | 164 => 351 | 80 => 200 | n => n, fun | n => n⟩
theorem Tryz.lays105 : Go.Proofs.Lays.n105 Tryz.prog Tryz.lays105_ren := {
 mixed := by kernel_rfl
 f99 := Tryz.func217.trans (congrArg some (by kernel_rfl))
 f105 := Tryz.func209.trans (congrArg some (by kernel_rfl))
 f165 := Tryz.func218.trans (congrArg some (by kernel_rfl))
 f166 := Tryz.func219.trans (congrArg some (by kernel_rfl))
 f169 := Tryz.func221.trans (congrArg some (by kernel_rfl))
 f170 := Tryz.func220.trans (congrArg some (by kernel_rfl))
 f206 := Tryz.func228.trans (congrArg some (by kernel_rfl))
 f212 := Tryz.func216.trans (congrArg some (by kernel_rfl))
 f240 := Tryz.func229.trans (congrArg some (by kernel_rfl))
 f241 := Tryz.func230.trans (congrArg some (by kernel_rfl))
 f263 := Tryz.func226.trans (congrArg some (by kernel_rfl))
 f264 := Tryz.func227.trans (congrArg some (by kernel_rfl))
 f276 := Tryz.func232.trans (congrArg some (by kernel_rfl))
 f277 := Tryz.func233.trans (congrArg some (by kernel_rfl))
 t0 := Tryz.underlying0
 a0 := Tryz.isAgg0
 z0 := Tryz.sizeOf0
 v0 := Tryz.zeroValue0
 t3 := Tryz.underlying3
 a3 := Tryz.isAgg3
 z3 := Tryz.sizeOf3
 v3 := Tryz.zeroValue3
 t4 := Tryz.underlying4
 a4 := Tryz.isAgg4
 z4 := Tryz.sizeOf4
 v4 := Tryz.zeroValue4
 t5 := Tryz.underlying5
 a5 := Tryz.isAgg5
 z5 := Tryz.sizeOf5
 v5 := Tryz.zeroValue5
 t9 := Tryz.underlying9
 a9 := Tryz.isAgg9
 z9 := Tryz.sizeOf9
 v9 := Tryz.zeroValue9
 t20 := Tryz.underlying20
 a20 := Tryz.isAgg20
 z20 := Tryz.sizeOf20
 v20 := Tryz.zeroValue20
 t37 := Tryz.underlying59
 a37 := Tryz.isAgg59
 z37 := Tryz.sizeOf59
 v37 := Tryz.zeroValue59
 t46 := Tryz.underlying47
 a46 := Tryz.isAgg47
 z46 := Tryz.sizeOf47
 v46 := Tryz.zeroValue47
 t51 := Tryz.underlying309
 a51 := Tryz.isAgg309
 z51 := Tryz.sizeOf309
 v51 := Tryz.zeroValue309
 t53 := Tryz.underlying266
 a53 := Tryz.isAgg266
 z53 := Tryz.sizeOf266
 v53 := Tryz.zeroValue266
 t70 := Tryz.underlying335
 a70 := Tryz.isAgg335
 z70 := Tryz.sizeOf335
 v70 := Tryz.zeroValue335
 t72 := Tryz.underlying337
 a72 := Tryz.isAgg337
 z72 := Tryz.sizeOf337
 v72 := Tryz.zeroValue337
 t75 := Tryz.underlying339
 a75 := Tryz.isAgg339
 z75 := Tryz.sizeOf339
 v75 := Tryz.zeroValue339
 t76 := Tryz.underlying340
 a76 := Tryz.isAgg340
 z76 := Tryz.sizeOf340
 v76 := Tryz.zeroValue340
 t109 := Tryz.underlying332
 a109 := Tryz.isAgg332
 z109 := Tryz.sizeOf332
 v109 := Tryz.zeroValue332
 t127 := Tryz.underlying350
 a127 := Tryz.isAgg350
 z127 := Tryz.sizeOf350
 v127 := Tryz.zeroValue350
 t146 := Tryz.underlying346
 a146 := Tryz.isAgg346
 z146 := Tryz.sizeOf346
 v146 := Tryz.zeroValue346
 t148 := Tryz.underlying348
 a148 := Tryz.isAgg348
 z148 := Tryz.sizeOf348
 v148 := Tryz.zeroValue348
 t164 := Tryz.underlying351
 a164 := Tryz.isAgg351
 z164 := Tryz.sizeOf351
 v164 := Tryz.zeroValue351 }
theorem Tryz.Builder_Extra_105 : Builder.Extra Tryz.prog Tryz.lays105_ren := {
 sizeBuilder := by kernel_rfl
 liesBuilder := by kernel_rfl
 t5 := Tryz.underlying5
 a5 := Tryz.isAgg5
 z5 := Tryz.sizeOf5
 v5 := Tryz.zeroValue5
 infoByte := by kernel_rfl
 cellsByte := by kernel_rfl
 sizeByte := by kernel_rfl
 neB5 := by decide }
open Go.RowKit Go.Lib in
theorem Tryz.strings_Repeat (s : ByteArray) (c : Nat) (w : World) (hc : c ≤ 9223372036854775807) (hlen : s.size * c ≤ 140737488355328) :
  Calls Tryz.prog 209 #[.string s, .int .i64 c] w fun e w' => e = .returned (.string ⟨(Lib.repeatL s.data.toList c).toArray⟩) ∧ Below w.heap.size w w' := Any.strings_Repeat Tryz.lays105 Tryz.Builder_Extra_105 s c w hc hlen
end Go.Proofs.YtbphjihgbenkdaaGreat.HQ
