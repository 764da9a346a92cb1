/- Lemmas for the row. Conditions: none. -/
import Derived.Test.YtbphjihgbenkdaaGreatHP5i
import Derived.Test.YtbphjihgbenkdaaGreatHP5n
namespace Go.Proofs.YtbphjihgbenkdaaGreat.HP
open Go
set_option maxRecDepth 100000
set_option linter.unusedVariables false
noncomputable def f_disk_good (D : HV → List HV → M HV) (args : List HV) : M HV :=
fin (
uI .i64 args fun x0 r =>
nl r (
jn (
cond (x0 == 0) (
ret (.norm [.bool true])) (
ret (.norm [.bool (x0 == 1)]))) fun vs =>
uB vs fun x2 r_1 =>
nl r_1 (
ret (.ret [.bool x2]))))
noncomputable def f_disk_Disk_Read (D : HV → List HV → M HV) (args : List HV) : M HV :=
fin (
uP args fun x0 r =>
uI .i64 r fun x1 r_1 =>
nl r_1 (
jn (
cond (Option.isNone x0) (
ret (.norm [.bool true])) (
bnd (f_disk_good D [I x1]) fun r_2 =>
asB r_2 fun x9 =>
ret (.norm [.bool (!x9)]))) fun vs =>
uB vs fun x11 r_3 =>
nl r_3 (
cond x11 (
ret (.ret [.str (ByteArray.mk #[])])) (
mP x0 fun x14b x14o =>
gd (decide (0 ≤ x1)) (gd (decide (x1 < (2 : Int))) (
ldC x14b (x14o + x1.toNat * 2) fun v => asS v fun x18 =>
ret (.ret [.str x18])))))))
noncomputable def f_wafer_foots (D : HV → List HV → M HV) (args : List HV) : M HV :=
fin (
uI .u32 args fun x0 r =>
nl r (
ret (.ret [.str (strB [IntKind.wrap .u8 x0, IntKind.wrap .u8 (Int.fdiv x0 (2 ^ 8)), IntKind.wrap .u8 (Int.fdiv x0 (2 ^ 16)), IntKind.wrap .u8 (Int.fdiv x0 (2 ^ 24))])])))
noncomputable def f_wafer_Sum (D : HV → List HV → M HV) (args : List HV) : M HV :=
fin (
uS args fun x0 r =>
nl r (
blk 0 (
loopD (fun vs_1 =>
uI .u32 vs_1 fun x3 r_1 =>
uI .i64 r_1 fun x7 r_2 =>
nl r_2 (
cond (decide (x7 < (x0.size : Int))) (
gd (decide (0 ≤ x7)) (gd (decide (x7 < (x0.size : Int))) (
blk 2 (
loopD (fun vs_3 =>
uI .u32 vs_3 fun x3_1 r_3 =>
uI .i64 r_3 fun x16 r_4 =>
nl r_4 (
cond (decide (x16 < 8)) (
ret (.norm [.int .u32 (IntKind.wrap .u32 ((BitVec.ofInt 32 (Int.fdiv x3_1 (2 ^ 1)) ^^^ BitVec.ofInt 32 (IntKind.wrap .u32 ((BitVec.ofInt 32 2197175160 &&& BitVec.ofInt 32 (IntKind.wrap .u32 (0 - (IntKind.wrap .u32 ((BitVec.ofInt 32 x3_1 &&& BitVec.ofInt 32 1).toNat : Int))))).toNat : Int))).toNat : Int)), I (wr (x16 + 1))])) (
ret (.exit 2 [.int .u32 x3_1])))) [.int .u32 (IntKind.wrap .u32 ((BitVec.ofInt 32 x3 ^^^ BitVec.ofInt 32 (IntKind.wrap .u32 ((x0.data[x7.toNat]?.getD 0).toNat : Int))).toNat : Int)), I 0]) fun vs_2 =>
uI .u32 vs_2 fun x3_2 r_5 =>
nl r_5 (
ret (.norm [.int .u32 x3_2, I (wr (x7 + 1))]))))) (
ret (.exit 0 [.int .u32 x3])))) [.int .u32 4294967295, I 0]) fun vs =>
uI .u32 vs fun x3_3 r_6 =>
nl r_6 (
ret (.ret [.int .u32 (IntKind.wrap .u32 ((BitVec.ofInt 32 (4294967295) ^^^ BitVec.ofInt 32 x3_3).toNat : Int))]))))
noncomputable def f_wafer_Open (D : HV → List HV → M HV) (args : List HV) : M HV :=
fin (
uS args fun x0 r =>
nl r (
cond (decide ((x0.size : Int) < 2)) (
ret (.ret [.str (ByteArray.mk #[]), I 0])) (
gd (decide (0 ≤ 0)) (gd (decide (0 < (x0.size : Int))) (
gd (decide (0 ≤ 1)) (gd (decide (1 < (x0.size : Int))) (
jn (
cond (decide ((wr ((BitVec.ofInt 64 (wr ((wr ((x0.data[(0 : Int).toNat]?.getD 0).toNat : Int)) * 2 ^ 8)) ||| BitVec.ofInt 64 (wr ((x0.data[(1 : Int).toNat]?.getD 0).toNat : Int))).toNat : Int)) > 1024)) (
ret (.norm [.bool true])) (
ret (.norm [.bool (decide ((x0.size : Int) < (wr ((wr (2 + (wr ((BitVec.ofInt 64 (wr ((wr ((x0.data[(0 : Int).toNat]?.getD 0).toNat : Int)) * 2 ^ 8)) ||| BitVec.ofInt 64 (wr ((x0.data[(1 : Int).toNat]?.getD 0).toNat : Int))).toNat : Int)))) + 4))))]))) fun vs =>
uB vs fun x27 r_1 =>
nl r_1 (
cond x27 (
ret (.ret [.str (ByteArray.mk #[]), I 0])) (
gd (decide (0 ≤ 0)) (gd (decide (0 ≤ wr (2 + (wr ((BitVec.ofInt 64 (wr ((wr ((x0.data[(0 : Int).toNat]?.getD 0).toNat : Int)) * 2 ^ 8)) ||| BitVec.ofInt 64 (wr ((x0.data[(1 : Int).toNat]?.getD 0).toNat : Int))).toNat : Int))))) (gd (decide (wr (2 + (wr ((BitVec.ofInt 64 (wr ((wr ((x0.data[(0 : Int).toNat]?.getD 0).toNat : Int)) * 2 ^ 8)) ||| BitVec.ofInt 64 (wr ((x0.data[(1 : Int).toNat]?.getD 0).toNat : Int))).toNat : Int))) ≤ (x0.size : Int))) (
bnd (f_wafer_Sum D [.str (x0.extract (0 : Int).toNat (wr (2 + (wr ((BitVec.ofInt 64 (wr ((wr ((x0.data[(0 : Int).toNat]?.getD 0).toNat : Int)) * 2 ^ 8)) ||| BitVec.ofInt 64 (wr ((x0.data[(1 : Int).toNat]?.getD 0).toNat : Int))).toNat : Int)))).toNat)]) fun r_2 =>
asI .u32 r_2 fun x32 =>
bnd (f_wafer_foots D [.int .u32 x32]) fun r_3 =>
asS r_3 fun x33 =>
gd (decide (0 ≤ wr (2 + (wr ((BitVec.ofInt 64 (wr ((wr ((x0.data[(0 : Int).toNat]?.getD 0).toNat : Int)) * 2 ^ 8)) ||| BitVec.ofInt 64 (wr ((x0.data[(1 : Int).toNat]?.getD 0).toNat : Int))).toNat : Int))))) (gd (decide (wr (2 + (wr ((BitVec.ofInt 64 (wr ((wr ((x0.data[(0 : Int).toNat]?.getD 0).toNat : Int)) * 2 ^ 8)) ||| BitVec.ofInt 64 (wr ((x0.data[(1 : Int).toNat]?.getD 0).toNat : Int))).toNat : Int))) ≤ wr ((wr (2 + (wr ((BitVec.ofInt 64 (wr ((wr ((x0.data[(0 : Int).toNat]?.getD 0).toNat : Int)) * 2 ^ 8)) ||| BitVec.ofInt 64 (wr ((x0.data[(1 : Int).toNat]?.getD 0).toNat : Int))).toNat : Int)))) + 4))) (gd (decide (wr ((wr (2 + (wr ((BitVec.ofInt 64 (wr ((wr ((x0.data[(0 : Int).toNat]?.getD 0).toNat : Int)) * 2 ^ 8)) ||| BitVec.ofInt 64 (wr ((x0.data[(1 : Int).toNat]?.getD 0).toNat : Int))).toNat : Int)))) + 4) ≤ (x0.size : Int))) (
cond (!(x33.toList == (x0.extract (wr (2 + (wr ((BitVec.ofInt 64 (wr ((wr ((x0.data[(0 : Int).toNat]?.getD 0).toNat : Int)) * 2 ^ 8)) ||| BitVec.ofInt 64 (wr ((x0.data[(1 : Int).toNat]?.getD 0).toNat : Int))).toNat : Int)))).toNat (wr ((wr (2 + (wr ((BitVec.ofInt 64 (wr ((wr ((x0.data[(0 : Int).toNat]?.getD 0).toNat : Int)) * 2 ^ 8)) ||| BitVec.ofInt 64 (wr ((x0.data[(1 : Int).toNat]?.getD 0).toNat : Int))).toNat : Int)))) + 4)).toNat).toList)) (
ret (.ret [.str (ByteArray.mk #[]), I 0])) (
gd (decide (0 ≤ 2)) (gd (decide (2 ≤ wr (2 + (wr ((BitVec.ofInt 64 (wr ((wr ((x0.data[(0 : Int).toNat]?.getD 0).toNat : Int)) * 2 ^ 8)) ||| BitVec.ofInt 64 (wr ((x0.data[(1 : Int).toNat]?.getD 0).toNat : Int))).toNat : Int))))) (gd (decide (wr (2 + (wr ((BitVec.ofInt 64 (wr ((wr ((x0.data[(0 : Int).toNat]?.getD 0).toNat : Int)) * 2 ^ 8)) ||| BitVec.ofInt 64 (wr ((x0.data[(1 : Int).toNat]?.getD 0).toNat : Int))).toNat : Int))) ≤ (x0.size : Int))) (
ret (.ret [.str (x0.extract (2 : Int).toNat (wr (2 + (wr ((BitVec.ofInt 64 (wr ((wr ((x0.data[(0 : Int).toNat]?.getD 0).toNat : Int)) * 2 ^ 8)) ||| BitVec.ofInt 64 (wr ((x0.data[(1 : Int).toNat]?.getD 0).toNat : Int))).toNat : Int)))).toNat), I (wr ((wr (2 + (wr ((BitVec.ofInt 64 (wr ((wr ((x0.data[(0 : Int).toNat]?.getD 0).toNat : Int)) * 2 ^ 8)) ||| BitVec.ofInt 64 (wr ((x0.data[(1 : Int).toNat]?.getD 0).toNat : Int))).toNat : Int)))) + 4))]))))))))))))))))))))
noncomputable def f_wafer_All_1 (D : HV → List HV → M HV) (args : List HV) : M HV :=
fin (
uc args fun x0 r =>
uP r fun x1 r_1 =>
nl r_1 (
mP x1 fun x6b x6o =>
ldC x6b x6o fun v => asS v fun x6 =>
loopD (fun vs =>
uS vs fun x3 r_2 =>
nl r_2 (
bnd (f_wafer_Open D [.str x3]) fun r_3 =>
asT r_3 fun x9l => uS x9l fun x9t0 r_4 =>
uI .i64 r_4 fun x9t1 r_5 =>
nl r_5 (
jn (
cond (x9t1 == 0) (
ret (.norm [.bool true])) (
bnd (D x0 [.str x9t0]) fun r_6 =>
asB r_6 fun x17 =>
ret (.norm [.bool (!x17)]))) fun vs_1 =>
uB vs_1 fun x19 r_7 =>
nl r_7 (
cond x19 (
ret (.ret [])) (
gd (decide (0 ≤ x9t1)) (gd (decide (x9t1 ≤ (x3.size : Int))) (gd (decide ((x3.size : Int) ≤ (x3.size : Int))) (
ret (.norm [.str (x3.extract x9t1.toNat (x3.size : Int).toNat)]))))))))) [.str x6]))
noncomputable def f_wafer_All (D : HV → List HV → M HV) (args : List HV) : M HV :=
fin (
uS args fun x0 r =>
nl r (
nw [.str x0] fun b1 =>
ret (.ret [.func n_wafer_All_1 [] [.ptr (some (b1, 0))]])))
noncomputable def f_wafer_Whole (D : HV → List HV → M HV) (args : List HV) : M HV :=
fin (
uS args fun x0 r =>
nl r (
nw [I 0] fun b3 =>
stC b3 0 (I 0) (
bnd (f_wafer_All D [.str x0]) fun r_1 =>
blk 0 (
ny r_1 (nwL 94685864 [(3, .ptr (some (b3, 0)))] fun l =>
bnd (D r_1 [.yld l]) fun q =>
endL l (
ret (.norm []))
(onX 0 (ret (.exit 0 [])) noX) (
ret (.ret [I 0])))) fun vs =>
nl vs (
ldC b3 0 fun v => asI .i64 v fun x14 =>
ret (.ret [I x14])))))
noncomputable def r0_wafer_Whole (D : HV → List HV → M HV) (l : Nat) (vs : List (Nat × HV)) (args : List HV) : M Leaf :=
gdS [3] vs fun vs' =>
uP vs' fun x3 r =>
nl r (
uS args fun x7 r_1 =>
nl r_1 (
busyL l (
mP x3 fun x8b x8o =>
ldC x8b x8o fun v => asI .i64 v fun x8 =>
mP x3 fun qb qo =>
stC qb qo (I (wr (x8 + (wr ((wr (2 + (x7.size : Int))) + 4))))) (
ret (.norm [])))))
noncomputable def f_wal_Open (D : HV → List HV → M HV) (args : List HV) : M HV :=
fin (
uP args fun x0 r =>
uI .i64 r fun x1 r_1 =>
nl r_1 (
cond (Option.isNone x0) (
ret (.ret [.ptr none, I 2])) (
jn (
cond (x1 != 0) (
ret (.norm [.bool (x1 != 1)])) (
ret (.norm [.bool false]))) fun vs =>
uB vs fun x11 r_2 =>
nl r_2 (
cond x11 (
ret (.ret [.ptr none, I 1])) (
bnd (f_disk_Disk_Read D [.ptr x0, I x1]) fun r_3 =>
asS r_3 fun x20 =>
bnd (f_wafer_Whole D [.str x20]) fun r_4 =>
asI .i64 r_4 fun x22 =>
nw [.ptr x0, I x1, I x22, .bool (decide (x22 < (x20.size : Int)))] fun b31 =>
ret (.ret [.ptr (some (b31, 0)), I 0]))))))
noncomputable def f_wal_Log_All_1 (D : HV → List HV → M HV) (args : List HV) : M HV :=
fin (
uc args fun x0 r =>
uP r fun x1 r_1 =>
nl r_1 (
nt x0 (nw (HV.cs x0) fun b2 =>
mP x1 fun x4b x4o =>
ldC x4b x4o fun v => asP v fun x4 =>
cond (Option.isNone x4) (
ret (.ret [])) (
mP x1 fun x6b x6o =>
ldC x6b x6o fun v_1 => asP v_1 fun x6 =>
mP x6 fun x7b x7o =>
ldC x7b x7o fun v_2 => asP v_2 fun x9 =>
mP x1 fun x10b x10o =>
ldC x10b x10o fun v_3 => asP v_3 fun x10 =>
mP x10 fun x11b x11o =>
ldC x11b (x11o + 1) fun v_4 => asI .i64 v_4 fun x13 =>
bnd (f_disk_Disk_Read D [.ptr x9, I x13]) fun r_2 =>
asS r_2 fun x14 =>
bnd (f_wafer_All D [.str x14]) fun r_3 =>
ny r_3 (nwL 91115101 [(2, .ptr (some (b2, 0)))] fun l =>
bnd (D r_3 [.yld l]) fun q =>
endL l (
ret (.ret []))
(onX 0 (stk) noX) (
ret (.ret [])))))))
noncomputable def r0_wal_Log_All_1 (D : HV → List HV → M HV) (l : Nat) (vs : List (Nat × HV)) (args : List HV) : M Leaf :=
gdS [2] vs fun vs' =>
uP vs' fun x2 r =>
nl r (
uS args fun x16 r_1 =>
nl r_1 (
busyL l (
mP x2 fun x17b x17o =>
ldC x17b x17o fun v => bnd (D v [.str x16]) fun r_2 =>
asB r_2 fun x19 =>
cond (!x19) (
ret (.ret [])) (
ret (.norm [])))))
noncomputable def f_wal_Log_All (D : HV → List HV → M HV) (args : List HV) : M HV :=
fin (
uP args fun x0 r =>
nl r (
nw [.ptr x0] fun b1 =>
ret (.ret [.func n_wal_Log_All_1 [] [.ptr (some (b1, 0))]])))
noncomputable def f_stylus_Of (D : HV → List HV → M HV) (args : List HV) : M HV :=
fin (
uS args fun x0 r =>
nl r (
nw [.str x0, .bool false] fun b5 =>
ret (.ret [.ptr (some (b5, 0))])))
noncomputable def f_stylus_Reader_Spoil (D : HV → List HV → M HV) (args : List HV) : M HV :=
fin (
uP args fun x0 r =>
nl r (
cond (!(Option.isNone x0)) (
mP x0 fun x6b x6o =>
stC x6b x6o (.str (ByteArray.mk #[])) (
mP x0 fun x8b x8o =>
stC x8b (x8o + 1) (.bool true) (
ret (.ret [])))) (
ret (.ret []))))
noncomputable def f_stylus_Reader_Raw (D : HV → List HV → M HV) (args : List HV) : M HV :=
fin (
uP args fun x0 r =>
uI .i64 r fun x1 r_1 =>
nl r_1 (
jn (
cond (Option.isNone x0) (
ret (.norm [.bool true])) (
mP x0 fun x10b x10o =>
ldC x10b (x10o + 1) fun v => asB v fun x12 =>
cond x12 (
ret (.norm [.bool true])) (
cond (decide (x1 < 0)) (
ret (.norm [.bool true])) (
mP x0 fun x21b x21o =>
ldC x21b x21o fun v_1 => asS v_1 fun x23 =>
ret (.norm [.bool (decide (x1 > (x23.size : Int)))]))))) fun vs =>
uB vs fun x26 r_2 =>
nl r_2 (
cond x26 (
bnd (f_stylus_Reader_Spoil D [.ptr x0]) fun r_3 =>
asT r_3 fun x28l => nl x28l (
ret (.ret [.str (ByteArray.mk #[])]))) (
mP x0 fun x30b x30o =>
ldC x30b x30o fun v_2 => asS v_2 fun x32 =>
gd (decide (0 ≤ 0)) (gd (decide (0 ≤ x1)) (gd (decide (x1 ≤ (x32.size : Int))) (
mP x0 fun x37b x37o =>
ldC x37b x37o fun v_3 => asS v_3 fun x39 =>
gd (decide (0 ≤ x1)) (gd (decide (x1 ≤ (x39.size : Int))) (gd (decide ((x39.size : Int) ≤ (x39.size : Int))) (
mP x0 fun x42b x42o =>
stC x42b x42o (.str (x39.extract x1.toNat (x39.size : Int).toNat)) (
ret (.ret [.str (x32.extract (0 : Int).toNat x1.toNat)]))))))))))))
noncomputable def f_stylus_Reader_word (D : HV → List HV → M HV) (args : List HV) : M HV :=
fin (
uP args fun x0 r =>
nl r (
blk 0 (
loopD (fun vs_1 =>
uI .u64 vs_1 fun x3 r_1 =>
uI .i64 r_1 fun x4 r_2 =>
nl r_2 (
cond (decide (x4 < 64)) (
bnd (f_stylus_Reader_Raw D [.ptr x0, I 1]) fun r_3 =>
asS r_3 fun x11 =>
jn (
cond (x11.toList == (ByteArray.mk #[]).toList) (
ret (.norm [.bool true])) (
cond (x4 == 63) (
gd (decide (0 ≤ 0)) (gd (decide (0 < (x11.size : Int))) (
cond (decide (((x11.data[(0 : Int).toNat]?.getD 0).toNat : Int) > 1)) (
ret (.norm [.bool true])) (
cond (decide (x4 > 0)) (
gd (decide (0 ≤ 0)) (gd (decide (0 < (x11.size : Int))) (
ret (.norm [.bool (((x11.data[(0 : Int).toNat]?.getD 0).toNat : Int) == 0)])))) (
ret (.norm [.bool false])))))) (
cond (decide (x4 > 0)) (
gd (decide (0 ≤ 0)) (gd (decide (0 < (x11.size : Int))) (
ret (.norm [.bool (((x11.data[(0 : Int).toNat]?.getD 0).toNat : Int) == 0)])))) (
ret (.norm [.bool false]))))) fun vs_2 =>
uB vs_2 fun x31 r_4 =>
nl r_4 (
cond x31 (
ret (.exit 0 [])) (
gd (decide (0 ≤ 0)) (gd (decide (0 < (x11.size : Int))) (
gd (decide (0 ≤ x4)) (
gd (decide (0 ≤ 0)) (gd (decide (0 < (x11.size : Int))) (
cond (decide (((x11.data[(0 : Int).toNat]?.getD 0).toNat : Int) < 128)) (
ret (.ret [.int .u64 (IntKind.wrap .u64 ((BitVec.ofInt 64 x3 ||| BitVec.ofInt 64 (IntKind.wrap .u64 ((IntKind.wrap .u64 (IntKind.wrap .u8 ((BitVec.ofInt 8 ((x11.data[(0 : Int).toNat]?.getD 0).toNat : Int) &&& BitVec.ofInt 8 127).toNat : Int))) * 2 ^ (min x4.toNat 64)))).toNat : Int))])) (
ret (.norm [.int .u64 (IntKind.wrap .u64 ((BitVec.ofInt 64 x3 ||| BitVec.ofInt 64 (IntKind.wrap .u64 ((IntKind.wrap .u64 (IntKind.wrap .u8 ((BitVec.ofInt 8 ((x11.data[(0 : Int).toNat]?.getD 0).toNat : Int) &&& BitVec.ofInt 8 127).toNat : Int))) * 2 ^ (min x4.toNat 64)))).toNat : Int)), I (wr (x4 + 7))])))))))))) (
ret (.exit 0 [])))) [.int .u64 0, I 0]) fun vs =>
nl vs (
bnd (f_stylus_Reader_Spoil D [.ptr x0]) fun r_5 =>
asT r_5 fun x45l => nl x45l (
ret (.ret [.int .u64 0])))))
noncomputable def f_stylus_Reader_Nat (D : HV → List HV → M HV) (args : List HV) : M HV :=
fin (
uP args fun x0 r =>
uI .i64 r fun x1 r_1 =>
nl r_1 (
bnd (f_stylus_Reader_word D [.ptr x0]) fun r_2 =>
asI .u64 r_2 fun x7 =>
jn (
cond (decide (x1 < 0)) (
ret (.norm [.bool true])) (
ret (.norm [.bool (decide (x7 > (IntKind.wrap .u64 x1)))]))) fun vs =>
uB vs fun x15 r_3 =>
nl r_3 (
cond x15 (
bnd (f_stylus_Reader_Spoil D [.ptr x0]) fun r_4 =>
asT r_4 fun x17l => nl x17l (
ret (.ret [I 0]))) (
ret (.ret [I (wr x7)])))))
noncomputable def f_stylus_Reader_Bad (D : HV → List HV → M HV) (args : List HV) : M HV :=
fin (
uP args fun x0 r =>
nl r (
jn (
cond (Option.isNone x0) (
ret (.norm [.bool true])) (
mP x0 fun x7b x7o =>
ldC x7b (x7o + 1) fun v => asB v fun x9 =>
ret (.norm [.bool x9]))) fun vs =>
uB vs fun x2 r_1 =>
nl r_1 (
ret (.ret [.bool x2]))))
noncomputable def f_stylus_Reader_Left (D : HV → List HV → M HV) (args : List HV) : M HV :=
fin (
uP args fun x0 r =>
nl r (
cond (Option.isNone x0) (
ret (.ret [I 0])) (
mP x0 fun x6b x6o =>
ldC x6b x6o fun v => asS v fun x8 =>
ret (.ret [I (x8.size : Int)]))))
noncomputable def f_vault_first (D : HV → List HV → M HV) (args : List HV) : M HV :=
fin (
uS args fun x0 r =>
nl r (
bnd (f_stylus_Of D [.str x0]) fun r_1 =>
asP r_1 fun x10 =>
bnd (f_stylus_Reader_Nat D [.ptr x10, I 1]) fun r_2 =>
asI .i64 r_2 fun x12 =>
bnd (f_stylus_Reader_Nat D [.ptr x10, I 1099511627776]) fun r_3 =>
asI .i64 r_3 fun x14 =>
bnd (f_stylus_Reader_Left D [.ptr x10]) fun r_4 =>
asI .i64 r_4 fun x17 =>
bnd (f_stylus_Reader_Raw D [.ptr x10, I x17]) fun r_5 =>
asS r_5 fun x18 =>
jn (
bnd (f_stylus_Reader_Bad D [.ptr x10]) fun r_6 =>
asB r_6 fun x22 =>
cond (!x22) (
cond (x12 == 0) (
ret (.norm [I x14, .str x18, .bool (decide (x14 > 0))])) (
ret (.norm [I x14, .str x18, .bool false]))) (
ret (.norm [I x14, .str x18, .bool false]))) fun vs =>
uI .i64 vs fun x2 r_7 =>
uS r_7 fun x3 r_8 =>
uB r_8 fun x4 r_9 =>
nl r_9 (
ret (.ret [I x2, .str x3, .bool x4]))))
noncomputable def f_vault_look (D : HV → List HV → M HV) (args : List HV) : M HV :=
fin (
uP args fun x0 r =>
nl r (
nw [I 0] fun b2 =>
nw [.str (ByteArray.mk #[]), .sl (⟨none, 0, 0, none⟩)] fun b3 =>
nw [.str (ByteArray.mk #[]), .sl (⟨none, 0, 0, none⟩)] fun b4 =>
nw [I 0] fun b5 =>
nw [I 0] fun b6 =>
stC b5 0 (I 0) (
stC b6 0 (I 0) (
bnd (f_wal_Log_All D [.ptr x0]) fun r_1 =>
blk 0 (
ny r_1 (nwL 69547369 [(2, .ptr (some (b2, 0))), (3, .ptr (some (b3, 0))), (4, .ptr (some (b4, 0))), (5, .ptr (some (b5, 0))), (6, .ptr (some (b6, 0)))] fun l =>
bnd (D r_1 [.yld l]) fun q =>
endL l (
ret (.norm []))
(onX 0 (ret (.exit 0 [])) noX) (
ldC b2 0 fun v => asI .i64 v fun z0 =>
ldN b3 0 2 fun z1l =>
uS z1l fun z1c0 r_2 =>
uL r_2 fun z1c1 r_3 =>
nl r_3 (
ret (.ret [I z0, .agg [.str z1c0, .sl z1c1]]))))) fun vs =>
nl vs (
snp true fun h =>
ldC b5 0 fun v_1 => asI .i64 v_1 fun x44 =>
snp true fun h_1 =>
ldN b4 0 2 fun x45l =>
uS x45l fun x45c0 r_4 =>
uL r_4 fun x45c1 r_5 =>
nl r_5 (
snp true fun h_2 =>
stC b2 0 (I x44) (
snp true fun h_3 =>
gdP ((h_3.get b4 = h_2.get b4 ∧ h_2.get b4 = h_1.get b4 ∧ h_1.get b4 = h.get b4 ∧ True) ∧ True) (
stN b3 0 [.str x45c0, .sl x45c1] (
ldC b2 0 fun v_2 => asI .i64 v_2 fun z0_1 =>
ldN b3 0 2 fun z1l_1 =>
uS z1l_1 fun z1c0_1 r_6 =>
uL r_6 fun z1c1_1 r_7 =>
nl r_7 (
ret (.ret [I z0_1, .agg [.str z1c0_1, .sl z1c1_1]])))))))))))
noncomputable def r0_vault_look (D : HV → List HV → M HV) (l : Nat) (vs : List (Nat × HV)) (args : List HV) : M Leaf :=
gdS [2, 3, 4, 5, 6] vs fun vs' =>
uP vs' fun x2 r =>
uP r fun x3 r_1 =>
uP r_1 fun x4 r_2 =>
uP r_2 fun x5 r_3 =>
uP r_3 fun x6 r_4 =>
nl r_4 (
uS args fun x13 r_5 =>
nl r_5 (
busyL l (
blk 1 (
mP x6 fun x14b x14o =>
ldC x14b x14o fun v => asI .i64 v fun x14 =>
mP x6 fun qb qo =>
stC qb qo (I (wr (x14 + 1))) (
mP x6 fun x16b x16o =>
ldC x16b x16o fun v_1 => asI .i64 v_1 fun x16 =>
cond (x16 == 1) (
bnd (f_vault_first D [.str x13]) fun r_6 =>
asT r_6 fun x20l => uI .i64 x20l fun x20t0 r_7 =>
uS r_7 fun x20t1 r_8 =>
uB r_8 fun x20t2 r_9 =>
nl r_9 (
cond (!x20t2) (
mP x2 fun qb_1 qo_1 =>
stC qb_1 qo_1 (I 0) (
mP x3 fun qb_2 qo_2 =>
stN qb_2 qo_2 [.str (ByteArray.mk #[]), .sl (⟨none, 0, 0, none⟩)] (
ret (.ret [])))) (
mP x5 fun qb_3 qo_3 =>
stC qb_3 qo_3 (I x20t0) (
mP x4 fun x29b x29o =>
stC x29b x29o (.str x20t1) (
ret (.exit 1 [])))))) (
jn (
cond (x13.toList == (ByteArray.mk #[]).toList) (
ret (.norm [.bool true])) (
gd (decide (0 ≤ 0)) (gd (decide (0 < (x13.size : Int))) (
ret (.norm [.bool (((x13.data[(0 : Int).toNat]?.getD 0).toNat : Int) != 1)]))))) fun vs_2 =>
uB vs_2 fun x36 r_10 =>
nl r_10 (
cond x36 (
ret (.exit 0 [])) (
mP x4 fun x37b x37o =>
ldC x37b (x37o + 1) fun v_2 => asSl v_2 fun x38 =>
gd (decide (0 ≤ 1)) (gd (decide (1 ≤ (x13.size : Int))) (gd (decide ((x13.size : Int) ≤ (x13.size : Int))) (
apd x38 1 16 1 [.str (x13.extract (1 : Int).toNat (x13.size : Int).toNat)] fun x42 =>
mP x4 fun x43b x43o =>
stC x43b (x43o + 1) (.sl x42) (
ret (.norm [])))))))))) fun vs_1 =>
nl vs_1 (
ret (.norm [])))))
noncomputable def f_vault_Open (D : HV → List HV → M HV) (args : List HV) : M HV :=
fin (
uP args fun x0 r =>
nl r (
cond (Option.isNone x0) (
ret (.ret [.ptr none, .agg [.str (ByteArray.mk #[]), .sl (⟨none, 0, 0, none⟩)], I 2])) (
nw [.ptr x0, .ptr none, I 0, .bool false] fun b17 =>
blk 0 (
loopD (fun vs_1 =>
uI .i64 vs_1 fun x18 r_1 =>
uA r_1 fun y6 r_2 =>
uS y6 fun y6c0 r_3 =>
uL r_3 fun y6c1 r_4 =>
nl r_4 (
nl r_2 (
cond (decide (x18 < 2)) (
blk 1 (
bnd (f_wal_Open D [.ptr x0, I x18]) fun r_5 =>
asT r_5 fun x24l => uP x24l fun x24t0 r_6 =>
uI .i64 r_6 fun x24t1 r_7 =>
nl r_7 (
bnd (f_vault_look D [.ptr x24t0]) fun r_8 =>
asT r_8 fun x29l => uI .i64 x29l fun x29t0 r_9 =>
uA r_9 fun x29t1l r_10 =>
uS x29t1l fun x29t1c0 r_11 =>
uL r_11 fun x29t1c1 r_12 =>
nl r_12 (
nl r_10 (
jn (
ldC b17 1 fun v => asP v fun x35 =>
cond (Option.isNone x35) (
ret (.norm [.bool true])) (
ldC b17 2 fun v_1 => asI .i64 v_1 fun x42 =>
ret (.norm [.bool (decide (x29t0 > x42))]))) fun vs_3 =>
uB vs_3 fun x44 r_13 =>
nl r_13 (
cond x44 (
stC b17 1 (.ptr x24t0) (
stC b17 2 (I x29t0) (
ret (.norm [.agg [.str x29t1c0, .sl x29t1c1]])))) (
ret (.norm [.agg [.str y6c0, .sl y6c1]]))))))) fun vs_2 =>
uA vs_2 fun y6_1 r_14 =>
uS y6_1 fun y6c0_1 r_15 =>
uL r_15 fun y6c1_1 r_16 =>
nl r_16 (
nl r_14 (
ret (.norm [I (wr (x18 + 1)), .agg [.str y6c0_1, .sl y6c1_1]])))) (
ret (.exit 0 [.agg [.str y6c0, .sl y6c1]]))))) [I 0, .agg [.str (ByteArray.mk #[]), .sl (⟨none, 0, 0, none⟩)]]) fun vs =>
uA vs fun y6_2 r_17 =>
uS y6_2 fun y6c0_2 r_18 =>
uL r_18 fun y6c1_2 r_19 =>
nl r_19 (
nl r_17 (
ret (.ret [.ptr (some (b17, 0)), .agg [.str y6c0_2, .sl y6c1_2], I 0]))))))
noncomputable def f_cell_New_file_File (D : HV → List HV → M HV) (args : List HV) : M HV :=
fin (
uI .i64 args fun x0 r =>
uA r fun x1l r_1 =>
uB x1l fun x1c0 r_2 =>
uS r_2 fun x1c1 r_3 =>
nl r_3 (
nl r_1 (
nw [.sl (⟨none, 0, 0, none⟩)] fun b7 =>
blk 0 (
loopD (fun vs_1 =>
uI .i64 vs_1 fun x9 r_4 =>
nl r_4 (
cond (decide (x9 < x0)) (
ldC b7 0 fun v => asSl v fun x15 =>
apd x15 3 32 1 [.bool x1c0, .str x1c1, I 0] fun x19 =>
stC b7 0 (.sl x19) (
ret (.norm [I (wr (x9 + 1))]))) (
ret (.exit 0 [])))) [I 0]) fun vs =>
nl vs (
ret (.ret [.ptr (some (b7, 0))])))))
noncomputable def f_tome_New (D : HV → List HV → M HV) (args : List HV) : M HV :=
fin (
nl args (
bnd (f_cell_New_file_File D [I 6, .agg [.bool false, .str (ByteArray.mk #[])]]) fun r =>
asP r fun x2 =>
nw [.ptr x2] fun b4 =>
ret (.ret [.ptr (some (b4, 0))])))
noncomputable def f_stylus_Reader_Text (D : HV → List HV → M HV) (args : List HV) : M HV :=
fin (
uP args fun x0 r =>
uI .i64 r fun x1 r_1 =>
nl r_1 (
bnd (f_stylus_Reader_Nat D [.ptr x0, I x1]) fun r_2 =>
asI .i64 r_2 fun x8 =>
bnd (f_stylus_Reader_Raw D [.ptr x0, I x8]) fun r_3 =>
asS r_3 fun x9 =>
ret (.ret [.str x9])))
noncomputable def f_file_Good (D : HV → List HV → M HV) (args : List HV) : M HV :=
fin (
uA args fun x0l r =>
uB x0l fun x0c0 r_1 =>
uS r_1 fun x0c1 r_2 =>
nl r_2 (
nl r (
jn (
cond (decide ((x0c1.size : Int) ≤ 32)) (
cond x0c0 (
ret (.norm [.bool true])) (
ret (.norm [.bool (x0c1.toList == (ByteArray.mk #[]).toList)]))) (
ret (.norm [.bool false]))) fun vs =>
uB vs fun x2 r_3 =>
nl r_3 (
ret (.ret [.bool x2])))))
noncomputable def f_cell_Row_file_File_is (D : HV → List HV → M HV) (args : List HV) : M HV :=
fin (
uP args fun x0 r =>
uI .i64 r fun x1 r_1 =>
nl r_1 (
jn (
cond (!(Option.isNone x0)) (
cond (decide (x1 ≥ 0)) (
mP x0 fun x14b x14o =>
ldC x14b x14o fun v => asSl v fun x16 =>
ret (.norm [.bool (decide (x1 < (x16.len : Int)))])) (
ret (.norm [.bool false]))) (
ret (.norm [.bool false]))) fun vs =>
uB vs fun x4 r_2 =>
nl r_2 (
ret (.ret [.bool x4]))))
noncomputable def f_cell_Row_file_File_Set (D : HV → List HV → M HV) (args : List HV) : M HV :=
fin (
uP args fun x0 r =>
uI .i64 r fun x1 r_1 =>
uA r_1 fun x2l r_2 =>
uB x2l fun x2c0 r_3 =>
uS r_3 fun x2c1 r_4 =>
nl r_4 (
uI .i64 r_2 fun x3 r_5 =>
nl r_5 (
bnd (f_cell_Row_file_File_is D [.ptr x0, I x1]) fun r_6 =>
asB r_6 fun x11 =>
cond (!x11) (
ret (.ret [.bool false])) (
mP x0 fun x14b x14o =>
ldC x14b x14o fun v => asSl v fun x16 =>
ix x16 x1 3 fun x21b x21o =>
stN x21b x21o [.bool x2c0, .str x2c1, I x3] (
ret (.ret [.bool true]))))))
noncomputable def f_tome_Tome_Set (D : HV → List HV → M HV) (args : List HV) : M HV :=
fin (
uP args fun x0 r =>
uI .i64 r fun x1 r_1 =>
uA r_1 fun x2l r_2 =>
uB x2l fun x2c0 r_3 =>
uS r_3 fun x2c1 r_4 =>
nl r_4 (
uI .i64 r_2 fun x3 r_5 =>
nl r_5 (
jn (
cond (!(Option.isNone x0)) (
bnd (f_file_Good D [.agg [.bool x2c0, .str x2c1]]) fun r_6 =>
asB r_6 fun x13 =>
cond x13 (
mP x0 fun x17b x17o =>
ldC x17b x17o fun v => asP v fun x19 =>
bnd (f_cell_Row_file_File_Set D [.ptr x19, I x1, .agg [.bool x2c0, .str x2c1], I x3]) fun r_7 =>
asB r_7 fun x23 =>
ret (.norm [.bool x23])) (
ret (.norm [.bool false]))) (
ret (.norm [.bool false]))) fun vs =>
uB vs fun x8 r_8 =>
nl r_8 (
ret (.ret [.bool x8])))))
noncomputable def f_tome_Read (D : HV → List HV → M HV) (args : List HV) : M HV :=
fin (
uS args fun x0 r =>
nl r (
bnd (f_tome_New D []) fun r_1 =>
asP r_1 fun x9 =>
bnd (f_stylus_Of D [.str x0]) fun r_2 =>
asP r_2 fun x11 =>
blk 0 (
loopD (fun vs_1 =>
uI .i64 vs_1 fun x6 r_3 =>
nl r_3 (
bnd (f_stylus_Reader_Left D [.ptr x11]) fun r_4 =>
asI .i64 r_4 fun x13 =>
cond (decide (x13 > 0)) (
bnd (f_stylus_Reader_Nat D [.ptr x11, I 5]) fun r_5 =>
asI .i64 r_5 fun x16 =>
bnd (f_stylus_Reader_Text D [.ptr x11, I 32]) fun r_6 =>
asS r_6 fun x18 =>
jn (
bnd (f_stylus_Reader_Bad D [.ptr x11]) fun r_7 =>
asB r_7 fun x20 =>
cond x20 (
ret (.norm [.bool true])) (
ret (.norm [.bool (decide (x16 ≤ x6))]))) fun vs_2 =>
uB vs_2 fun x25 r_8 =>
nl r_8 (
cond x25 (
ret (.ret [.ptr none, .bool false])) (
bnd (f_tome_Tome_Set D [.ptr x9, I x16, .agg [.bool true, .str x18], I 0]) fun r_9 =>
asB r_9 fun x30 =>
ret (.norm [I x16])))) (
ret (.exit 0 [])))) [I (-1)]) fun vs =>
nl vs (
ret (.ret [.ptr x9, .bool true]))))
noncomputable def f_world_read (D : HV → List HV → M HV) (args : List HV) : M HV :=
fin (
uS args fun x0 r =>
nl r (
cond (x0.toList == (ByteArray.mk #[]).toList) (
bnd (f_tome_New D []) fun r_1 =>
asP r_1 fun x11 =>
ret (.ret [I 0, .ptr x11, .bool true])) (
bnd (f_stylus_Of D [.str x0]) fun r_2 =>
asP r_2 fun x13 =>
bnd (f_stylus_Reader_Nat D [.ptr x13, I 1099511627776]) fun r_3 =>
asI .i64 r_3 fun x15 =>
bnd (f_stylus_Reader_Bad D [.ptr x13]) fun r_4 =>
asB r_4 fun x17 =>
cond x17 (
ret (.ret [I 0, .ptr none, .bool false])) (
bnd (f_stylus_Reader_Left D [.ptr x13]) fun r_5 =>
asI .i64 r_5 fun x21 =>
bnd (f_stylus_Reader_Raw D [.ptr x13, I x21]) fun r_6 =>
asS r_6 fun x22 =>
bnd (f_tome_Read D [.str x22]) fun r_7 =>
asT r_7 fun x23l => uP x23l fun x23t0 r_8 =>
uB r_8 fun x23t1 r_9 =>
nl r_9 (
ret (.ret [I x15, .ptr x23t0, .bool x23t1]))))))
noncomputable def f_redo_Read (D : HV → List HV → M HV) (args : List HV) : M HV :=
fin (
uS args fun x0 r =>
nl r (
bnd (f_stylus_Of D [.str x0]) fun r_1 =>
asP r_1 fun x11 =>
bnd (f_stylus_Reader_Nat D [.ptr x11, I 1099511627776]) fun r_2 =>
asI .i64 r_2 fun x13 =>
blk 0 (
loopD (fun vs_1 =>
uL vs_1 fun x7 r_3 =>
uI .i64 r_3 fun x8 r_4 =>
nl r_4 (
bnd (f_stylus_Reader_Left D [.ptr x11]) fun r_5 =>
asI .i64 r_5 fun x15 =>
cond (decide (x15 > 0)) (
bnd (f_stylus_Reader_Nat D [.ptr x11, I 5]) fun r_6 =>
asI .i64 r_6 fun x18 =>
bnd (f_stylus_Reader_Nat D [.ptr x11, I 1]) fun r_7 =>
asI .i64 r_7 fun x21 =>
jn (
cond (x21 == 1) (
bnd (f_stylus_Reader_Text D [.ptr x11, I 32]) fun r_8 =>
asS r_8 fun x24 =>
ret (.norm [.agg [I x18, .bool true, .str x24]])) (
ret (.norm [.agg [I x18, .bool false, .str (ByteArray.mk #[])]]))) fun vs_2 =>
uA vs_2 fun y9 r_9 =>
uI .i64 y9 fun y9c0 r_10 =>
uB r_10 fun y9c1 r_11 =>
uS r_11 fun y9c2 r_12 =>
nl r_12 (
nl r_9 (
jn (
bnd (f_stylus_Reader_Bad D [.ptr x11]) fun r_13 =>
asB r_13 fun x28 =>
cond x28 (
ret (.norm [.bool true])) (
ret (.norm [.bool (decide (y9c0 ≤ x8))]))) fun vs_3 =>
uB vs_3 fun x34 r_14 =>
nl r_14 (
cond x34 (
ret (.ret [I 0, .sl (⟨none, 0, 0, none⟩), .bool false])) (
apd x7 3 32 1 [I y9c0, .bool y9c1, .str y9c2] fun x40 =>
ret (.norm [.sl x40, I y9c0])))))) (
ret (.exit 0 [.sl x7])))) [.sl (⟨none, 0, 0, none⟩), I (-1)]) fun vs =>
uL vs fun x7_1 r_15 =>
nl r_15 (
bnd (f_stylus_Reader_Bad D [.ptr x11]) fun r_16 =>
asB r_16 fun x42 =>
cond x42 (
ret (.ret [I 0, .sl (⟨none, 0, 0, none⟩), .bool false])) (
ret (.ret [I x13, .sl x7_1, .bool true])))))
noncomputable def f_redo_Apply (D : HV → List HV → M HV) (args : List HV) : M HV :=
fin (
uP args fun x0 r =>
uL r fun x1 r_1 =>
uI .i64 r_1 fun x2 r_2 =>
nl r_2 (
blk 0 (
loopD (fun vs_1 =>
uI .i64 vs_1 fun x10 r_3 =>
nl r_3 (
cond (decide (x10 < (x1.len : Int))) (
ix x1 x10 3 fun x12b x12o =>
ldN x12b x12o 3 fun x13l =>
uI .i64 x13l fun x13c0 r_4 =>
uB r_4 fun x13c1 r_5 =>
uS r_5 fun x13c2 r_6 =>
nl r_6 (
bnd (f_tome_Tome_Set D [.ptr x0, I x13c0, .agg [.bool x13c1, .str x13c2], I x2]) fun r_7 =>
asB r_7 fun x20 =>
ret (.norm [I (wr (x10 + 1))]))) (
ret (.exit 0 [])))) [I 0]) fun vs =>
nl vs (
ret (.ret []))))
noncomputable def f_redo_Replay (D : HV → List HV → M HV) (args : List HV) : M HV :=
fin (
uP args fun x0 r =>
uL r fun x1 r_1 =>
nl r_1 (
blk 0 (
loopD (fun vs_1 =>
uI .i64 vs_1 fun x6 r_2 =>
uI .i64 r_2 fun x14 r_3 =>
nl r_3 (
cond (decide (x14 < (x1.len : Int))) (
ix x1 x14 1 fun x17b x17o =>
ldC x17b x17o fun v => asS v fun x18 =>
bnd (f_redo_Read D [.str x18]) fun r_4 =>
asT r_4 fun x21l => uI .i64 x21l fun x21t0 r_5 =>
uL r_5 fun x21t1 r_6 =>
uB r_6 fun x21t2 r_7 =>
nl r_7 (
cond (!x21t2) (
ret (.ret [I x6, I x14])) (
bnd (f_redo_Apply D [.ptr x0, .sl x21t1, I 0]) fun r_8 =>
asT r_8 fun x31l => nl x31l (
ret (.norm [I (bif decide (x21t0 > x6) then x21t0 else x6), I (wr (x14 + 1))]))))) (
ret (.exit 0 [I x6])))) [I 0, I 0]) fun vs =>
uI .i64 vs fun x6_1 r_9 =>
nl r_9 (
ret (.ret [I x6_1, I (x1.len : Int)]))))
noncomputable def f_stylus_Stylus_Nat (D : HV → List HV → M HV) (args : List HV) : M HV :=
fin (
uP args fun x0 r =>
uL r fun x1 r_1 =>
nl r_1 (
blk 0 (
loopD (fun vs_1 =>
uI .i64 vs_1 fun x8 r_2 =>
nl r_2 (
cond (decide (x8 < (x1.len : Int))) (
blk 1 (
ix x1 x8 1 fun x10b x10o =>
ldC x10b x10o fun v => asI .i64 v fun x11 =>
cond (decide (x11 < 0)) (
ret (.exit 1 [])) (
blk 2 (
loopD (fun vs_4 =>
uI .i64 vs_4 fun x5 r_3 =>
nl r_3 (
cond (decide (x5 ≥ 128)) (
mP x0 fun x18b x18o =>
ldC x18b x18o fun v_1 => asSl v_1 fun x20 =>
apd x20 1 1 1 [.int .u8 (IntKind.wrap .u8 ((BitVec.ofInt 8 (IntKind.wrap .u8 x5) ||| BitVec.ofInt 8 128).toNat : Int))] fun x25 =>
mP x0 fun x26b x26o =>
stC x26b x26o (.sl x25) (
ret (.norm [I (Int.fdiv x5 (2 ^ 7))]))) (
ret (.exit 2 [I x5])))) [I x11]) fun vs_3 =>
uI .i64 vs_3 fun x5_1 r_4 =>
nl r_4 (
mP x0 fun x32b x32o =>
ldC x32b x32o fun v_2 => asSl v_2 fun x34 =>
apd x34 1 1 1 [.int .u8 (IntKind.wrap .u8 x5_1)] fun x38 =>
mP x0 fun x39b x39o =>
stC x39b x39o (.sl x38) (
ret (.norm []))))) fun vs_2 =>
nl vs_2 (
ret (.norm [I (wr (x8 + 1))]))) (
ret (.exit 0 [])))) [I 0]) fun vs =>
nl vs (
ret (.ret []))))
noncomputable def f_stylus_Stylus_Raw (D : HV → List HV → M HV) (args : List HV) : M HV :=
fin (
uP args fun x0 r =>
uS r fun x1 r_1 =>
nl r_1 (
mP x0 fun x6b x6o =>
ldC x6b x6o fun v => asSl v fun x8 =>
apdU 5 x8 1 1 x1.size (bytesHV x1) fun x10 =>
mP x0 fun x11b x11o =>
stC x11b x11o (.sl x10) (
ret (.ret []))))
noncomputable def f_stylus_Stylus_Bytes (D : HV → List HV → M HV) (args : List HV) : M HV :=
fin (
uP args fun x0 r =>
nl r (
mP x0 fun x4b x4o =>
ldC x4b x4o fun v => asSl v fun x6 =>
rdS x6 1 fun vs =>
gd (decide (vs.length = x6.len)) (strM vs fun x7s =>
ret (.ret [.str x7s]))))
noncomputable def f_wal_Log_Area (D : HV → List HV → M HV) (args : List HV) : M HV :=
fin (
uP args fun x0 r =>
nl r (
cond (Option.isNone x0) (
ret (.ret [I 0])) (
mP x0 fun x6b x6o =>
ldC x6b (x6o + 1) fun v => asI .i64 v fun x8 =>
ret (.ret [I x8]))))
noncomputable def f_disk_Disk_Reset (D : HV → List HV → M HV) (args : List HV) : M HV :=
fin (
uP args fun x0 r =>
uI .i64 r fun x1 r_1 =>
nl r_1 (
cond (Option.isNone x0) (
ret (.ret [I 2])) (
bnd (f_disk_good D [I x1]) fun r_2 =>
asB r_2 fun x10 =>
cond (!x10) (
ret (.ret [I 1])) (
mP x0 fun x14b x14o =>
gd (decide (0 ≤ x1)) (gd (decide (x1 < (2 : Int))) (
stC x14b (x14o + x1.toNat * 2) (.str (ByteArray.mk #[])) (
mP x0 fun x20b x20o =>
ldC x20b (x20o + 4) fun v => asSl v fun x22 =>
apd x22 3 32 1 [I x1, .bool true, .str (ByteArray.mk #[])] fun x26 =>
mP x0 fun x27b x27o =>
stC x27b (x27o + 4) (.sl x26) (
ret (.ret [I 0])))))))))
noncomputable def f_wal_Log_Clear (D : HV → List HV → M HV) (args : List HV) : M HV :=
fin (
uP args fun x0 r =>
nl r (
cond (!(Option.isNone x0)) (
mP x0 fun x5b x5o =>
ldC x5b x5o fun v => asP v fun x7 =>
mP x0 fun x9b x9o =>
ldC x9b (x9o + 1) fun v_1 => asI .i64 v_1 fun x11 =>
bnd (f_disk_Disk_Reset D [.ptr x7, I x11]) fun r_1 =>
asI .i64 r_1 fun x12 =>
mP x0 fun x15b x15o =>
stC x15b (x15o + 2) (I 0) (
mP x0 fun x17b x17o =>
stC x17b (x17o + 3) (.bool false) (
ret (.ret [])))) (
ret (.ret []))))
noncomputable def f_disk_Disk_land (D : HV → List HV → M HV) (args : List HV) : M HV :=
fin (
uP args fun x0 r =>
uA r fun x1l r_1 =>
uI .i64 x1l fun x1c0 r_2 =>
uB r_2 fun x1c1 r_3 =>
uS r_3 fun x1c2 r_4 =>
nl r_4 (
nl r_1 (
cond x1c1 (
mP x0 fun x9b x9o =>
gd (decide (0 ≤ x1c0)) (gd (decide (x1c0 < (2 : Int))) (
stC x9b (x9o + x1c0.toNat * 2 + 1) (.str (ByteArray.mk #[])) (
ret (.ret []))))) (
mP x0 fun x16b x16o =>
gd (decide (0 ≤ x1c0)) (gd (decide (x1c0 < (2 : Int))) (
ldC x16b (x16o + x1c0.toNat * 2 + 1) fun v => asS v fun x20 =>
gd (decide (x20.size + x1c2.size ≤ 9223372036854775807)) (
mP x0 fun x24b x24o =>
gd (decide (0 ≤ x1c0)) (gd (decide (x1c0 < (2 : Int))) (
stC x24b (x24o + x1c0.toNat * 2 + 1) (.str (x20 ++ x1c2)) (
ret (.ret [])))))))))))
noncomputable def f_disk_Disk_Sync (D : HV → List HV → M HV) (args : List HV) : M HV :=
fin (
uP args fun x0 r =>
nl r (
cond (Option.isNone x0) (
ret (.ret [])) (
mP x0 fun x7b x7o =>
ldC x7b (x7o + 4) fun v => asSl v fun x9 =>
blk 0 (
loopD (fun vs_1 =>
uI .i64 vs_1 fun x11 r_1 =>
nl r_1 (
cond (decide (x11 < (x9.len : Int))) (
ix x9 x11 3 fun x13b x13o =>
ldN x13b x13o 3 fun x14l =>
uI .i64 x14l fun x14c0 r_2 =>
uB r_2 fun x14c1 r_3 =>
uS r_3 fun x14c2 r_4 =>
nl r_4 (
bnd (f_disk_Disk_land D [.ptr x0, .agg [I x14c0, .bool x14c1, .str x14c2]]) fun r_5 =>
asT r_5 fun x17l => nl x17l (
ret (.norm [I (wr (x11 + 1))])))) (
ret (.exit 0 [])))) [I 0]) fun vs =>
nl vs (
mP x0 fun x20b x20o =>
stC x20b (x20o + 4) (.sl (⟨none, 0, 0, none⟩)) (
ret (.ret []))))))
noncomputable def f_wal_Log_Force (D : HV → List HV → M HV) (args : List HV) : M HV :=
fin (
uP args fun x0 r =>
nl r (
cond (!(Option.isNone x0)) (
mP x0 fun x5b x5o =>
ldC x5b x5o fun v => asP v fun x7 =>
bnd (f_disk_Disk_Sync D [.ptr x7]) fun r_1 =>
asT r_1 fun x8l => nl x8l (
ret (.ret []))) (
ret (.ret []))))
noncomputable def f_wafer_Close (D : HV → List HV → M HV) (args : List HV) : M HV :=
fin (
uS args fun x0 r =>
nl r (
cond (decide ((x0.size : Int) > 1024)) (
ret (.ret [.str (ByteArray.mk #[])])) (
gd (decide ((strB [IntKind.wrap .u8 (Int.fdiv (x0.size : Int) (2 ^ 8)), IntKind.wrap .u8 (x0.size : Int)]).size + x0.size ≤ 9223372036854775807)) (
bnd (f_wafer_Sum D [.str ((strB [IntKind.wrap .u8 (Int.fdiv (x0.size : Int) (2 ^ 8)), IntKind.wrap .u8 (x0.size : Int)]) ++ x0)]) fun r_1 =>
asI .u32 r_1 fun x20 =>
bnd (f_wafer_foots D [.int .u32 x20]) fun r_2 =>
asS r_2 fun x21 =>
gd (decide (((strB [IntKind.wrap .u8 (Int.fdiv (x0.size : Int) (2 ^ 8)), IntKind.wrap .u8 (x0.size : Int)]) ++ x0).size + x21.size ≤ 9223372036854775807)) (
ret (.ret [.str (((strB [IntKind.wrap .u8 (Int.fdiv (x0.size : Int) (2 ^ 8)), IntKind.wrap .u8 (x0.size : Int)]) ++ x0) ++ x21)]))))))
noncomputable def f_disk_Disk_Append (D : HV → List HV → M HV) (args : List HV) : M HV :=
fin (
uP args fun x0 r =>
uI .i64 r fun x1 r_1 =>
uS r_1 fun x2 r_2 =>
nl r_2 (
cond (Option.isNone x0) (
ret (.ret [I 2])) (
bnd (f_disk_good D [I x1]) fun r_3 =>
asB r_3 fun x12 =>
cond (!x12) (
ret (.ret [I 1])) (
mP x0 fun x19b x19o =>
gd (decide (0 ≤ x1)) (gd (decide (x1 < (2 : Int))) (
ldC x19b (x19o + x1.toNat * 2) fun v => asS v fun x23 =>
cond (decide ((x2.size : Int) > (wr (16384 - (x23.size : Int))))) (
ret (.ret [I 6])) (
mP x0 fun x29b x29o =>
gd (decide (0 ≤ x1)) (gd (decide (x1 < (2 : Int))) (
ldC x29b (x29o + x1.toNat * 2) fun v_1 => asS v_1 fun x33 =>
gd (decide (x33.size + x2.size ≤ 9223372036854775807)) (
mP x0 fun x36b x36o =>
gd (decide (0 ≤ x1)) (gd (decide (x1 < (2 : Int))) (
stC x36b (x36o + x1.toNat * 2) (.str (x33 ++ x2)) (
mP x0 fun x42b x42o =>
ldC x42b (x42o + 4) fun v_2 => asSl v_2 fun x44 =>
apd x44 3 32 1 [I x1, .bool false, .str x2] fun x49 =>
mP x0 fun x50b x50o =>
stC x50b (x50o + 4) (.sl x49) (
ret (.ret [I 0])))))))))))))))
noncomputable def f_wal_Log_Append (D : HV → List HV → M HV) (args : List HV) : M HV :=
fin (
uP args fun x0 r =>
uS r fun x1 r_1 =>
nl r_1 (
cond (Option.isNone x0) (
ret (.ret [I 2])) (
cond (decide ((x1.size : Int) > 1024)) (
ret (.ret [I 3])) (
mP x0 fun x16b x16o =>
ldC x16b (x16o + 3) fun v => asB v fun x18 =>
cond x18 (
ret (.ret [I 9])) (
bnd (f_wafer_Close D [.str x1]) fun r_2 =>
asS r_2 fun x20 =>
mP x0 fun x22b x22o =>
ldC x22b x22o fun v_1 => asP v_1 fun x24 =>
mP x0 fun x26b x26o =>
ldC x26b (x26o + 1) fun v_2 => asI .i64 v_2 fun x28 =>
bnd (f_disk_Disk_Append D [.ptr x24, I x28, .str x20]) fun r_3 =>
asI .i64 r_3 fun x30 =>
cond (x30 != 0) (
ret (.ret [I x30])) (
mP x0 fun x35b x35o =>
ldC x35b (x35o + 2) fun v_3 => asI .i64 v_3 fun x37 =>
mP x0 fun x41b x41o =>
stC x41b (x41o + 2) (I (wr (x37 + (x20.size : Int)))) (
ret (.ret [I 0]))))))))
noncomputable def f_vault_Vault_Settle (D : HV → List HV → M HV) (args : List HV) : M HV :=
fin (
uP args fun x0 r =>
uS r fun x1 r_1 =>
nl r_1 (
cond (Option.isNone x0) (
ret (.ret [I 2])) (
mP x0 fun x14b x14o =>
ldC x14b (x14o + 2) fun v => asI .i64 v fun x16 =>
cond (decide (x16 ≥ 1099511627776)) (
ret (.ret [I 6])) (
nw [.sl (⟨none, 0, 0, none⟩)] fun b19 =>
mP x0 fun x22b x22o =>
ldC x22b (x22o + 2) fun v_1 => asI .i64 v_1 fun x24 =>
nw [I 0, I (wr (x24 + 1))] fun b26 =>
bnd (f_stylus_Stylus_Nat D [.ptr (some (b19, 0)), .sl (⟨some (b26, 0), 2, 2, none⟩)]) fun r_2 =>
asT r_2 fun x27l => nl x27l (
bnd (f_stylus_Stylus_Raw D [.ptr (some (b19, 0)), .str x1]) fun r_3 =>
asT r_3 fun x30l => nl x30l (
bnd (f_stylus_Stylus_Bytes D [.ptr (some (b19, 0))]) fun r_4 =>
asS r_4 fun x32 =>
cond (decide ((x32.size : Int) > 1024)) (
ret (.ret [I 3])) (
mP x0 fun x36b x36o =>
ldC x36b (x36o + 1) fun v_2 => asP v_2 fun x38 =>
snp true fun h =>
snp true fun h_1 =>
mP x0 fun x41b x41o =>
snp true fun h_2 =>
snp true fun h_3 =>
ldC x41b x41o fun v_3 => asP v_3 fun x43 =>
snp true fun h_4 =>
snp true fun h_5 =>
bnd (f_wal_Log_Area D [.ptr x38]) fun r_5 =>
asI .i64 r_5 fun x45 =>
snp true fun h_6 =>
snp true fun h_7 =>
bnd (f_wal_Open D [.ptr x43, I (wr (1 - x45))]) fun r_6 =>
asT r_6 fun x47l => uP x47l fun x47t0 r_7 =>
uI .i64 r_7 fun x47t1 r_8 =>
nl r_8 (
snp true fun h_8 =>
snp true fun h_9 =>
snp true fun h_10 =>
snp true fun h_11 =>
snp true fun h_12 =>
gdP ((h_12.get x41b = h_11.get x41b ∧ h_11.get x41b = h_10.get x41b ∧ h_10.get x41b = h_9.get x41b ∧ h_9.get x41b = h_8.get x41b ∧ h_8.get x41b = h_7.get x41b ∧ h_7.get x41b = h_6.get x41b ∧ h_6.get x41b = h_5.get x41b ∧ h_5.get x41b = h_4.get x41b ∧ h_4.get x41b = h_3.get x41b ∧ h_3.get x41b = h_2.get x41b ∧ h_2.get x41b = h_1.get x41b ∧ h_1.get x41b = h.get x41b ∧ True) ∧ True) (
bnd (f_wal_Log_Clear D [.ptr x47t0]) fun r_9 =>
asT r_9 fun x51l => nl x51l (
bnd (f_wal_Log_Force D [.ptr x47t0]) fun r_10 =>
asT r_10 fun x53l => nl x53l (
bnd (f_stylus_Stylus_Bytes D [.ptr (some (b19, 0))]) fun r_11 =>
asS r_11 fun x56 =>
bnd (f_wal_Log_Append D [.ptr x47t0, .str x56]) fun r_12 =>
asI .i64 r_12 fun x57 =>
bnd (f_wal_Log_Force D [.ptr x47t0]) fun r_13 =>
asT r_13 fun x59l => nl x59l (
bnd (f_wal_Log_Clear D [.ptr x38]) fun r_14 =>
asT r_14 fun x61l => nl x61l (
bnd (f_wal_Log_Force D [.ptr x38]) fun r_15 =>
asT r_15 fun x63l => nl x63l (
mP x0 fun x69b x69o =>
ldC x69b (x69o + 2) fun v_4 => asI .i64 v_4 fun x71 =>
mP x0 fun x73b x73o =>
stC x73b (x73o + 1) (.ptr x47t0) (
mP x0 fun x75b x75o =>
stC x75b (x75o + 2) (I (wr (x71 + 1))) (
mP x0 fun x77b x77o =>
stC x77b (x77o + 3) (.bool true) (
ret (.ret [I 0]))))))))))))))))))
noncomputable def f_cell_Row_file_File_All_1 (D : HV → List HV → M HV) (args : List HV) : M HV :=
fin (
uc args fun x0 r =>
uP r fun x1 r_1 =>
nl r_1 (
mP x1 fun x5b x5o =>
ldC x5b x5o fun v => asP v fun x5 =>
cond (Option.isNone x5) (
ret (.ret [])) (
mP x1 fun x7b x7o =>
ldC x7b x7o fun v_1 => asP v_1 fun x7 =>
mP x7 fun x8b x8o =>
ldC x8b x8o fun v_2 => asSl v_2 fun x10 =>
blk 0 (
loopD (fun vs_1 =>
uI .i64 vs_1 fun x12 r_2 =>
nl r_2 (
cond (decide (x12 < (x10.len : Int))) (
ix x10 x12 3 fun x15b x15o =>
ldN x15b x15o 3 fun x16l =>
uB x16l fun x16c0 r_3 =>
uS r_3 fun x16c1 r_4 =>
uI .i64 r_4 fun x16c2 r_5 =>
nl r_5 (
bnd (D x0 [I x12, .agg [.bool x16c0, .str x16c1]]) fun r_6 =>
asB r_6 fun x21 =>
cond (!x21) (
ret (.ret [])) (
ret (.norm [I (wr (x12 + 1))])))) (
ret (.exit 0 [])))) [I 0]) fun vs =>
nl vs (
ret (.ret [])))))
noncomputable def f_cell_Row_file_File_All (D : HV → List HV → M HV) (args : List HV) : M HV :=
fin (
uP args fun x0 r =>
nl r (
nw [.ptr x0] fun b1 =>
ret (.ret [.func n_cell_Row_file_File_All_1 [] [.ptr (some (b1, 0))]])))
noncomputable def f_tome_Tome_All_1 (D : HV → List HV → M HV) (args : List HV) : M HV :=
fin (
uc args fun x0 r =>
uP r fun x1 r_1 =>
nl r_1 (
nt x0 (nw (HV.cs x0) fun b2 =>
mP x1 fun x5b x5o =>
ldC x5b x5o fun v => asP v fun x5 =>
cond (Option.isNone x5) (
ret (.ret [])) (
mP x1 fun x7b x7o =>
ldC x7b x7o fun v_1 => asP v_1 fun x7 =>
mP x7 fun x8b x8o =>
ldC x8b x8o fun v_2 => asP v_2 fun x10 =>
bnd (f_cell_Row_file_File_All D [.ptr x10]) fun r_2 =>
ny r_2 (nwL 71670451 [(2, .ptr (some (b2, 0)))] fun l =>
bnd (D r_2 [.yld l]) fun q =>
endL l (
ret (.ret []))
(onX 0 (stk) noX) (
ret (.ret [])))))))
noncomputable def r0_tome_Tome_All_1 (D : HV → List HV → M HV) (l : Nat) (vs : List (Nat × HV)) (args : List HV) : M Leaf :=
gdS [2] vs fun vs' =>
uP vs' fun x2 r =>
nl r (
uI .i64 args fun x12 r_1 =>
uA r_1 fun x13l r_2 =>
uB x13l fun x13c0 r_3 =>
uS r_3 fun x13c1 r_4 =>
nl r_4 (
nl r_2 (
busyL l (
jn (
cond x13c0 (
mP x2 fun x17b x17o =>
ldC x17b x17o fun v => bnd (D v [I x12, .agg [.bool x13c0, .str x13c1]]) fun r_5 =>
asB r_5 fun x20 =>
ret (.norm [.bool (!x20)])) (
ret (.norm [.bool false]))) fun vs_1 =>
uB vs_1 fun x22 r_6 =>
nl r_6 (
cond x22 (
ret (.ret [])) (
ret (.norm [])))))))
noncomputable def f_tome_Tome_All (D : HV → List HV → M HV) (args : List HV) : M HV :=
fin (
uP args fun x0 r =>
nl r (
nw [.ptr x0] fun b1 =>
ret (.ret [.func n_tome_Tome_All_1 [] [.ptr (some (b1, 0))]])))
noncomputable def f_stylus_Stylus_Text (D : HV → List HV → M HV) (args : List HV) : M HV :=
fin (
uP args fun x0 r =>
uL r fun x1 r_1 =>
nl r_1 (
blk 0 (
loopD (fun vs_1 =>
uI .i64 vs_1 fun x8 r_2 =>
nl r_2 (
cond (decide (x8 < (x1.len : Int))) (
ix x1 x8 1 fun x10b x10o =>
ldC x10b x10o fun v => asS v fun x11 =>
nw [I (x11.size : Int)] fun b15 =>
bnd (f_stylus_Stylus_Nat D [.ptr x0, .sl (⟨some (b15, 0), 1, 1, none⟩)]) fun r_3 =>
asT r_3 fun x16l => nl x16l (
bnd (f_stylus_Stylus_Raw D [.ptr x0, .str x11]) fun r_4 =>
asT r_4 fun x19l => nl x19l (
ret (.norm [I (wr (x8 + 1))])))) (
ret (.exit 0 [])))) [I 0]) fun vs =>
nl vs (
ret (.ret []))))
noncomputable def f_tome_Tome_Bytes (D : HV → List HV → M HV) (args : List HV) : M HV :=
fin (
uP args fun x0 r =>
nl r (
nw [.sl (⟨none, 0, 0, none⟩)] fun b7 =>
nw [.ptr none] fun b3 =>
stC b3 0 (.ptr (some (b7, 0))) (
bnd (f_tome_Tome_All D [.ptr x0]) fun r_1 =>
blk 0 (
ny r_1 (nwL 38705704 [(3, .ptr (some (b3, 0)))] fun l =>
bnd (D r_1 [.yld l]) fun q =>
endL l (
ret (.norm []))
(onX 0 (ret (.exit 0 [])) noX) (
ret (.ret [.str (ByteArray.mk #[])])))) fun vs =>
nl vs (
ldC b3 0 fun v => asP v fun x21 =>
bnd (f_stylus_Stylus_Bytes D [.ptr x21]) fun r_2 =>
asS r_2 fun x22 =>
ret (.ret [.str x22])))))
noncomputable def r0_tome_Tome_Bytes (D : HV → List HV → M HV) (l : Nat) (vs : List (Nat × HV)) (args : List HV) : M Leaf :=
gdS [3] vs fun vs' =>
uP vs' fun x3 r =>
nl r (
uI .i64 args fun x10 r_1 =>
uA r_1 fun x11l r_2 =>
uB x11l fun x11c0 r_3 =>
uS r_3 fun x11c1 r_4 =>
nl r_4 (
nl r_2 (
busyL l (
mP x3 fun x12b x12o =>
ldC x12b x12o fun v => asP v fun x12 =>
nw [I x10] fun b14 =>
bnd (f_stylus_Stylus_Nat D [.ptr x12, .sl (⟨some (b14, 0), 1, 1, none⟩)]) fun r_5 =>
asT r_5 fun x15l => nl x15l (
mP x3 fun x16b x16o =>
ldC x16b x16o fun v_1 => asP v_1 fun x16 =>
nw [.str x11c1] fun b19 =>
bnd (f_stylus_Stylus_Text D [.ptr x16, .sl (⟨some (b19, 0), 1, 1, none⟩)]) fun r_6 =>
asT r_6 fun x20l => nl x20l (
ret (.norm [])))))))
noncomputable def f_world_image (D : HV → List HV → M HV) (args : List HV) : M HV :=
fin (
uI .i64 args fun x0 r =>
uP r fun x1 r_1 =>
nl r_1 (
nw [.sl (⟨none, 0, 0, none⟩)] fun b7 =>
nw [I x0] fun b10 =>
bnd (f_stylus_Stylus_Nat D [.ptr (some (b7, 0)), .sl (⟨some (b10, 0), 1, 1, none⟩)]) fun r_2 =>
asT r_2 fun x11l => nl x11l (
bnd (f_tome_Tome_Bytes D [.ptr x1]) fun r_3 =>
asS r_3 fun x14 =>
bnd (f_stylus_Stylus_Raw D [.ptr (some (b7, 0)), .str x14]) fun r_4 =>
asT r_4 fun x15l => nl x15l (
bnd (f_stylus_Stylus_Bytes D [.ptr (some (b7, 0))]) fun r_5 =>
asS r_5 fun x17 =>
ret (.ret [.str x17])))))
noncomputable def f_cell_New_int (D : HV → List HV → M HV) (args : List HV) : M HV :=
fin (
uI .i64 args fun x0 r =>
uI .i64 r fun x1 r_1 =>
nl r_1 (
nw [.sl (⟨none, 0, 0, none⟩)] fun b7 =>
blk 0 (
loopD (fun vs_1 =>
uI .i64 vs_1 fun x9 r_2 =>
nl r_2 (
cond (decide (x9 < x0)) (
ldC b7 0 fun v => asSl v fun x15 =>
apd x15 2 16 1 [I x1, I 0] fun x19 =>
stC b7 0 (.sl x19) (
ret (.norm [I (wr (x9 + 1))]))) (
ret (.exit 0 [])))) [I 0]) fun vs =>
nl vs (
ret (.ret [.ptr (some (b7, 0))]))))
noncomputable def f_feed_New (D : HV → List HV → M HV) (args : List HV) : M HV :=
fin (
nl args (
bnd (f_cell_New_int D [I 3, I 0]) fun r =>
asP r fun x1 =>
nw [.str (ByteArray.mk #[]), .str (ByteArray.mk #[]), .str (ByteArray.mk #[]), .ptr x1] fun b3 =>
ret (.ret [.ptr (some (b3, 0))])))
noncomputable def f_attempt_NewView (D : HV → List HV → M HV) (args : List HV) : M HV :=
fin (
nl args (
bnd (f_cell_New_int D [I 8, I 0]) fun r =>
asP r fun x1 =>
bnd (f_tome_New D []) fun r_1 =>
asP r_1 fun x2 =>
bnd (f_feed_New D []) fun r_2 =>
asP r_2 fun x3 =>
nw [.ptr x1, .ptr x2, .ptr x3, I 0] fun b5 =>
ret (.ret [.ptr (some (b5, 0))])))
noncomputable def f_wire_New (D : HV → List HV → M HV) (args : List HV) : M HV :=
fin (
nl args (
nw [.str (ByteArray.mk #[]), .str (ByteArray.mk #[]), .str (ByteArray.mk #[]), .str (ByteArray.mk #[]), .str (ByteArray.mk #[]), .str (ByteArray.mk #[]), .str (ByteArray.mk #[]), .str (ByteArray.mk #[]), .str (ByteArray.mk #[])] fun b2 =>
ret (.ret [.ptr (some (b2, 0))])))
noncomputable def f_token_New (D : HV → List HV → M HV) (args : List HV) : M HV :=
fin (
nl args (
nw [I (-1), .bool false, I (-1)] fun b2 =>
ret (.ret [.ptr (some (b2, 0))])))
noncomputable def f_world_Open (D : HV → List HV → M HV) (args : List HV) : M HV :=
fin (
uP args fun x0 r =>
nl r (
bnd (f_vault_Open D [.ptr x0]) fun r_1 =>
asT r_1 fun x16l => uP x16l fun x16t0 r_2 =>
uA r_2 fun x16t1l r_3 =>
uS x16t1l fun x16t1c0 r_4 =>
uL r_4 fun x16t1c1 r_5 =>
nl r_5 (
uI .i64 r_3 fun x16t2 r_6 =>
nl r_6 (
cond (x16t2 != 0) (
ret (.ret [.ptr none, I x16t2])) (
bnd (f_world_read D [.str x16t1c0]) fun r_7 =>
asT r_7 fun x26l => uI .i64 x26l fun x26t0 r_8 =>
uP r_8 fun x26t1 r_9 =>
uB r_9 fun x26t2 r_10 =>
nl r_10 (
cond (!x26t2) (
ret (.ret [.ptr none, I 4])) (
bnd (f_redo_Replay D [.ptr x26t1, .sl x16t1c1]) fun r_11 =>
asT r_11 fun x36l => uI .i64 x36l fun x36t0 r_12 =>
uI .i64 r_12 fun x36t1 r_13 =>
nl r_13 (
cond (decide (x36t1 < (x16t1c1.len : Int))) (
ret (.ret [.ptr none, I 4])) (
bnd (f_world_image D [I (bif decide (x36t0 > x26t0) then x36t0 else x26t0), .ptr x26t1]) fun r_14 =>
asS r_14 fun x50 =>
bnd (f_vault_Vault_Settle D [.ptr x16t0, .str x50]) fun r_15 =>
asI .i64 r_15 fun x51 =>
cond (x51 != 0) (
ret (.ret [.ptr none, I x51])) (
bnd (f_attempt_NewView D []) fun r_16 =>
asP r_16 fun x55 =>
bnd (f_wire_New D []) fun r_17 =>
asP r_17 fun x56 =>
bnd (f_token_New D []) fun r_18 =>
asP r_18 fun x57 =>
nw [.ptr x55, .ptr x56, .ptr x57, .ptr x0, .ptr x16t0, I 0, I 0, I 0, I 0, .sl (⟨none, 0, 0, none⟩), I (bif decide (x36t0 > x26t0) then x36t0 else x26t0), I 0] fun b62 =>
ldC b62 0 fun v => asP v fun x66 =>
mP x66 fun x68b x68o =>
stC x68b (x68o + 1) (.ptr x26t1) (
ret (.ret [.ptr (some (b62, 0)), I 0]))))))))))))
noncomputable def f_disk_New (D : HV → List HV → M HV) (args : List HV) : M HV :=
fin (
nl args (
nw [.str (ByteArray.mk #[]), .str (ByteArray.mk #[]), .str (ByteArray.mk #[]), .str (ByteArray.mk #[]), .sl (⟨none, 0, 0, none⟩)] fun b2 =>
ret (.ret [.ptr (some (b2, 0))])))
noncomputable def f_commit_New (D : HV → List HV → M HV) (args : List HV) : M HV :=
fin (
uI .i64 args fun x0 r =>
uP r fun x1 r_1 =>
nl r_1 (
jn (
cond (Option.isNone x1) (
ret (.norm [.bool true])) (
ret (.norm [.bool (decide (x0 < 0))]))) fun vs =>
uB vs fun x10 r_2 =>
nl r_2 (
cond x10 (
ret (.ret [.ptr none])) (
nw [I x0, .ptr x1, I 0] fun b14 =>
ret (.ret [.ptr (some (b14, 0))])))))
noncomputable def f_commit_Commit_Phase (D : HV → List HV → M HV) (args : List HV) : M HV :=
fin (
uP args fun x0 r =>
nl r (
cond (Option.isNone x0) (
ret (.ret [I 0])) (
mP x0 fun x6b x6o =>
ldC x6b (x6o + 2) fun v => asI .i64 v fun x8 =>
ret (.ret [I x8]))))
noncomputable def f_draft_Draft_int_Len (D : HV → List HV → M HV) (args : List HV) : M HV :=
fin (
uP args fun x0 r =>
nl r (
cond (Option.isNone x0) (
ret (.ret [I 0])) (
mP x0 fun x6b x6o =>
ldC x6b x6o fun v => asSl v fun x8 =>
ret (.ret [I (x8.len : Int)]))))
noncomputable def f_sheet_Sheet_Draft (D : HV → List HV → M HV) (args : List HV) : M HV :=
fin (
uP args fun x0 r =>
nl r (
cond (Option.isNone x0) (
ret (.ret [.ptr none])) (
mP x0 fun x6b x6o =>
ldC x6b x6o fun v => asP v fun x8 =>
ret (.ret [.ptr x8]))))
noncomputable def f_draft_Draft_file_File_Len (D : HV → List HV → M HV) (args : List HV) : M HV :=
fin (
uP args fun x0 r =>
nl r (
cond (Option.isNone x0) (
ret (.ret [I 0])) (
mP x0 fun x6b x6o =>
ldC x6b x6o fun v => asSl v fun x8 =>
ret (.ret [I (x8.len : Int)]))))
noncomputable def f_attempt_Attempt_Writes (D : HV → List HV → M HV) (args : List HV) : M HV :=
fin (
uP args fun x0 r =>
nl r (
cond (Option.isNone x0) (
ret (.ret [I 0, I 0])) (
snp true fun h =>
snp true fun h_1 =>
mP x0 fun x7b x7o =>
snp true fun h_2 =>
snp true fun h_3 =>
snp true fun h_4 =>
ldC x7b (x7o + 2) fun v => asP v fun x10 =>
snp true fun h_5 =>
bnd (f_draft_Draft_int_Len D [.ptr x10]) fun r_1 =>
asI .i64 r_1 fun x11 =>
snp true fun h_6 =>
snp true fun h_7 =>
mP x0 fun x13b x13o =>
snp true fun h_8 =>
snp true fun h_9 =>
snp true fun h_10 =>
ldC x13b (x13o + 2 + 1) fun v_1 => asP v_1 fun x16 =>
snp true fun h_11 =>
gdP ((h_11.get x13b = h_10.get x13b ∧ h_10.get x13b = h_9.get x13b ∧ h_9.get x13b = h_8.get x13b ∧ h_8.get x13b = h_7.get x13b ∧ h_7.get x13b = h_6.get x13b ∧ h_6.get x13b = h_5.get x13b ∧ h_5.get x13b = h_4.get x13b ∧ h_4.get x13b = h_3.get x13b ∧ h_3.get x13b = h_2.get x13b ∧ h_2.get x13b = h_1.get x13b ∧ h_1.get x13b = h.get x13b ∧ True) ∧ True) (
bnd (f_sheet_Sheet_Draft D [.ptr x16]) fun r_2 =>
asP r_2 fun x17 =>
bnd (f_draft_Draft_file_File_Len D [.ptr x17]) fun r_3 =>
asI .i64 r_3 fun x18 =>
ret (.ret [I x11, I x18])))))
noncomputable def f_world_World_Token (D : HV → List HV → M HV) (args : List HV) : M HV :=
fin (
uP args fun x0 r =>
nl r (
cond (Option.isNone x0) (
ret (.ret [.ptr none])) (
mP x0 fun x6b x6o =>
ldC x6b (x6o + 2) fun v => asP v fun x8 =>
ret (.ret [.ptr x8]))))
noncomputable def f_token_Token_Free (D : HV → List HV → M HV) (args : List HV) : M HV :=
fin (
uP args fun x0 r =>
uI .i64 r fun x1 r_1 =>
nl r_1 (
jn (
cond (!(Option.isNone x0)) (
cond (decide (x1 ≥ 0)) (
mP x0 fun x13b x13o =>
ldC x13b x13o fun v => asI .i64 v fun x15 =>
cond (x15 == (-1)) (
mP x0 fun x28b x28o =>
ldC x28b (x28o + 2) fun v_1 => asI .i64 v_1 fun x30 =>
cond (x30 == (-1)) (
ret (.norm [.bool true])) (
mP x0 fun x34b x34o =>
ldC x34b (x34o + 2) fun v_2 => asI .i64 v_2 fun x36 =>
ret (.norm [.bool (x36 == x1)]))) (
mP x0 fun x19b x19o =>
ldC x19b x19o fun v_3 => asI .i64 v_3 fun x21 =>
cond (x21 == x1) (
mP x0 fun x28b_1 x28o_1 =>
ldC x28b_1 (x28o_1 + 2) fun v_4 => asI .i64 v_4 fun x30_1 =>
cond (x30_1 == (-1)) (
ret (.norm [.bool true])) (
mP x0 fun x34b_1 x34o_1 =>
ldC x34b_1 (x34o_1 + 2) fun v_5 => asI .i64 v_5 fun x36_1 =>
ret (.norm [.bool (x36_1 == x1)]))) (
ret (.norm [.bool false])))) (
ret (.norm [.bool false]))) (
ret (.norm [.bool false]))) fun vs =>
uB vs fun x4 r_2 =>
nl r_2 (
ret (.ret [.bool x4]))))
noncomputable def f_reads_Now_Of (D : HV → List HV → M HV) (args : List HV) : M HV :=
fin (
uA args fun x0l r =>
uI .i64 r fun x1 r_1 =>
uI .i64 r_1 fun x2 r_2 =>
nl r_2 (
jn (
cond (decide (x1 < 0)) (
ret (.norm [.bool true])) (
cond (decide (x1 > 2)) (
ret (.norm [.bool true])) (
cond (decide (x2 < 0)) (
ret (.norm [.bool true])) (
ret (.norm [.bool (decide (x2 ≥ 8))]))))) fun vs =>
uB vs fun x20 r_3 =>
nl r_3 (
cond x20 (
ret (.ret [I 0])) (
gd (decide (0 ≤ x1)) (gd (decide (x1 < (3 : Int))) (
gd (decide (0 ≤ x2)) (gd (decide (x2 < (8 : Int))) (
gx x0l (0 + x1.toNat * 8 + x2.toNat * 1) fun v => asI .i64 v fun x26 =>
ret (.ret [I x26])))))))))
noncomputable def f_reads_Set_Valid (D : HV → List HV → M HV) (args : List HV) : M HV :=
fin (
uP args fun x0 r =>
uA r fun x1l r_1 =>
nl r_1 (
cond (Option.isNone x0) (
ret (.ret [.bool true])) (
mP x0 fun x10b x10o =>
ldC x10b x10o fun v => asSl v fun x12 =>
blk 0 (
loopD (fun vs_1 =>
uI .i64 vs_1 fun x14 r_2 =>
nl r_2 (
cond (decide (x14 < (x12.len : Int))) (
ix x12 x14 3 fun x16b x16o =>
ldN x16b x16o 3 fun x17l =>
uI .i64 x17l fun x17c0 r_3 =>
uI .i64 r_3 fun x17c1 r_4 =>
uI .i64 r_4 fun x17c2 r_5 =>
nl r_5 (
gxN x1l 0 25 fun x18l =>
bnd (f_reads_Now_Of D [.agg x18l, I x17c0, I x17c1]) fun r_6 =>
asI .i64 r_6 fun x23 =>
cond (x23 != x17c2) (
ret (.ret [.bool false])) (
ret (.norm [I (wr (x14 + 1))])))) (
ret (.exit 0 [])))) [I 0]) fun vs =>
nl vs (
ret (.ret [.bool true])))))
noncomputable def f_cell_Row_file_File_Get (D : HV → List HV → M HV) (args : List HV) : M HV :=
fin (
uP args fun x0 r =>
uI .i64 r fun x1 r_1 =>
nl r_1 (
bnd (f_cell_Row_file_File_is D [.ptr x0, I x1]) fun r_2 =>
asB r_2 fun x9 =>
cond (!x9) (
ret (.ret [.agg [.bool false, .str (ByteArray.mk #[])], I 0])) (
mP x0 fun x13b x13o =>
ldC x13b x13o fun v => asSl v fun x15 =>
ix x15 x1 3 fun x17b x17o =>
ldN x17b x17o 2 fun x19l =>
uB x19l fun x19c0 r_3 =>
uS r_3 fun x19c1 r_4 =>
nl r_4 (
mP x0 fun x21b x21o =>
ldC x21b x21o fun v_1 => asSl v_1 fun x23 =>
ix x23 x1 3 fun x25b x25o =>
ldC x25b (x25o + 2) fun v_2 => asI .i64 v_2 fun x27 =>
ret (.ret [.agg [.bool x19c0, .str x19c1], I x27])))))
noncomputable def f_tome_Tome_Get (D : HV → List HV → M HV) (args : List HV) : M HV :=
fin (
uP args fun x0 r =>
uI .i64 r fun x1 r_1 =>
nl r_1 (
cond (Option.isNone x0) (
ret (.ret [.agg [.bool false, .str (ByteArray.mk #[])], I 0])) (
mP x0 fun x10b x10o =>
ldC x10b x10o fun v => asP v fun x12 =>
bnd (f_cell_Row_file_File_Get D [.ptr x12, I x1]) fun r_2 =>
asT r_2 fun x14l => uA x14l fun x14t0l r_3 =>
uB x14t0l fun x14t0c0 r_4 =>
uS r_4 fun x14t0c1 r_5 =>
nl r_5 (
uI .i64 r_3 fun x14t1 r_6 =>
nl r_6 (
ret (.ret [.agg [.bool x14t0c0, .str x14t0c1], I x14t1]))))))
noncomputable def f_cell_Row_int_is (D : HV → List HV → M HV) (args : List HV) : M HV :=
fin (
uP args fun x0 r =>
uI .i64 r fun x1 r_1 =>
nl r_1 (
jn (
cond (!(Option.isNone x0)) (
cond (decide (x1 ≥ 0)) (
mP x0 fun x14b x14o =>
ldC x14b x14o fun v => asSl v fun x16 =>
ret (.norm [.bool (decide (x1 < (x16.len : Int)))])) (
ret (.norm [.bool false]))) (
ret (.norm [.bool false]))) fun vs =>
uB vs fun x4 r_2 =>
nl r_2 (
ret (.ret [.bool x4]))))
noncomputable def f_cell_Row_int_Get (D : HV → List HV → M HV) (args : List HV) : M HV :=
fin (
uP args fun x0 r =>
uI .i64 r fun x1 r_1 =>
nl r_1 (
bnd (f_cell_Row_int_is D [.ptr x0, I x1]) fun r_2 =>
asB r_2 fun x9 =>
cond (!x9) (
ret (.ret [I 0, I 0])) (
mP x0 fun x13b x13o =>
ldC x13b x13o fun v => asSl v fun x15 =>
ix x15 x1 2 fun x17b x17o =>
ldC x17b x17o fun v_1 => asI .i64 v_1 fun x19 =>
mP x0 fun x21b x21o =>
ldC x21b x21o fun v_2 => asSl v_2 fun x23 =>
ix x23 x1 2 fun x25b x25o =>
ldC x25b (x25o + 1) fun v_3 => asI .i64 v_3 fun x27 =>
ret (.ret [I x19, I x27]))))
noncomputable def f_feed_Feed_Place (D : HV → List HV → M HV) (args : List HV) : M HV :=
fin (
uP args fun x0 r =>
uI .i64 r fun x1 r_1 =>
nl r_1 (
cond (Option.isNone x0) (
ret (.ret [I 0, I 0])) (
mP x0 fun x9b x9o =>
ldC x9b (x9o + 3) fun v => asP v fun x11 =>
bnd (f_cell_Row_int_Get D [.ptr x11, I x1]) fun r_2 =>
asT r_2 fun x13l => uI .i64 x13l fun x13t0 r_3 =>
uI .i64 r_3 fun x13t1 r_4 =>
nl r_4 (
ret (.ret [I x13t0, I x13t1])))))
noncomputable def f_cell_Row_int_Version (D : HV → List HV → M HV) (args : List HV) : M HV :=
fin (
uP args fun x0 r =>
uI .i64 r fun x1 r_1 =>
nl r_1 (
bnd (f_cell_Row_int_Get D [.ptr x0, I x1]) fun r_2 =>
asT r_2 fun x10l => uI .i64 x10l fun x10t0 r_3 =>
uI .i64 r_3 fun x10t1 r_4 =>
nl r_4 (
ret (.ret [I x10t1]))))
noncomputable def f_attempt_View_Now (D : HV → List HV → M HV) (args : List HV) : M HV :=
fin (
uP args fun x0 r =>
nl r (
cond (Option.isNone x0) (
ret (.ret [.agg [I 0, I 0, I 0, I 0, I 0, I 0, I 0, I 0, I 0, I 0, I 0, I 0, I 0, I 0, I 0, I 0, I 0, I 0, I 0, I 0, I 0, I 0, I 0, I 0, I 0]])) (
mP x0 fun x11b x11o =>
ldC x11b (x11o + 3) fun v => asI .i64 v fun x13 =>
blk 0 (
loopD (fun vs_1 =>
uI .i64 vs_1 fun x15 r_1 =>
uA r_1 fun y3 r_2 =>
nl r_2 (
cond (decide (x15 < 8)) (
mP x0 fun x20b x20o =>
ldC x20b x20o fun v_1 => asP v_1 fun x22 =>
bnd (f_cell_Row_int_Version D [.ptr x22, I x15]) fun r_3 =>
asI .i64 r_3 fun x24 =>
gd (decide (0 ≤ x15)) (gd (decide (x15 < (8 : Int))) (
gd (decide (0 + x15.toNat * 1 < y3.length)) (
ret (.norm [I (wr (x15 + 1)), .agg (List.set y3 (0 + x15.toNat * 1) (I x24))]))))) (
ret (.exit 0 [.agg y3])))) [I 0, .agg [I 0, I 0, I 0, I 0, I 0, I 0, I 0, I 0, I 0, I 0, I 0, I 0, I 0, I 0, I 0, I 0, I 0, I 0, I 0, I 0, I 0, I 0, I 0, I 0, I x13]]) fun vs =>
uA vs fun y3_1 r_4 =>
nl r_4 (
blk 2 (
loopD (fun vs_3 =>
uI .i64 vs_3 fun x29 r_5 =>
uA r_5 fun y3_2 r_6 =>
nl r_6 (
cond (decide (x29 < 6)) (
mP x0 fun x35b x35o =>
ldC x35b (x35o + 1) fun v_2 => asP v_2 fun x37 =>
bnd (f_tome_Tome_Get D [.ptr x37, I x29]) fun r_7 =>
asT r_7 fun x39l => uA x39l fun x39t0l r_8 =>
uB x39t0l fun x39t0c0 r_9 =>
uS r_9 fun x39t0c1 r_10 =>
nl r_10 (
uI .i64 r_8 fun x39t1 r_11 =>
nl r_11 (
gd (decide (0 ≤ x29)) (gd (decide (x29 < (8 : Int))) (
gd (decide (8 + x29.toNat * 1 < y3_2.length)) (
ret (.norm [I (wr (x29 + 1)), .agg (List.set y3_2 (8 + x29.toNat * 1) (I x39t1))]))))))) (
ret (.exit 2 [.agg y3_2])))) [I 0, .agg y3_1]) fun vs_2 =>
uA vs_2 fun y3_3 r_12 =>
nl r_12 (
blk 4 (
loopD (fun vs_5 =>
uI .i64 vs_5 fun x46 r_13 =>
uA r_13 fun y3_4 r_14 =>
nl r_14 (
cond (decide (x46 < 3)) (
mP x0 fun x52b x52o =>
ldC x52b (x52o + 2) fun v_3 => asP v_3 fun x54 =>
bnd (f_feed_Feed_Place D [.ptr x54, I x46]) fun r_15 =>
asT r_15 fun x56l => uI .i64 x56l fun x56t0 r_16 =>
uI .i64 r_16 fun x56t1 r_17 =>
nl r_17 (
gd (decide (0 ≤ x46)) (gd (decide (x46 < (8 : Int))) (
gd (decide (16 + x46.toNat * 1 < y3_4.length)) (
ret (.norm [I (wr (x46 + 1)), .agg (List.set y3_4 (16 + x46.toNat * 1) (I x56t1))])))))) (
ret (.exit 4 [.agg y3_4])))) [I 0, .agg y3_3]) fun vs_4 =>
uA vs_4 fun y3_5 r_18 =>
nl r_18 (
gxN y3_5 0 25 fun x63l =>
gd (Nat.beq x63l.length 25) (
gd (Nat.ble (0 + x63l.length) (([I 0, I 0, I 0, I 0, I 0, I 0, I 0, I 0, I 0, I 0, I 0, I 0, I 0, I 0, I 0, I 0, I 0, I 0, I 0, I 0, I 0, I 0, I 0, I 0, I 0]) : List HV).length) (
gxN (putN [I 0, I 0, I 0, I 0, I 0, I 0, I 0, I 0, I 0, I 0, I 0, I 0, I 0, I 0, I 0, I 0, I 0, I 0, I 0, I 0, I 0, I 0, I 0, I 0, I 0] 0 x63l) 0 25 fun z0l =>
ret (.ret [.agg z0l])))))))))
noncomputable def f_attempt_Attempt_Valid (D : HV → List HV → M HV) (args : List HV) : M HV :=
fin (
uP args fun x0 r =>
nl r (
jn (
snp true fun h =>
snp true fun h_1 =>
snp true fun h_2 =>
snp true fun h_3 =>
cond (!(Option.isNone x0)) (
snp true fun h_4 =>
mP x0 fun x7b x7o =>
snp true fun h_5 =>
snp true fun h_6 =>
ldC x7b (x7o + 1) fun v => asP v fun x9 =>
snp true fun h_7 =>
snp true fun h_8 =>
mP x0 fun x11b x11o =>
snp true fun h_9 =>
snp true fun h_10 =>
ldC x11b x11o fun v_1 => asP v_1 fun x13 =>
snp true fun h_11 =>
bnd (f_attempt_View_Now D [.ptr x13]) fun r_1 =>
asA r_1 fun x14l =>
snp true fun h_12 =>
gdP ((h_12.get x7b = h_11.get x7b ∧ h_11.get x7b = h_10.get x7b ∧ h_10.get x7b = h_9.get x7b ∧ h_9.get x7b = h_8.get x7b ∧ h_8.get x7b = h_7.get x7b ∧ h_7.get x7b = h_6.get x7b ∧ h_6.get x7b = h_5.get x7b ∧ h_5.get x7b = h_4.get x7b ∧ h_4.get x7b = h_3.get x7b ∧ h_3.get x7b = h_2.get x7b ∧ h_2.get x7b = h_1.get x7b ∧ h_1.get x7b = h.get x7b ∧ True) ∧ True) (
bnd (f_reads_Set_Valid D [.ptr x9, .agg x14l]) fun r_2 =>
asB r_2 fun x15 =>
ret (.norm [.bool x15]))) (
snp true fun h_13 =>
snp true fun h_14 =>
snp true fun h_15 =>
snp true fun h_16 =>
snp true fun h_17 =>
snp true fun h_18 =>
snp true fun h_19 =>
snp true fun h_20 =>
snp true fun h_21 =>
gdP (True) (
ret (.norm [.bool false])))) fun vs =>
uB vs fun x2 r_3 =>
nl r_3 (
ret (.ret [.bool x2]))))
noncomputable def f_token_Token_Lock (D : HV → List HV → M HV) (args : List HV) : M HV :=
fin (
uP args fun x0 r =>
uI .i64 r fun x1 r_1 =>
nl r_1 (
bnd (f_token_Token_Free D [.ptr x0, I x1]) fun r_2 =>
asB r_2 fun x7 =>
cond (!x7) (
ret (.ret [.bool false])) (
mP x0 fun x11b x11o =>
stC x11b (x11o + 2) (I x1) (
ret (.ret [.bool true])))))
noncomputable def f_commit_Commit_check (D : HV → List HV → M HV) (args : List HV) : M HV :=
fin (
uP args fun x0 r =>
uP r fun x1 r_1 =>
nl r_1 (
snp true fun h =>
snp true fun h_1 =>
bnd (f_world_World_Token D [.ptr x1]) fun r_2 =>
asP r_2 fun x8 =>
snp true fun h_2 =>
snp true fun h_3 =>
mP x0 fun x10b x10o =>
snp true fun h_4 =>
snp true fun h_5 =>
ldC x10b x10o fun v => asI .i64 v fun x12 =>
snp true fun h_6 =>
gdP ((h_6.get x10b = h_5.get x10b ∧ h_5.get x10b = h_4.get x10b ∧ h_4.get x10b = h_3.get x10b ∧ h_3.get x10b = h_2.get x10b ∧ h_2.get x10b = h_1.get x10b ∧ h_1.get x10b = h.get x10b ∧ True) ∧ True) (
bnd (f_token_Token_Free D [.ptr x8, I x12]) fun r_3 =>
asB r_3 fun x13 =>
cond (!x13) (
ret (.ret [I 10])) (
mP x0 fun x16b x16o =>
ldC x16b (x16o + 1) fun v_1 => asP v_1 fun x18 =>
bnd (f_attempt_Attempt_Valid D [.ptr x18]) fun r_4 =>
asB r_4 fun x19 =>
cond (!x19) (
ret (.ret [I 9])) (
snp true fun h_7 =>
snp true fun h_8 =>
bnd (f_world_World_Token D [.ptr x1]) fun r_5 =>
asP r_5 fun x22 =>
snp true fun h_9 =>
snp true fun h_10 =>
mP x0 fun x24b x24o =>
snp true fun h_11 =>
snp true fun h_12 =>
ldC x24b x24o fun v_2 => asI .i64 v_2 fun x26 =>
snp true fun h_13 =>
gdP ((h_13.get x24b = h_12.get x24b ∧ h_12.get x24b = h_11.get x24b ∧ h_11.get x24b = h_10.get x24b ∧ h_10.get x24b = h_9.get x24b ∧ h_9.get x24b = h_8.get x24b ∧ h_8.get x24b = h_7.get x24b ∧ True) ∧ True) (
bnd (f_token_Token_Lock D [.ptr x22, I x26]) fun r_6 =>
asB r_6 fun x27 =>
mP x0 fun x29b x29o =>
stC x29b (x29o + 2) (I 1) (
mP x0 fun x33b x33o =>
ldC x33b (x33o + 1) fun v_3 => asP v_3 fun x35 =>
bnd (f_attempt_Attempt_Writes D [.ptr x35]) fun r_7 =>
asT r_7 fun x36l => uI .i64 x36l fun x36t0 r_8 =>
uI .i64 r_8 fun x36t1 r_9 =>
nl r_9 (
jn (
cond (x36t1 == 0) (
mP x0 fun x42b x42o =>
stC x42b (x42o + 2) (I 3) (
ret (.norm []))) (
ret (.norm []))) fun vs =>
nl vs (
ret (.ret [I 0]))))))))))
noncomputable def f_token_Token_Sure (D : HV → List HV → M HV) (args : List HV) : M HV :=
fin (
uP args fun x0 r =>
uI .i64 r fun x1 r_1 =>
nl r_1 (
jn (
cond (!(Option.isNone x0)) (
cond (decide (x1 ≥ 0)) (
mP x0 fun x13b x13o =>
ldC x13b x13o fun v => asI .i64 v fun x15 =>
cond (x15 == x1) (
mP x0 fun x21b x21o =>
ldC x21b (x21o + 1) fun v_1 => asB v_1 fun x23 =>
ret (.norm [.bool (!x23)])) (
ret (.norm [.bool false]))) (
ret (.norm [.bool false]))) (
ret (.norm [.bool false]))) fun vs =>
uB vs fun x4 r_2 =>
nl r_2 (
ret (.ret [.bool x4]))))
noncomputable def f_token_Token_Unlock (D : HV → List HV → M HV) (args : List HV) : M HV :=
fin (
uP args fun x0 r =>
uI .i64 r fun x1 r_1 =>
nl r_1 (
jn (
cond (Option.isNone x0) (
ret (.norm [.bool true])) (
cond (decide (x1 < 0)) (
ret (.norm [.bool true])) (
mP x0 fun x13b x13o =>
ldC x13b (x13o + 2) fun v => asI .i64 v fun x15 =>
ret (.norm [.bool (x15 != x1)])))) fun vs =>
uB vs fun x18 r_2 =>
nl r_2 (
cond x18 (
ret (.ret [.bool false])) (
mP x0 fun x20b x20o =>
stC x20b (x20o + 2) (I (-1)) (
ret (.ret [.bool true]))))))
noncomputable def f_wal_Log_Size (D : HV → List HV → M HV) (args : List HV) : M HV :=
fin (
uP args fun x0 r =>
nl r (
cond (Option.isNone x0) (
ret (.ret [I 0])) (
mP x0 fun x6b x6o =>
ldC x6b (x6o + 2) fun v => asI .i64 v fun x8 =>
ret (.ret [I x8]))))
noncomputable def f_vault_Vault_Size (D : HV → List HV → M HV) (args : List HV) : M HV :=
fin (
uP args fun x0 r =>
nl r (
cond (Option.isNone x0) (
ret (.ret [I 0])) (
mP x0 fun x6b x6o =>
ldC x6b (x6o + 1) fun v => asP v fun x8 =>
bnd (f_wal_Log_Size D [.ptr x8]) fun r_1 =>
asI .i64 r_1 fun x9 =>
ret (.ret [I x9]))))
noncomputable def f_vault_Vault_Append (D : HV → List HV → M HV) (args : List HV) : M HV :=
fin (
uP args fun x0 r =>
uS r fun x1 r_1 =>
nl r_1 (
cond (Option.isNone x0) (
ret (.ret [I 2])) (
mP x0 fun x10b x10o =>
ldC x10b (x10o + 3) fun v => asB v fun x12 =>
cond (!x12) (
ret (.ret [I 9])) (
mP x0 fun x15b x15o =>
ldC x15b (x15o + 1) fun v_1 => asP v_1 fun x17 =>
gd (decide ((strB [1]).size + x1.size ≤ 9223372036854775807)) (
bnd (f_wal_Log_Append D [.ptr x17, .str ((strB [1]) ++ x1)]) fun r_2 =>
asI .i64 r_2 fun x22 =>
ret (.ret [I x22]))))))
noncomputable def f_draft_Draft_file_File_All_1 (D : HV → List HV → M HV) (args : List HV) : M HV :=
fin (
uc args fun x0 r =>
uP r fun x1 r_1 =>
nl r_1 (
mP x1 fun x5b x5o =>
ldC x5b x5o fun v => asP v fun x5 =>
cond (Option.isNone x5) (
ret (.ret [])) (
mP x1 fun x7b x7o =>
ldC x7b x7o fun v_1 => asP v_1 fun x7 =>
mP x7 fun x8b x8o =>
ldC x8b x8o fun v_2 => asSl v_2 fun x10 =>
blk 0 (
loopD (fun vs_1 =>
uI .i64 vs_1 fun x12 r_2 =>
nl r_2 (
cond (decide (x12 < (x10.len : Int))) (
ix x10 x12 3 fun x14b x14o =>
ldN x14b x14o 3 fun x15l =>
uI .i64 x15l fun x15c0 r_3 =>
uB r_3 fun x15c1 r_4 =>
uS r_4 fun x15c2 r_5 =>
nl r_5 (
bnd (D x0 [I x15c0, .agg [.bool x15c1, .str x15c2]]) fun r_6 =>
asB r_6 fun x21 =>
cond (!x21) (
ret (.ret [])) (
ret (.norm [I (wr (x12 + 1))])))) (
ret (.exit 0 [])))) [I 0]) fun vs =>
nl vs (
ret (.ret [])))))
noncomputable def f_draft_Draft_file_File_All (D : HV → List HV → M HV) (args : List HV) : M HV :=
fin (
uP args fun x0 r =>
nl r (
nw [.ptr x0] fun b1 =>
ret (.ret [.func n_draft_Draft_file_File_All_1 [] [.ptr (some (b1, 0))]])))
noncomputable def f_redo_Bytes (D : HV → List HV → M HV) (args : List HV) : M HV :=
fin (
uI .i64 args fun x0 r =>
uP r fun x1 r_1 =>
nl r_1 (
nw [.sl (⟨none, 0, 0, none⟩)] fun b9 =>
nw [.ptr none] fun b5 =>
stC b5 0 (.ptr (some (b9, 0))) (
ldC b5 0 fun v => asP v fun x10 =>
nw [I x0] fun b12 =>
bnd (f_stylus_Stylus_Nat D [.ptr x10, .sl (⟨some (b12, 0), 1, 1, none⟩)]) fun r_2 =>
asT r_2 fun x13l => nl x13l (
bnd (f_draft_Draft_file_File_All D [.ptr x1]) fun r_3 =>
blk 0 (
ny r_3 (nwL 89324821 [(5, .ptr (some (b5, 0)))] fun l =>
bnd (D r_3 [.yld l]) fun q =>
endL l (
ret (.norm []))
(onX 0 (ret (.exit 0 [])) noX) (
ret (.ret [.str (ByteArray.mk #[])])))) fun vs =>
nl vs (
ldC b5 0 fun v_1 => asP v_1 fun x33 =>
bnd (f_stylus_Stylus_Bytes D [.ptr x33]) fun r_4 =>
asS r_4 fun x34 =>
ret (.ret [.str x34]))))))
noncomputable def r0_redo_Bytes (D : HV → List HV → M HV) (l : Nat) (vs : List (Nat × HV)) (args : List HV) : M Leaf :=
gdS [5] vs fun vs' =>
uP vs' fun x5 r =>
nl r (
uI .i64 args fun x16 r_1 =>
uA r_1 fun x17l r_2 =>
uB x17l fun x17c0 r_3 =>
uS r_3 fun x17c1 r_4 =>
nl r_4 (
nl r_2 (
busyL l (
cond x17c0 (
mP x5 fun x20b x20o =>
ldC x20b x20o fun v => asP v fun x20 =>
nw [I x16, I 1] fun b22 =>
bnd (f_stylus_Stylus_Nat D [.ptr x20, .sl (⟨some (b22, 0), 2, 2, none⟩)]) fun r_5 =>
asT r_5 fun x23l => nl x23l (
mP x5 fun x24b x24o =>
ldC x24b x24o fun v_1 => asP v_1 fun x24 =>
nw [.str x17c1] fun b27 =>
bnd (f_stylus_Stylus_Text D [.ptr x24, .sl (⟨some (b27, 0), 1, 1, none⟩)]) fun r_6 =>
asT r_6 fun x28l => nl x28l (
ret (.norm [])))) (
mP x5 fun x29b x29o =>
ldC x29b x29o fun v_2 => asP v_2 fun x29 =>
nw [I x16, I 0] fun b31 =>
bnd (f_stylus_Stylus_Nat D [.ptr x29, .sl (⟨some (b31, 0), 2, 2, none⟩)]) fun r_7 =>
asT r_7 fun x32l => nl x32l (
ret (.norm [])))))))
noncomputable def f_world_World_Write (D : HV → List HV → M HV) (args : List HV) : M HV :=
fin (
uP args fun x0 r =>
uP r fun x1 r_1 =>
nl r_1 (
cond (Option.isNone x0) (
ret (.ret [I 2])) (
mP x0 fun x9b x9o =>
ldC x9b (x9o + 11) fun v => asI .i64 v fun x11 =>
cond (decide (x11 > 0)) (
mP x0 fun x14b x14o =>
ldC x14b (x14o + 11) fun v_1 => asI .i64 v_1 fun x16 =>
mP x0 fun x18b x18o =>
stC x18b (x18o + 11) (I (wr (x16 - 1))) (
ret (.ret [I 7]))) (
mP x0 fun x21b x21o =>
ldC x21b (x21o + 10) fun v_2 => asI .i64 v_2 fun x23 =>
cond (decide (x23 ≥ 1099511627776)) (
ret (.ret [I 6])) (
mP x0 fun x26b x26o =>
ldC x26b (x26o + 4) fun v_3 => asP v_3 fun x28 =>
bnd (f_vault_Vault_Size D [.ptr x28]) fun r_2 =>
asI .i64 r_2 fun x29 =>
jn (
cond (decide (x29 > 2048)) (
snp true fun h =>
snp true fun h_1 =>
mP x0 fun x32b x32o =>
snp true fun h_2 =>
snp true fun h_3 =>
ldC x32b (x32o + 4) fun v_4 => asP v_4 fun x34 =>
snp true fun h_4 =>
snp true fun h_5 =>
mP x0 fun x36b x36o =>
snp true fun h_6 =>
snp true fun h_7 =>
ldC x36b (x36o + 10) fun v_5 => asI .i64 v_5 fun x38 =>
snp true fun h_8 =>
snp true fun h_9 =>
mP x0 fun x40b x40o =>
snp true fun h_10 =>
snp true fun h_11 =>
ldC x40b x40o fun v_6 => asP v_6 fun x42 =>
snp true fun h_12 =>
mP x42 fun x43b x43o =>
snp true fun h_13 =>
snp true fun h_14 =>
ldC x43b (x43o + 1) fun v_7 => asP v_7 fun x45 =>
snp true fun h_15 =>
bnd (f_world_image D [I x38, .ptr x45]) fun r_3 =>
asS r_3 fun x46 =>
snp true fun h_16 =>
gdP ((h_16.get x32b = h_15.get x32b ∧ h_15.get x32b = h_14.get x32b ∧ h_14.get x32b = h_13.get x32b ∧ h_13.get x32b = h_12.get x32b ∧ h_12.get x32b = h_11.get x32b ∧ h_11.get x32b = h_10.get x32b ∧ h_10.get x32b = h_9.get x32b ∧ h_9.get x32b = h_8.get x32b ∧ h_8.get x32b = h_7.get x32b ∧ h_7.get x32b = h_6.get x32b ∧ h_6.get x32b = h_5.get x32b ∧ h_5.get x32b = h_4.get x32b ∧ h_4.get x32b = h_3.get x32b ∧ h_3.get x32b = h_2.get x32b ∧ h_2.get x32b = h_1.get x32b ∧ h_1.get x32b = h.get x32b ∧ True) ∧ True) (
bnd (f_vault_Vault_Settle D [.ptr x34, .str x46]) fun r_4 =>
asI .i64 r_4 fun x47 =>
cond (x47 != 0) (
ret (.ret [I x47])) (
ret (.norm [])))) (
ret (.norm []))) fun vs =>
nl vs (
snp true fun h_17 =>
snp true fun h_18 =>
mP x0 fun x52b x52o =>
snp true fun h_19 =>
snp true fun h_20 =>
ldC x52b (x52o + 4) fun v_8 => asP v_8 fun x54 =>
snp true fun h_21 =>
snp true fun h_22 =>
mP x0 fun x56b x56o =>
snp true fun h_23 =>
snp true fun h_24 =>
ldC x56b (x56o + 10) fun v_9 => asI .i64 v_9 fun x58 =>
snp true fun h_25 =>
snp true fun h_26 =>
snp true fun h_27 =>
bnd (f_redo_Bytes D [I (wr (x58 + 1)), .ptr x1]) fun r_5 =>
asS r_5 fun x61 =>
snp true fun h_28 =>
gdP ((h_28.get x52b = h_27.get x52b ∧ h_27.get x52b = h_26.get x52b ∧ h_26.get x52b = h_25.get x52b ∧ h_25.get x52b = h_24.get x52b ∧ h_24.get x52b = h_23.get x52b ∧ h_23.get x52b = h_22.get x52b ∧ h_22.get x52b = h_21.get x52b ∧ h_21.get x52b = h_20.get x52b ∧ h_20.get x52b = h_19.get x52b ∧ h_19.get x52b = h_18.get x52b ∧ h_18.get x52b = h_17.get x52b ∧ True) ∧ True) (
bnd (f_vault_Vault_Append D [.ptr x54, .str x61]) fun r_6 =>
asI .i64 r_6 fun x62 =>
ret (.ret [I x62]))))))))
noncomputable def f_attempt_Attempt_State (D : HV → List HV → M HV) (args : List HV) : M HV :=
fin (
uP args fun x0 r =>
nl r (
cond (Option.isNone x0) (
ret (.ret [.agg [.ptr none, .ptr none, .ptr none, I 0, I 0, I 0, I 0]])) (
mP x0 fun x7b x7o =>
ldN x7b (x7o + 2) 7 fun x9l =>
uP x9l fun x9c0 r_1 =>
uP r_1 fun x9c1 r_2 =>
uP r_2 fun x9c2 r_3 =>
uI .i64 r_3 fun x9c3 r_4 =>
uI .i64 r_4 fun x9c4 r_5 =>
uI .i64 r_5 fun x9c5 r_6 =>
uI .i64 r_6 fun x9c6 r_7 =>
nl r_7 (
ret (.ret [.agg [.ptr x9c0, .ptr x9c1, .ptr x9c2, I x9c3, I x9c4, I x9c5, I x9c6]])))))
noncomputable def f_commit_Commit_write (D : HV → List HV → M HV) (args : List HV) : M HV :=
fin (
uP args fun x0 r =>
uP r fun x1 r_1 =>
nl r_1 (
mP x0 fun x8b x8o =>
ldC x8b (x8o + 1) fun v => asP v fun x10 =>
bnd (f_attempt_Attempt_State D [.ptr x10]) fun r_2 =>
asA r_2 fun x11l => uP x11l fun x11c0 r_3 =>
uP r_3 fun x11c1 r_4 =>
uP r_4 fun x11c2 r_5 =>
uI .i64 r_5 fun x11c3 r_6 =>
uI .i64 r_6 fun x11c4 r_7 =>
uI .i64 r_7 fun x11c5 r_8 =>
uI .i64 r_8 fun x11c6 r_9 =>
nl r_9 (
bnd (f_sheet_Sheet_Draft D [.ptr x11c1]) fun r_10 =>
asP r_10 fun x13 =>
bnd (f_world_World_Write D [.ptr x1, .ptr x13]) fun r_11 =>
asI .i64 r_11 fun x14 =>
cond (x14 == 0) (
mP x0 fun x19b x19o =>
stC x19b (x19o + 2) (I 2) (
ret (.ret [I 0]))) (
snp true fun h =>
snp true fun h_1 =>
bnd (f_world_World_Token D [.ptr x1]) fun r_12 =>
asP r_12 fun x23 =>
snp true fun h_2 =>
snp true fun h_3 =>
mP x0 fun x25b x25o =>
snp true fun h_4 =>
snp true fun h_5 =>
ldC x25b x25o fun v_1 => asI .i64 v_1 fun x27 =>
snp true fun h_6 =>
gdP ((h_6.get x25b = h_5.get x25b ∧ h_5.get x25b = h_4.get x25b ∧ h_4.get x25b = h_3.get x25b ∧ h_3.get x25b = h_2.get x25b ∧ h_2.get x25b = h_1.get x25b ∧ h_1.get x25b = h.get x25b ∧ True) ∧ True) (
bnd (f_token_Token_Sure D [.ptr x23, I x27]) fun r_13 =>
asB r_13 fun x28 =>
cond x28 (
ret (.ret [I 10])) (
snp true fun h_7 =>
snp true fun h_8 =>
bnd (f_world_World_Token D [.ptr x1]) fun r_14 =>
asP r_14 fun x30 =>
snp true fun h_9 =>
snp true fun h_10 =>
mP x0 fun x32b x32o =>
snp true fun h_11 =>
snp true fun h_12 =>
ldC x32b x32o fun v_2 => asI .i64 v_2 fun x34 =>
snp true fun h_13 =>
gdP ((h_13.get x32b = h_12.get x32b ∧ h_12.get x32b = h_11.get x32b ∧ h_11.get x32b = h_10.get x32b ∧ h_10.get x32b = h_9.get x32b ∧ h_9.get x32b = h_8.get x32b ∧ h_8.get x32b = h_7.get x32b ∧ True) ∧ True) (
bnd (f_token_Token_Unlock D [.ptr x30, I x34]) fun r_15 =>
asB r_15 fun x35 =>
ret (.ret [I x14]))))))))
noncomputable def f_vault_Vault_Force (D : HV → List HV → M HV) (args : List HV) : M HV :=
fin (
uP args fun x0 r =>
nl r (
cond (!(Option.isNone x0)) (
mP x0 fun x5b x5o =>
ldC x5b (x5o + 1) fun v => asP v fun x7 =>
bnd (f_wal_Log_Force D [.ptr x7]) fun r_1 =>
asT r_1 fun x8l => nl x8l (
ret (.ret []))) (
ret (.ret []))))
noncomputable def f_world_World_Force (D : HV → List HV → M HV) (args : List HV) : M HV :=
fin (
uP args fun x0 r =>
nl r (
cond (!(Option.isNone x0)) (
mP x0 fun x5b x5o =>
ldC x5b (x5o + 4) fun v => asP v fun x7 =>
bnd (f_vault_Vault_Force D [.ptr x7]) fun r_1 =>
asT r_1 fun x8l => nl x8l (
ret (.ret []))) (
ret (.ret []))))
noncomputable def f_attempt_Attempt_Acts (D : HV → List HV → M HV) (args : List HV) : M HV :=
fin (
uP args fun x0 r =>
nl r (
cond (Option.isNone x0) (
ret (.ret [.ptr none])) (
mP x0 fun x6b x6o =>
ldC x6b (x6o + 9) fun v => asP v fun x8 =>
ret (.ret [.ptr x8]))))
noncomputable def f_token_Token_Drop (D : HV → List HV → M HV) (args : List HV) : M HV :=
fin (
uP args fun x0 r =>
uI .i64 r fun x1 r_1 =>
nl r_1 (
jn (
cond (Option.isNone x0) (
ret (.norm [.bool true])) (
cond (decide (x1 < 0)) (
ret (.norm [.bool true])) (
mP x0 fun x13b x13o =>
ldC x13b x13o fun v => asI .i64 v fun x15 =>
ret (.norm [.bool (x15 != x1)])))) fun vs =>
uB vs fun x18 r_2 =>
nl r_2 (
cond x18 (
ret (.ret [.bool false])) (
mP x0 fun x21b x21o =>
stC x21b x21o (I (-1)) (
mP x0 fun x23b x23o =>
stC x23b (x23o + 1) (.bool false) (
ret (.ret [.bool true])))))))
noncomputable def f_draft_Draft_int_All_1 (D : HV → List HV → M HV) (args : List HV) : M HV :=
fin (
uc args fun x0 r =>
uP r fun x1 r_1 =>
nl r_1 (
mP x1 fun x5b x5o =>
ldC x5b x5o fun v => asP v fun x5 =>
cond (Option.isNone x5) (
ret (.ret [])) (
mP x1 fun x7b x7o =>
ldC x7b x7o fun v_1 => asP v_1 fun x7 =>
mP x7 fun x8b x8o =>
ldC x8b x8o fun v_2 => asSl v_2 fun x10 =>
blk 0 (
loopD (fun vs_1 =>
uI .i64 vs_1 fun x12 r_2 =>
nl r_2 (
cond (decide (x12 < (x10.len : Int))) (
ix x10 x12 2 fun x14b x14o =>
ldN x14b x14o 2 fun x15l =>
uI .i64 x15l fun x15c0 r_3 =>
uI .i64 r_3 fun x15c1 r_4 =>
nl r_4 (
bnd (D x0 [I x15c0, I x15c1]) fun r_5 =>
asB r_5 fun x21 =>
cond (!x21) (
ret (.ret [])) (
ret (.norm [I (wr (x12 + 1))])))) (
ret (.exit 0 [])))) [I 0]) fun vs =>
nl vs (
ret (.ret [])))))
noncomputable def f_draft_Draft_int_All (D : HV → List HV → M HV) (args : List HV) : M HV :=
fin (
uP args fun x0 r =>
nl r (
nw [.ptr x0] fun b1 =>
ret (.ret [.func n_draft_Draft_int_All_1 [] [.ptr (some (b1, 0))]])))
noncomputable def f_cell_Row_int_Set (D : HV → List HV → M HV) (args : List HV) : M HV :=
fin (
uP args fun x0 r =>
uI .i64 r fun x1 r_1 =>
uI .i64 r_1 fun x2 r_2 =>
uI .i64 r_2 fun x3 r_3 =>
nl r_3 (
bnd (f_cell_Row_int_is D [.ptr x0, I x1]) fun r_4 =>
asB r_4 fun x11 =>
cond (!x11) (
ret (.ret [.bool false])) (
mP x0 fun x14b x14o =>
ldC x14b x14o fun v => asSl v fun x16 =>
ix x16 x1 2 fun x21b x21o =>
stN x21b x21o [I x2, I x3] (
ret (.ret [.bool true])))))
noncomputable def f_sheet_Sheet_Over (D : HV → List HV → M HV) (args : List HV) : M HV :=
fin (
uP args fun x0 r =>
uP r fun x1 r_1 =>
uI .i64 r_1 fun x2 r_2 =>
nl r_2 (
nw [.ptr x1] fun b4 =>
nw [I x2] fun b5 =>
nw [I 0] fun b7 =>
stC b7 0 (I 0) (
bnd (f_sheet_Sheet_Draft D [.ptr x0]) fun r_3 =>
asP r_3 fun x11 =>
bnd (f_draft_Draft_file_File_All D [.ptr x11]) fun r_4 =>
blk 0 (
ny r_4 (nwL 82349159 [(4, .ptr (some (b4, 0))), (5, .ptr (some (b5, 0))), (7, .ptr (some (b7, 0)))] fun l =>
bnd (D r_4 [.yld l]) fun q =>
endL l (
ret (.norm []))
(onX 0 (ret (.exit 0 [])) noX) (
ret (.ret [I 0])))) fun vs =>
nl vs (
ldC b7 0 fun v => asI .i64 v fun x22 =>
ret (.ret [I x22])))))
noncomputable def r0_sheet_Sheet_Over (D : HV → List HV → M HV) (l : Nat) (vs : List (Nat × HV)) (args : List HV) : M Leaf :=
gdS [4, 5, 7] vs fun vs' =>
uP vs' fun x4 r =>
uP r fun x5 r_1 =>
uP r_1 fun x7 r_2 =>
nl r_2 (
uI .i64 args fun x13 r_3 =>
uA r_3 fun x14l r_4 =>
uB x14l fun x14c0 r_5 =>
uS r_5 fun x14c1 r_6 =>
nl r_6 (
nl r_4 (
busyL l (
mP x4 fun x15b x15o =>
ldC x15b x15o fun v => asP v fun x15 =>
mP x5 fun x18b x18o =>
ldC x18b x18o fun v_1 => asI .i64 v_1 fun x18 =>
bnd (f_tome_Tome_Set D [.ptr x15, I x13, .agg [.bool x14c0, .str x14c1], I x18]) fun r_7 =>
asB r_7 fun x19 =>
cond x19 (
mP x7 fun x20b x20o =>
ldC x20b x20o fun v_2 => asI .i64 v_2 fun x20 =>
mP x7 fun qb qo =>
stC qb qo (I (wr (x20 + 1))) (
ret (.norm []))) (
ret (.norm []))))))
noncomputable def f_cursor_is (D : HV → List HV → M HV) (args : List HV) : M HV :=
fin (
uI .i64 args fun x0 r =>
nl r (
jn (
cond (decide (x0 ≥ 0)) (
ret (.norm [.bool (decide (x0 < 3))])) (
ret (.norm [.bool false]))) fun vs =>
uB vs fun x2 r_1 =>
nl r_1 (
ret (.ret [.bool x2]))))
noncomputable def f_cursor_Cursor_Read (D : HV → List HV → M HV) (args : List HV) : M HV :=
fin (
uP args fun x0 r =>
uI .i64 r fun x1 r_1 =>
nl r_1 (
jn (
cond (Option.isNone x0) (
ret (.norm [.bool true])) (
bnd (f_cursor_is D [I x1]) fun r_2 =>
asB r_2 fun x9 =>
ret (.norm [.bool (!x9)]))) fun vs =>
uB vs fun x11 r_3 =>
nl r_3 (
cond x11 (
ret (.ret [I 0])) (
mP x0 fun x14b x14o =>
gd (decide (0 ≤ x1)) (gd (decide (x1 < (3 : Int))) (
ldC x14b (x14o + x1.toNat * 1) fun v => asI .i64 v fun x17 =>
ret (.ret [I x17])))))))
noncomputable def f_feed_Feed_is (D : HV → List HV → M HV) (args : List HV) : M HV :=
fin (
uP args fun x0 r =>
uI .i64 r fun x1 r_1 =>
nl r_1 (
jn (
cond (!(Option.isNone x0)) (
cond (decide (x1 ≥ 0)) (
ret (.norm [.bool (decide (x1 < 3))])) (
ret (.norm [.bool false]))) (
ret (.norm [.bool false]))) fun vs =>
uB vs fun x4 r_2 =>
nl r_2 (
ret (.ret [.bool x4]))))
noncomputable def f_feed_Feed_Take (D : HV → List HV → M HV) (args : List HV) : M HV :=
fin (
uP args fun x0 r =>
uI .i64 r fun x1 r_1 =>
uI .i64 r_1 fun x2 r_2 =>
uI .i64 r_2 fun x3 r_3 =>
nl r_3 (
bnd (f_feed_Feed_Place D [.ptr x0, I x1]) fun r_4 =>
asT r_4 fun x14l => uI .i64 x14l fun x14t0 r_5 =>
uI .i64 r_5 fun x14t1 r_6 =>
nl r_6 (
jn (
bnd (f_feed_Feed_is D [.ptr x0, I x1]) fun r_7 =>
asB r_7 fun x19 =>
cond (!x19) (
ret (.norm [.bool true])) (
cond (decide (x2 < x14t0)) (
ret (.norm [.bool true])) (
mP x0 fun x30b x30o =>
gd (decide (0 ≤ x1)) (gd (decide (x1 < (3 : Int))) (
ldC x30b (x30o + x1.toNat * 1) fun v => asS v fun x33 =>
ret (.norm [.bool (decide (x2 > (x33.size : Int)))])))))) fun vs =>
uB vs fun x36 r_8 =>
nl r_8 (
cond x36 (
ret (.ret [.bool false])) (
mP x0 fun x38b x38o =>
ldC x38b (x38o + 3) fun v_1 => asP v_1 fun x40 =>
bnd (f_cell_Row_int_Set D [.ptr x40, I x1, I x2, I x3]) fun r_9 =>
asB r_9 fun x44 =>
ret (.ret [.bool x44]))))))
noncomputable def f_attempt_Attempt_Land (D : HV → List HV → M HV) (args : List HV) : M HV :=
fin (
uP args fun x0 r =>
nl r (
bnd (f_attempt_Attempt_Valid D [.ptr x0]) fun r_1 =>
asB r_1 fun x11 =>
cond (!x11) (
ret (.ret [.bool false])) (
mP x0 fun x14b x14o =>
ldC x14b x14o fun v => asP v fun x16 =>
nw [.ptr none] fun b3 =>
stC b3 0 (.ptr x16) (
ldC b3 0 fun v_1 => asP v_1 fun x17 =>
mP x17 fun x18b x18o =>
ldC x18b (x18o + 3) fun v_2 => asI .i64 v_2 fun x20 =>
mP x17 fun x22b x22o =>
stC x22b (x22o + 3) (I (wr (x20 + 1))) (
mP x0 fun x25b x25o =>
ldC x25b (x25o + 2) fun v_3 => asP v_3 fun x28 =>
bnd (f_draft_Draft_int_All D [.ptr x28]) fun r_2 =>
blk 0 (
ny r_2 (nwL 45135019 [(3, .ptr (some (b3, 0)))] fun l =>
bnd (D r_2 [.yld l]) fun q =>
endL l (
ret (.norm []))
(onX 0 (ret (.exit 0 [])) noX) (
ret (.ret [.bool false])))) fun vs =>
nl vs (
mP x0 fun x44b x44o =>
ldC x44b (x44o + 2 + 1) fun v_4 => asP v_4 fun x47 =>
ldC b3 0 fun v_5 => asP v_5 fun x48 =>
mP x48 fun x49b x49o =>
ldC x49b (x49o + 1) fun v_6 => asP v_6 fun x51 =>
ldC b3 0 fun v_7 => asP v_7 fun x52 =>
mP x52 fun x53b x53o =>
ldC x53b (x53o + 3) fun v_8 => asI .i64 v_8 fun x55 =>
bnd (f_sheet_Sheet_Over D [.ptr x47, .ptr x51, I x55]) fun r_3 =>
asI .i64 r_3 fun x56 =>
blk 2 (
loopD (fun vs_2 =>
uI .i64 vs_2 fun x57 r_4 =>
nl r_4 (
cond (decide (x57 < 3)) (
blk 3 (
mP x0 fun x61b x61o =>
ldC x61b (x61o + 2 + 2) fun v_9 => asP v_9 fun x64 =>
bnd (f_cursor_Cursor_Read D [.ptr x64, I x57]) fun r_5 =>
asI .i64 r_5 fun x66 =>
cond (decide (x66 > 0)) (
ldC b3 0 fun v_10 => asP v_10 fun x70 =>
mP x70 fun x71b x71o =>
ldC x71b (x71o + 2) fun v_11 => asP v_11 fun x73 =>
bnd (f_feed_Feed_Place D [.ptr x73, I x57]) fun r_6 =>
asT r_6 fun x75l => uI .i64 x75l fun x75t0 r_7 =>
uI .i64 r_7 fun x75t1 r_8 =>
nl r_8 (
ldC b3 0 fun v_12 => asP v_12 fun x78 =>
mP x78 fun x79b x79o =>
ldC x79b (x79o + 2) fun v_13 => asP v_13 fun x81 =>
ldC b3 0 fun v_14 => asP v_14 fun x86 =>
mP x86 fun x87b x87o =>
ldC x87b (x87o + 3) fun v_15 => asI .i64 v_15 fun x89 =>
bnd (f_feed_Feed_Take D [.ptr x81, I x57, I (wr (x75t0 + x66)), I x89]) fun r_9 =>
asB r_9 fun x90 =>
ret (.norm []))) (
ret (.norm []))) fun vs_3 =>
nl vs_3 (
ret (.norm [I (wr (x57 + 1))]))) (
ret (.exit 2 [])))) [I 0]) fun vs_1 =>
nl vs_1 (
ret (.ret [.bool true]))))))))
noncomputable def r0_attempt_Attempt_Land (D : HV → List HV → M HV) (l : Nat) (vs : List (Nat × HV)) (args : List HV) : M Leaf :=
gdS [3] vs fun vs' =>
uP vs' fun x3 r =>
nl r (
uI .i64 args fun x30 r_1 =>
uI .i64 r_1 fun x31 r_2 =>
nl r_2 (
busyL l (
mP x3 fun x32b x32o =>
ldC x32b x32o fun v => asP v fun x32 =>
mP x32 fun x33b x33o =>
ldC x33b x33o fun v_1 => asP v_1 fun x35 =>
mP x3 fun x38b x38o =>
ldC x38b x38o fun v_2 => asP v_2 fun x38 =>
mP x38 fun x39b x39o =>
ldC x39b (x39o + 3) fun v_3 => asI .i64 v_3 fun x41 =>
bnd (f_cell_Row_int_Set D [.ptr x35, I x30, I x31, I x41]) fun r_3 =>
asB r_3 fun x42 =>
ret (.norm []))))
noncomputable def f_wire_Wire_at (D : HV → List HV → M HV) (args : List HV) : M HV :=
fin (
uP args fun x0 r =>
uI .i64 r fun x1 r_1 =>
nl r_1 (
jn (
cond (Option.isNone x0) (
ret (.norm [.bool true])) (
cond (decide (x1 < 0)) (
ret (.norm [.bool true])) (
ret (.norm [.bool (decide (x1 ≥ 3))])))) fun vs =>
uB vs fun x14 r_2 =>
nl r_2 (
cond x14 (
ret (.ret [.ptr none])) (
mP x0 fun x17b x17o =>
gd (decide (0 ≤ x1)) (gd (decide (x1 < (3 : Int))) (
ret (.ret [.ptr (some (x17b, x17o + x1.toNat * 3))])))))))
noncomputable def f_wire_Wire_Push (D : HV → List HV → M HV) (args : List HV) : M HV :=
fin (
uP args fun x0 r =>
uI .i64 r fun x1 r_1 =>
uS r_1 fun x2 r_2 =>
nl r_2 (
bnd (f_wire_Wire_at D [.ptr x0, I x1]) fun r_3 =>
asP r_3 fun x10 =>
cond (Option.isNone x10) (
ret (.ret [.bool false])) (
mP x10 fun x14b x14o =>
ldC x14b x14o fun v => asS v fun x16 =>
gd (decide (x16.size + x2.size ≤ 9223372036854775807)) (
mP x10 fun x19b x19o =>
stC x19b x19o (.str (x16 ++ x2)) (
ret (.ret [.bool true]))))))
noncomputable def f_world_World_Send (D : HV → List HV → M HV) (args : List HV) : M HV :=
fin (
uP args fun x0 r =>
uL r fun x1 r_1 =>
nl r_1 (
cond (Option.isNone x0) (
ret (.ret [])) (
blk 0 (
loopD (fun vs_1 =>
uI .i64 vs_1 fun x10 r_2 =>
nl r_2 (
cond (decide (x10 < (x1.len : Int))) (
ix x1 x10 2 fun x12b x12o =>
ldN x12b x12o 2 fun x13l =>
uI .i64 x13l fun x13c0 r_3 =>
uI .u8 r_3 fun x13c1 r_4 =>
nl r_4 (
mP x0 fun x15b x15o =>
ldC x15b (x15o + 1) fun v => asP v fun x17 =>
bnd (f_wire_Wire_Push D [.ptr x17, I x13c0, .str (strB [x13c1])]) fun r_5 =>
asB r_5 fun x24 =>
ret (.norm [I (wr (x10 + 1))]))) (
ret (.exit 0 [])))) [I 0]) fun vs =>
nl vs (
ret (.ret [])))))
noncomputable def f_slices_Grow_acts_Out_acts_Out (D : HV → List HV → M HV) (args : List HV) : M HV :=
fin (
uL args fun x0 r =>
uI .i64 r fun x1 r_1 =>
nl r_1 (
cond (decide (x1 < 0)) (
stk) (
gd (Option.isNone x0.opn) (
jn (
cond (decide ((wr (x1 - (wr ((x0.cap : Int) - (x0.len : Int))))) > 0)) (
gd (Option.isNone x0.opn) (
gd (decide (0 ≤ 0)) (gd (decide (0 ≤ (x0.cap : Int))) (gd (decide ((x0.cap : Int) ≤ (x0.cap : Int))) (gd (decide ((x0.cap : Int) ≤ (x0.cap : Int))) (gd (slOk x0.opn 2) (
gd (Option.isNone (⟨bif decide ((x0.cap : Int) = 0) then x0.p else x0.p.map (fun q => (q.1, q.2 + (0 : Int).toNat * 2)), ((x0.cap : Int) - 0 : Int).toNat, ((x0.cap : Int) - 0 : Int).toNat, slOp x0.opn (decide (0 < (x0.cap : Int)))⟩ : Sl).p && Option.isNone (⟨bif decide ((x0.cap : Int) = 0) then x0.p else x0.p.map (fun q => (q.1, q.2 + (0 : Int).toNat * 2)), ((x0.cap : Int) - 0 : Int).toNat, ((x0.cap : Int) - 0 : Int).toNat, slOp x0.opn (decide (0 < (x0.cap : Int)))⟩ : Sl).opn && decide ((⟨bif decide ((x0.cap : Int) = 0) then x0.p else x0.p.map (fun q => (q.1, q.2 + (0 : Int).toNat * 2)), ((x0.cap : Int) - 0 : Int).toNat, ((x0.cap : Int) - 0 : Int).toNat, slOp x0.opn (decide (0 < (x0.cap : Int)))⟩ : Sl).len = 0) && decide ((⟨bif decide ((x0.cap : Int) = 0) then x0.p else x0.p.map (fun q => (q.1, q.2 + (0 : Int).toNat * 2)), ((x0.cap : Int) - 0 : Int).toNat, ((x0.cap : Int) - 0 : Int).toNat, slOp x0.opn (decide (0 < (x0.cap : Int)))⟩ : Sl).cap = 0)) (gd (decide (0 < (wr (x1 - (wr ((x0.cap : Int) - (x0.len : Int)))))) && decide (((wr (x1 - (wr ((x0.cap : Int) - (x0.len : Int)))))).toNat * 16 ≤ room) && decide (((wr (x1 - (wr ((x0.cap : Int) - (x0.len : Int)))))).toNat ≤ room)) (nw (repL ((wr (x1 - (wr ((x0.cap : Int) - (x0.len : Int)))))).toNat [I 0, .int .u8 0]) fun x22 =>
gd (decide (0 ≤ 0)) (gd (decide (0 ≤ (x0.len : Int))) (gd (decide ((x0.len : Int) ≤ ((⟨some (x22, 0), ((wr (x1 - (wr ((x0.cap : Int) - (x0.len : Int)))))).toNat, ((wr (x1 - (wr ((x0.cap : Int) - (x0.len : Int)))))).toNat, some 2⟩ : Sl).cap : Int))) (gd (decide (((⟨some (x22, 0), ((wr (x1 - (wr ((x0.cap : Int) - (x0.len : Int)))))).toNat, ((wr (x1 - (wr ((x0.cap : Int) - (x0.len : Int)))))).toNat, some 2⟩ : Sl).cap : Int) ≤ ((⟨some (x22, 0), ((wr (x1 - (wr ((x0.cap : Int) - (x0.len : Int)))))).toNat, ((wr (x1 - (wr ((x0.cap : Int) - (x0.len : Int)))))).toNat, some 2⟩ : Sl).cap : Int))) (gd (slOk ((⟨some (x22, 0), ((wr (x1 - (wr ((x0.cap : Int) - (x0.len : Int)))))).toNat, ((wr (x1 - (wr ((x0.cap : Int) - (x0.len : Int)))))).toNat, some 2⟩ : Sl).opn) 2) (
ret (.norm [.sl (⟨bif decide (((⟨some (x22, 0), ((wr (x1 - (wr ((x0.cap : Int) - (x0.len : Int)))))).toNat, ((wr (x1 - (wr ((x0.cap : Int) - (x0.len : Int)))))).toNat, some 2⟩ : Sl).cap : Int) = 0) then (⟨some (x22, 0), ((wr (x1 - (wr ((x0.cap : Int) - (x0.len : Int)))))).toNat, ((wr (x1 - (wr ((x0.cap : Int) - (x0.len : Int)))))).toNat, some 2⟩ : Sl).p else ((⟨some (x22, 0), ((wr (x1 - (wr ((x0.cap : Int) - (x0.len : Int)))))).toNat, ((wr (x1 - (wr ((x0.cap : Int) - (x0.len : Int)))))).toNat, some 2⟩ : Sl).p).map (fun q => (q.1, q.2 + (0 : Int).toNat * 2)), ((x0.len : Int) - 0 : Int).toNat, (((⟨some (x22, 0), ((wr (x1 - (wr ((x0.cap : Int) - (x0.len : Int)))))).toNat, ((wr (x1 - (wr ((x0.cap : Int) - (x0.len : Int)))))).toNat, some 2⟩ : Sl).cap : Int) - 0 : Int).toNat, slOp ((⟨some (x22, 0), ((wr (x1 - (wr ((x0.cap : Int) - (x0.len : Int)))))).toNat, ((wr (x1 - (wr ((x0.cap : Int) - (x0.len : Int)))))).toNat, some 2⟩ : Sl).opn) (decide (0 < ((⟨some (x22, 0), ((wr (x1 - (wr ((x0.cap : Int) - (x0.len : Int)))))).toNat, ((wr (x1 - (wr ((x0.cap : Int) - (x0.len : Int)))))).toNat, some 2⟩ : Sl).cap : Int)))⟩)]))))))))))))))) (
ret (.norm [.sl x0]))) fun vs =>
uL vs fun x0_1 r_2 =>
nl r_2 (
ret (.ret [.sl x0_1]))))))
noncomputable def f_slices_Concat_acts_Out_acts_Out (D : HV → List HV → M HV) (args : List HV) : M HV :=
fin (
uL args fun x0 r =>
nl r (
blk 0 (
loopD (fun vs_1 =>
uI .i64 vs_1 fun x3 r_1 =>
uI .i64 r_1 fun x11 r_2 =>
nl r_2 (
cond (decide (x11 < (x0.len : Int))) (
ix x0 x11 1 fun x13b x13o =>
ldC x13b x13o fun v => asSl v fun x14 =>
cond (decide ((wr (x3 + (x14.len : Int))) < 0)) (
stk) (
ret (.norm [I (wr (x3 + (x14.len : Int))), I (wr (x11 + 1))]))) (
ret (.exit 0 [I x3])))) [I 0, I 0]) fun vs =>
uI .i64 vs fun x3_1 r_3 =>
nl r_3 (
bnd (f_slices_Grow_acts_Out_acts_Out D [.sl (⟨none, 0, 0, none⟩), I x3_1]) fun r_4 =>
asSl r_4 fun x24 =>
blk 2 (
loopD (fun vs_3 =>
uL vs_3 fun x6 r_5 =>
uI .i64 r_5 fun x27 r_6 =>
nl r_6 (
cond (decide (x27 < (x0.len : Int))) (
ix x0 x27 1 fun x29b x29o =>
ldC x29b x29o fun v_1 => asSl v_1 fun x30 =>
rdS x30 2 fun vs_4 =>
apd x6 2 16 x30.len vs_4 fun x33 =>
ret (.norm [.sl x33, I (wr (x27 + 1))])) (
ret (.exit 2 [.sl x6])))) [.sl x24, I 0]) fun vs_2 =>
uL vs_2 fun x6_1 r_7 =>
nl r_7 (
ret (.ret [.sl x6_1])))))
noncomputable def f_acts_Acts_Output (D : HV → List HV → M HV) (args : List HV) : M HV :=
fin (
uP args fun x0 r =>
nl r (
cond (Option.isNone x0) (
ret (.ret [.sl (⟨none, 0, 0, none⟩)])) (
mP x0 fun x6b x6o =>
ldC x6b x6o fun v => asSl v fun x8 =>
mP x0 fun x10b x10o =>
ldC x10b (x10o + 1) fun v_1 => asSl v_1 fun x12 =>
nw [.sl x8, .sl x12] fun b13 =>
bnd (f_slices_Concat_acts_Out_acts_Out D [.sl (⟨some (b13, 0), 2, 2, none⟩)]) fun r_1 =>
asSl r_1 fun x14 =>
ret (.ret [.sl x14]))))
noncomputable def f_world_World_Done (D : HV → List HV → M HV) (args : List HV) : M HV :=
fin (
uP args fun x0 r =>
nl r (
cond (!(Option.isNone x0)) (
mP x0 fun x5b x5o =>
ldC x5b (x5o + 10) fun v => asI .i64 v fun x7 =>
mP x0 fun x9b x9o =>
stC x9b (x9o + 10) (I (wr (x7 + 1))) (
ret (.ret []))) (
ret (.ret []))))
noncomputable def f_commit_Commit_land (D : HV → List HV → M HV) (args : List HV) : M HV :=
fin (
uP args fun x0 r =>
uP r fun x1 r_1 =>
nl r_1 (
mP x0 fun x6b x6o =>
ldC x6b (x6o + 1) fun v => asP v fun x8 =>
bnd (f_attempt_Attempt_Land D [.ptr x8]) fun r_2 =>
asB r_2 fun x9 =>
mP x0 fun x12b x12o =>
ldC x12b (x12o + 1) fun v_1 => asP v_1 fun x14 =>
bnd (f_attempt_Attempt_Acts D [.ptr x14]) fun r_3 =>
asP r_3 fun x15 =>
bnd (f_acts_Acts_Output D [.ptr x15]) fun r_4 =>
asSl r_4 fun x16 =>
bnd (f_world_World_Send D [.ptr x1, .sl x16]) fun r_5 =>
asT r_5 fun x17l => nl x17l (
bnd (f_world_World_Done D [.ptr x1]) fun r_6 =>
asT r_6 fun x19l => nl x19l (
snp true fun h =>
snp true fun h_1 =>
bnd (f_world_World_Token D [.ptr x1]) fun r_7 =>
asP r_7 fun x21 =>
snp true fun h_2 =>
snp true fun h_3 =>
mP x0 fun x23b x23o =>
snp true fun h_4 =>
snp true fun h_5 =>
ldC x23b x23o fun v_2 => asI .i64 v_2 fun x25 =>
snp true fun h_6 =>
gdP ((h_6.get x23b = h_5.get x23b ∧ h_5.get x23b = h_4.get x23b ∧ h_4.get x23b = h_3.get x23b ∧ h_3.get x23b = h_2.get x23b ∧ h_2.get x23b = h_1.get x23b ∧ h_1.get x23b = h.get x23b ∧ True) ∧ True) (
bnd (f_token_Token_Unlock D [.ptr x21, I x25]) fun r_8 =>
asB r_8 fun x26 =>
snp true fun h_7 =>
snp true fun h_8 =>
bnd (f_world_World_Token D [.ptr x1]) fun r_9 =>
asP r_9 fun x28 =>
snp true fun h_9 =>
snp true fun h_10 =>
mP x0 fun x30b x30o =>
snp true fun h_11 =>
snp true fun h_12 =>
ldC x30b x30o fun v_3 => asI .i64 v_3 fun x32 =>
snp true fun h_13 =>
gdP ((h_13.get x30b = h_12.get x30b ∧ h_12.get x30b = h_11.get x30b ∧ h_11.get x30b = h_10.get x30b ∧ h_10.get x30b = h_9.get x30b ∧ h_9.get x30b = h_8.get x30b ∧ h_8.get x30b = h_7.get x30b ∧ True) ∧ True) (
bnd (f_token_Token_Drop D [.ptr x28, I x32]) fun r_10 =>
asB r_10 fun x33 =>
mP x0 fun x35b x35o =>
stC x35b (x35o + 2) (I 4) (
ret (.ret [I 0]))))))))
noncomputable def f_commit_Commit_Step (D : HV → List HV → M HV) (args : List HV) : M HV :=
fin (
uP args fun x0 r =>
uP r fun x1 r_1 =>
nl r_1 (
jn (
cond (Option.isNone x0) (
ret (.norm [.bool true])) (
ret (.norm [.bool (Option.isNone x1)]))) fun vs =>
uB vs fun x10 r_2 =>
nl r_2 (
cond x10 (
ret (.ret [I 2])) (
mP x0 fun x12b x12o =>
ldC x12b (x12o + 2) fun v => asI .i64 v fun x14 =>
blk 0 (
cond (x14 == 0) (
bnd (f_commit_Commit_check D [.ptr x0, .ptr x1]) fun r_3 =>
asI .i64 r_3 fun x19 =>
ret (.ret [I x19])) (
cond (x14 == 1) (
bnd (f_commit_Commit_write D [.ptr x0, .ptr x1]) fun r_4 =>
asI .i64 r_4 fun x24 =>
ret (.ret [I x24])) (
cond (x14 == 2) (
bnd (f_world_World_Force D [.ptr x1]) fun r_5 =>
asT r_5 fun x28l => nl x28l (
mP x0 fun x30b x30o =>
stC x30b (x30o + 2) (I 3) (
ret (.norm [])))) (
cond (x14 == 3) (
bnd (f_commit_Commit_land D [.ptr x0, .ptr x1]) fun r_6 =>
asI .i64 r_6 fun x36 =>
ret (.ret [I x36])) (
ret (.norm [])))))) fun vs_1 =>
nl vs_1 (
ret (.ret [I 0]))))))
noncomputable def f_world_World_Blocks (D : HV → List HV → M HV) (args : List HV) : M HV :=
fin (
uP args fun x0 r =>
nl r (
cond (Option.isNone x0) (
ret (.ret [I 0])) (
mP x0 fun x6b x6o =>
ldC x6b (x6o + 10) fun v => asI .i64 v fun x8 =>
ret (.ret [I x8]))))
noncomputable def f_reads_New (D : HV → List HV → M HV) (args : List HV) : M HV :=
fin (
uI .i64 args fun x0 r =>
nl r (
nw [.sl (⟨none, 0, 0, none⟩), I x0] fun b5 =>
ret (.ret [.ptr (some (b5, 0))])))
noncomputable def f_sheet_New (D : HV → List HV → M HV) (args : List HV) : M HV :=
fin (
nl args (
nw [.sl (⟨none, 0, 0, none⟩)] fun b2 =>
nw [.ptr (some (b2, 0))] fun b4 =>
ret (.ret [.ptr (some (b4, 0))])))
noncomputable def f_mark_Fresh (D : HV → List HV → M HV) (args : List HV) : M HV :=
fin (
uA args fun x0l r =>
uI .i64 x0l fun x0c0 r_1 =>
uI .i64 r_1 fun x0c1 r_2 =>
uI .i64 r_2 fun x0c2 r_3 =>
uI .i64 r_3 fun x0c3 r_4 =>
nl r_4 (
nl r (
bnd (f_sheet_New D []) fun r_5 =>
asP r_5 fun x5 =>
nw [.sl (⟨none, 0, 0, none⟩)] fun b4 =>
nw [I 0, I 0, I 0] fun b7 =>
ret (.ret [.agg [.ptr (some (b4, 0)), .ptr x5, .ptr (some (b7, 0)), I x0c0, I x0c1, I x0c2, I x0c3]]))))
noncomputable def f_attempt_New (D : HV → List HV → M HV) (args : List HV) : M HV :=
fin (
uP args fun x0 r =>
uA r fun x1l r_1 =>
uI .i64 x1l fun x1c0 r_2 =>
uI .i64 r_2 fun x1c1 r_3 =>
uI .i64 r_3 fun x1c2 r_4 =>
uI .i64 r_4 fun x1c3 r_5 =>
nl r_5 (
nl r_1 (
jn (
cond (Option.isNone x0) (
bnd (f_attempt_NewView D []) fun r_6 =>
asP r_6 fun x7 =>
ret (.norm [.ptr x7])) (
ret (.norm [.ptr x0]))) fun vs =>
uP vs fun x0_1 r_7 =>
nl r_7 (
mP x0_1 fun x10b x10o =>
ldC x10b (x10o + 3) fun v => asI .i64 v fun x12 =>
bnd (f_reads_New D [I x12]) fun r_8 =>
asP r_8 fun x13 =>
bnd (f_mark_Fresh D [.agg [I x1c0, I x1c1, I x1c2, I x1c3]]) fun r_9 =>
asA r_9 fun x15l => uP x15l fun x15c0 r_10 =>
uP r_10 fun x15c1 r_11 =>
uP r_11 fun x15c2 r_12 =>
uI .i64 r_12 fun x15c3 r_13 =>
uI .i64 r_13 fun x15c4 r_14 =>
uI .i64 r_14 fun x15c5 r_15 =>
uI .i64 r_15 fun x15c6 r_16 =>
nl r_16 (
nw [.sl (⟨none, 0, 0, none⟩), .sl (⟨none, 0, 0, none⟩), .sl (⟨none, 0, 0, none⟩), .sl (⟨none, 0, 0, none⟩)] fun b17 =>
nw [.sl (⟨none, 0, 0, none⟩)] fun b19 =>
nw [.ptr x0_1, .ptr x13, .ptr x15c0, .ptr x15c1, .ptr x15c2, I x15c3, I x15c4, I x15c5, I x15c6, .ptr (some (b17, 0)), .ptr (some (b19, 0))] fun b21 =>
ret (.ret [.ptr (some (b21, 0))]))))))
noncomputable def f_world_World_View (D : HV → List HV → M HV) (args : List HV) : M HV :=
fin (
uP args fun x0 r =>
nl r (
cond (Option.isNone x0) (
ret (.ret [.ptr none])) (
mP x0 fun x6b x6o =>
ldC x6b x6o fun v => asP v fun x8 =>
ret (.ret [.ptr x8]))))
noncomputable def f_draft_by_int (D : HV → List HV → M HV) (args : List HV) : M HV :=
fin (
uA args fun x0l r =>
uI .i64 x0l fun x0c0 r_1 =>
uI .i64 r_1 fun x0c1 r_2 =>
nl r_2 (
uI .i64 r fun x1 r_3 =>
nl r_3 (
cond (decide (x0c0 < x1)) (
ret (.ret [I (-1)])) (
cond (decide (x0c0 > x1)) (
ret (.ret [I 1])) (
ret (.ret [I 0]))))))
noncomputable def f_slices_BinarySearchFunc_draft_entry_int_draft_entry_int_int (D : HV → List HV → M HV) (args : List HV) : M HV :=
fin (
uL args fun x0 r =>
uI .i64 r fun x1 r_1 =>
uc r_1 fun x2 r_2 =>
nl r_2 (
blk 0 (
loopD (fun vs_1 =>
uI .i64 vs_1 fun x9 r_3 =>
uI .i64 r_3 fun x10 r_4 =>
nl r_4 (
cond (decide (x9 < x10)) (
ix x0 (wr (Int.fdiv (IntKind.wrap .u64 (wr (x9 + x10))) (2 ^ 1))) 2 fun x27b x27o =>
ldN x27b x27o 2 fun x28l =>
uI .i64 x28l fun x28c0 r_5 =>
uI .i64 r_5 fun x28c1 r_6 =>
nl r_6 (
bnd (D x2 [.agg [I x28c0, I x28c1], I x1]) fun r_7 =>
asI .i64 r_7 fun x30 =>
cond (decide (x30 < 0)) (
ret (.norm [I (wr ((wr (Int.fdiv (IntKind.wrap .u64 (wr (x9 + x10))) (2 ^ 1))) + 1)), I x10])) (
ret (.norm [I x9, I (wr (Int.fdiv (IntKind.wrap .u64 (wr (x9 + x10))) (2 ^ 1)))])))) (
ret (.exit 0 [I x9])))) [I 0, I (x0.len : Int)]) fun vs =>
uI .i64 vs fun x9_1 r_8 =>
nl r_8 (
jn (
cond (decide (x9_1 < (x0.len : Int))) (
ix x0 x9_1 2 fun x43b x43o =>
ldN x43b x43o 2 fun x44l =>
uI .i64 x44l fun x44c0 r_9 =>
uI .i64 r_9 fun x44c1 r_10 =>
nl r_10 (
bnd (D x2 [.agg [I x44c0, I x44c1], I x1]) fun r_11 =>
asI .i64 r_11 fun x46 =>
ret (.norm [I x9_1, .bool (x46 == 0)]))) (
ret (.norm [I x9_1, .bool false]))) fun vs_2 =>
uI .i64 vs_2 fun x6 r_12 =>
uB r_12 fun x7 r_13 =>
nl r_13 (
ret (.ret [I x6, .bool x7])))))
noncomputable def f_draft_Draft_int_find (D : HV → List HV → M HV) (args : List HV) : M HV :=
fin (
uP args fun x0 r =>
uI .i64 r fun x1 r_1 =>
nl r_1 (
mP x0 fun x7b x7o =>
ldC x7b x7o fun v => asSl v fun x9 =>
bnd (f_slices_BinarySearchFunc_draft_entry_int_draft_entry_int_int D [.sl x9, I x1, .func n_draft_by_int [] []]) fun r_2 =>
asT r_2 fun x11l => uI .i64 x11l fun x11t0 r_3 =>
uB r_3 fun x11t1 r_4 =>
nl r_4 (
ret (.ret [I x11t0, .bool x11t1]))))
noncomputable def f_draft_Draft_int_Put (D : HV → List HV → M HV) (args : List HV) : M HV :=
fin (
uP args fun x0 r =>
uI .i64 r fun x1 r_1 =>
uI .i64 r_1 fun x2 r_2 =>
nl r_2 (
cond (Option.isNone x0) (
ret (.ret [.bool false])) (
bnd (f_draft_Draft_int_find D [.ptr x0, I x1]) fun r_3 =>
asT r_3 fun x14l => uI .i64 x14l fun x14t0 r_4 =>
uB r_4 fun x14t1 r_5 =>
nl r_5 (
jn (
cond x14t1 (
mP x0 fun x19b x19o =>
ldC x19b x19o fun v => asSl v fun x21 =>
ix x21 x14t0 2 fun x24b x24o =>
stC x24b (x24o + 1) (I x2) (
ret (.norm []))) (
mP x0 fun x28b x28o =>
ldC x28b x28o fun v_1 => asSl v_1 fun x30 =>
nw [I x1, I x2] fun b35 =>
bnd (f_slices_Insert_draft_entry_int_draft_entry_int D [.sl x30, I x14t0, .sl (⟨some (b35, 0), 1, 1, none⟩)]) fun r_6 =>
asSl r_6 fun x36 =>
mP x0 fun x37b x37o =>
stC x37b x37o (.sl x36) (
ret (.norm [])))) fun vs =>
nl vs (
ret (.ret [.bool true]))))))
noncomputable def f_attempt_Attempt_Store (D : HV → List HV → M HV) (args : List HV) : M HV :=
fin (
uP args fun x0 r =>
uI .i64 r fun x1 r_1 =>
uI .i64 r_1 fun x2 r_2 =>
nl r_2 (
cond (Option.isNone x0) (
ret (.ret [I 2])) (
jn (
cond (decide (x1 < 0)) (
ret (.norm [.bool true])) (
ret (.norm [.bool (decide (x1 ≥ 8))]))) fun vs =>
uB vs fun x10 r_3 =>
nl r_3 (
cond x10 (
ret (.ret [I 1])) (
mP x0 fun x18b x18o =>
ldC x18b (x18o + 2) fun v => asP v fun x21 =>
bnd (f_draft_Draft_int_Put D [.ptr x21, I x1, I x2]) fun r_4 =>
asB r_4 fun x24 =>
ret (.ret [I 0]))))))
noncomputable def f_law22_alive (D : HV → List HV → M HV) (args : List HV) : M HV :=
fin (
nl args (
bnd (f_disk_New D []) fun r =>
asP r fun x6 =>
bnd (f_world_Open D [.ptr x6]) fun r_1 =>
asT r_1 fun x7l => uP x7l fun x7t0 r_2 =>
uI .i64 r_2 fun x7t1 r_3 =>
nl r_3 (
cond (x7t1 != 0) (
ret (.ret [.bool false])) (
bnd (f_world_World_View D [.ptr x7t0]) fun r_4 =>
asP r_4 fun x13 =>
bnd (f_attempt_New D [.ptr x13, .agg [I 0, I 0, I 0, I 0]]) fun r_5 =>
asP r_5 fun x15 =>
bnd (f_attempt_Attempt_Store D [.ptr x15, I 0, I 5]) fun r_6 =>
asI .i64 r_6 fun x17 =>
bnd (f_commit_New D [I 0, .ptr x15]) fun r_7 =>
asP r_7 fun x19 =>
jn (
bnd (f_commit_Commit_Step D [.ptr x19, .ptr x7t0]) fun r_8 =>
asI .i64 r_8 fun x22 =>
cond (x22 == 0) (
bnd (f_commit_Commit_Phase D [.ptr x19]) fun r_9 =>
asI .i64 r_9 fun x26 =>
cond (x26 == 3) (
bnd (f_commit_Commit_Step D [.ptr x19, .ptr x7t0]) fun r_10 =>
asI .i64 r_10 fun x32 =>
cond (x32 == 0) (
bnd (f_world_World_Blocks D [.ptr x7t0]) fun r_11 =>
asI .i64 r_11 fun x37 =>
ret (.norm [.bool (x37 == 1)])) (
ret (.norm [.bool false]))) (
ret (.norm [.bool false]))) (
ret (.norm [.bool false]))) fun vs =>
uB vs fun x0 r_12 =>
nl r_12 (
ret (.ret [.bool x0]))))))
noncomputable def f_law22_great (D : HV → List HV → M HV) (args : List HV) : M HV :=
fin (
uL args fun x0 r =>
nl r (
cond (decide ((x0.len : Int) > 6)) (
ret (.ret [.bool true])) (
blk 0 (
loopD (fun vs_1 =>
uI .i64 vs_1 fun x10 r_1 =>
nl r_1 (
cond (decide (x10 < (x0.len : Int))) (
ix x0 x10 7 fun x12b x12o =>
ldN x12b x12o 7 fun x13l =>
uL x13l fun x13c0 r_2 =>
uI .i64 r_2 fun x13c1 r_3 =>
uI .u8 r_3 fun x13c2 r_4 =>
uI .u8 r_4 fun x13c3 r_5 =>
uI .i64 r_5 fun x13c4 r_6 =>
uI .i64 r_6 fun x13c5 r_7 =>
uI .i64 r_7 fun x13c6 r_8 =>
nl r_8 (
jn (
cond (decide ((x13c0.len : Int) > 20)) (
ret (.norm [.bool true])) (
cond (decide (x13c6 > 1099511627776)) (
ret (.norm [.bool true])) (
ret (.norm [.bool (decide (x13c6 < (-1099511627776)))])))) fun vs_2 =>
uB vs_2 fun x27 r_9 =>
nl r_9 (
cond x27 (
ret (.ret [.bool true])) (
ret (.norm [I (wr (x10 + 1))]))))) (
ret (.exit 0 [])))) [I 0]) fun vs =>
nl vs (
ret (.ret [.bool false])))))
noncomputable def f_draft_Draft_int_Get (D : HV → List HV → M HV) (args : List HV) : M HV :=
fin (
uP args fun x0 r =>
uI .i64 r fun x1 r_1 =>
nl r_1 (
cond (Option.isNone x0) (
ret (.ret [I 0, .bool false])) (
bnd (f_draft_Draft_int_find D [.ptr x0, I x1]) fun r_2 =>
asT r_2 fun x15l => uI .i64 x15l fun x15t0 r_3 =>
uB r_3 fun x15t1 r_4 =>
nl r_4 (
cond (!x15t1) (
ret (.ret [I 0, .bool false])) (
mP x0 fun x22b x22o =>
ldC x22b x22o fun v => asSl v fun x24 =>
ix x24 x15t0 2 fun x26b x26o =>
ldC x26b (x26o + 1) fun v_1 => asI .i64 v_1 fun x28 =>
ret (.ret [I x28, .bool true]))))))
noncomputable def f_reads_Set_place_1 (D : HV → List HV → M HV) (args : List HV) : M HV :=
fin (
uA args fun x0l r =>
uI .i64 x0l fun x0c0 r_1 =>
uI .i64 r_1 fun x0c1 r_2 =>
uI .i64 r_2 fun x0c2 r_3 =>
nl r_3 (
uP r fun x1 r_4 =>
uP r_4 fun x2 r_5 =>
nl r_5 (
jn (
mP x1 fun x7b x7o =>
ldC x7b x7o fun v => asI .i64 v fun x7 =>
cond (x0c0 == x7) (
mP x2 fun x12b x12o =>
ldC x12b x12o fun v_1 => asI .i64 v_1 fun x12 =>
ret (.norm [.bool (x0c1 == x12)])) (
ret (.norm [.bool false]))) fun vs =>
uB vs fun x4 r_6 =>
nl r_6 (
ret (.ret [.bool x4])))))
noncomputable def f_slices_IndexFunc_reads_Entry_reads_Entry (D : HV → List HV → M HV) (args : List HV) : M HV :=
fin (
uL args fun x0 r =>
uc r fun x1 r_1 =>
nl r_1 (
blk 0 (
loopD (fun vs_1 =>
uI .i64 vs_1 fun x8 r_2 =>
nl r_2 (
cond (decide (x8 < (x0.len : Int))) (
ix x0 x8 3 fun x14b x14o =>
ldN x14b x14o 3 fun x15l =>
uI .i64 x15l fun x15c0 r_3 =>
uI .i64 r_3 fun x15c1 r_4 =>
uI .i64 r_4 fun x15c2 r_5 =>
nl r_5 (
bnd (D x1 [.agg [I x15c0, I x15c1, I x15c2]]) fun r_6 =>
asB r_6 fun x16 =>
cond x16 (
ret (.ret [I x8])) (
ret (.norm [I (wr (x8 + 1))])))) (
ret (.exit 0 [])))) [I 0]) fun vs =>
nl vs (
ret (.ret [I (-1)]))))
noncomputable def f_reads_Set_place (D : HV → List HV → M HV) (args : List HV) : M HV :=
fin (
uP args fun x0 r =>
uI .i64 r fun x1 r_1 =>
uI .i64 r_1 fun x2 r_2 =>
nl r_2 (
nw [I x1] fun b4 =>
nw [I x2] fun b5 =>
mP x0 fun x8b x8o =>
ldC x8b x8o fun v => asSl v fun x10 =>
bnd (f_slices_IndexFunc_reads_Entry_reads_Entry D [.sl x10, .func n_reads_Set_place_1 [] [.ptr (some (b4, 0)), .ptr (some (b5, 0))]]) fun r_3 =>
asI .i64 r_3 fun x12 =>
ret (.ret [I x12])))
noncomputable def f_reads_Set_Note (D : HV → List HV → M HV) (args : List HV) : M HV :=
fin (
uP args fun x0 r =>
uA r fun x1l r_1 =>
uI .i64 r_1 fun x2 r_2 =>
uI .i64 r_2 fun x3 r_3 =>
nl r_3 (
cond (Option.isNone x0) (
ret (.ret [.bool false])) (
gxN x1l 0 25 fun x13l =>
bnd (f_reads_Now_Of D [.agg x13l, I x2, I x3]) fun r_4 =>
asI .i64 r_4 fun x16 =>
bnd (f_reads_Set_place D [.ptr x0, I x2, I x3]) fun r_5 =>
asI .i64 r_5 fun x20 =>
cond (decide (x20 ≥ 0)) (
mP x0 fun x24b x24o =>
ldC x24b x24o fun v => asSl v fun x26 =>
ix x26 x20 3 fun x28b x28o =>
ldC x28b (x28o + 2) fun v_1 => asI .i64 v_1 fun x30 =>
ret (.ret [.bool (x30 == x16)])) (
mP x0 fun x35b x35o =>
ldC x35b (x35o + 1) fun v_2 => asI .i64 v_2 fun x37 =>
jn (
cond (decide (x16 > x37)) (
gxN x1l 0 25 fun x40l =>
bnd (f_reads_Set_Valid D [.ptr x0, .agg x40l]) fun r_6 =>
asB r_6 fun x41 =>
cond (!x41) (
ret (.ret [.bool false])) (
gx x1l 24 fun v_3 => asI .i64 v_3 fun x45 =>
mP x0 fun x46b x46o =>
stC x46b (x46o + 1) (I x45) (
ret (.norm [])))) (
ret (.norm []))) fun vs =>
nl vs (
mP x0 fun x50b x50o =>
ldC x50b x50o fun v_4 => asSl v_4 fun x52 =>
apd x52 3 24 1 [I x2, I x3, I x16] fun x58 =>
mP x0 fun x59b x59o =>
stC x59b x59o (.sl x58) (
ret (.ret [.bool true])))))))
noncomputable def f_attempt_Attempt_note (D : HV → List HV → M HV) (args : List HV) : M HV :=
fin (
uP args fun x0 r =>
uI .i64 r fun x1 r_1 =>
uI .i64 r_1 fun x2 r_2 =>
nl r_2 (
snp true fun h =>
snp true fun h_1 =>
mP x0 fun x8b x8o =>
snp true fun h_2 =>
snp true fun h_3 =>
ldC x8b (x8o + 1) fun v => asP v fun x10 =>
snp true fun h_4 =>
snp true fun h_5 =>
mP x0 fun x12b x12o =>
snp true fun h_6 =>
snp true fun h_7 =>
ldC x12b x12o fun v_1 => asP v_1 fun x14 =>
snp true fun h_8 =>
bnd (f_attempt_View_Now D [.ptr x14]) fun r_3 =>
asA r_3 fun x15l =>
snp true fun h_9 =>
snp true fun h_10 =>
snp true fun h_11 =>
gdP ((h_11.get x8b = h_10.get x8b ∧ h_10.get x8b = h_9.get x8b ∧ h_9.get x8b = h_8.get x8b ∧ h_8.get x8b = h_7.get x8b ∧ h_7.get x8b = h_6.get x8b ∧ h_6.get x8b = h_5.get x8b ∧ h_5.get x8b = h_4.get x8b ∧ h_4.get x8b = h_3.get x8b ∧ h_3.get x8b = h_2.get x8b ∧ h_2.get x8b = h_1.get x8b ∧ h_1.get x8b = h.get x8b ∧ True) ∧ True) (
bnd (f_reads_Set_Note D [.ptr x10, .agg x15l, I x1, I x2]) fun r_4 =>
asB r_4 fun x18 =>
cond (!x18) (
ret (.ret [I 9])) (
ret (.ret [I 0])))))
noncomputable def f_attempt_Attempt_Load (D : HV → List HV → M HV) (args : List HV) : M HV :=
fin (
uP args fun x0 r =>
uI .i64 r fun x1 r_1 =>
nl r_1 (
cond (Option.isNone x0) (
ret (.ret [I 0, I 2])) (
jn (
cond (decide (x1 < 0)) (
ret (.norm [.bool true])) (
ret (.norm [.bool (decide (x1 ≥ 8))]))) fun vs =>
uB vs fun x14 r_2 =>
nl r_2 (
cond x14 (
ret (.ret [I 0, I 1])) (
mP x0 fun x23b x23o =>
ldC x23b (x23o + 2) fun v => asP v fun x26 =>
bnd (f_draft_Draft_int_Get D [.ptr x26, I x1]) fun r_3 =>
asT r_3 fun x28l => uI .i64 x28l fun x28t0 r_4 =>
uB r_4 fun x28t1 r_5 =>
nl r_5 (
cond x28t1 (
ret (.ret [I x28t0, I 0])) (
bnd (f_attempt_Attempt_note D [.ptr x0, I 0, I x1]) fun r_6 =>
asI .i64 r_6 fun x35 =>
cond (x35 != 0) (
ret (.ret [I 0, I x35])) (
mP x0 fun x41b x41o =>
ldC x41b x41o fun v_1 => asP v_1 fun x43 =>
mP x43 fun x44b x44o =>
ldC x44b x44o fun v_2 => asP v_2 fun x46 =>
bnd (f_cell_Row_int_Get D [.ptr x46, I x1]) fun r_7 =>
asT r_7 fun x48l => uI .i64 x48l fun x48t0 r_8 =>
uI .i64 r_8 fun x48t1 r_9 =>
nl r_9 (
ret (.ret [I x48t0, I 0]))))))))))
noncomputable def f_draft_by_file_File (D : HV → List HV → M HV) (args : List HV) : M HV :=
fin (
uA args fun x0l r =>
uI .i64 x0l fun x0c0 r_1 =>
uB r_1 fun x0c1 r_2 =>
uS r_2 fun x0c2 r_3 =>
nl r_3 (
uI .i64 r fun x1 r_4 =>
nl r_4 (
cond (decide (x0c0 < x1)) (
ret (.ret [I (-1)])) (
cond (decide (x0c0 > x1)) (
ret (.ret [I 1])) (
ret (.ret [I 0]))))))
noncomputable def f_slices_BinarySearchFunc_draft_entry_file_File_draft_entry_file_File_int (D : HV → List HV → M HV) (args : List HV) : M HV :=
fin (
uL args fun x0 r =>
uI .i64 r fun x1 r_1 =>
uc r_1 fun x2 r_2 =>
nl r_2 (
blk 0 (
loopD (fun vs_1 =>
uI .i64 vs_1 fun x9 r_3 =>
uI .i64 r_3 fun x10 r_4 =>
nl r_4 (
cond (decide (x9 < x10)) (
ix x0 (wr (Int.fdiv (IntKind.wrap .u64 (wr (x9 + x10))) (2 ^ 1))) 3 fun x27b x27o =>
ldN x27b x27o 3 fun x28l =>
uI .i64 x28l fun x28c0 r_5 =>
uB r_5 fun x28c1 r_6 =>
uS r_6 fun x28c2 r_7 =>
nl r_7 (
bnd (D x2 [.agg [I x28c0, .bool x28c1, .str x28c2], I x1]) fun r_8 =>
asI .i64 r_8 fun x30 =>
cond (decide (x30 < 0)) (
ret (.norm [I (wr ((wr (Int.fdiv (IntKind.wrap .u64 (wr (x9 + x10))) (2 ^ 1))) + 1)), I x10])) (
ret (.norm [I x9, I (wr (Int.fdiv (IntKind.wrap .u64 (wr (x9 + x10))) (2 ^ 1)))])))) (
ret (.exit 0 [I x9])))) [I 0, I (x0.len : Int)]) fun vs =>
uI .i64 vs fun x9_1 r_9 =>
nl r_9 (
jn (
cond (decide (x9_1 < (x0.len : Int))) (
ix x0 x9_1 3 fun x43b x43o =>
ldN x43b x43o 3 fun x44l =>
uI .i64 x44l fun x44c0 r_10 =>
uB r_10 fun x44c1 r_11 =>
uS r_11 fun x44c2 r_12 =>
nl r_12 (
bnd (D x2 [.agg [I x44c0, .bool x44c1, .str x44c2], I x1]) fun r_13 =>
asI .i64 r_13 fun x46 =>
ret (.norm [I x9_1, .bool (x46 == 0)]))) (
ret (.norm [I x9_1, .bool false]))) fun vs_2 =>
uI .i64 vs_2 fun x6 r_14 =>
uB r_14 fun x7 r_15 =>
nl r_15 (
ret (.ret [I x6, .bool x7])))))
noncomputable def f_draft_Draft_file_File_find (D : HV → List HV → M HV) (args : List HV) : M HV :=
fin (
uP args fun x0 r =>
uI .i64 r fun x1 r_1 =>
nl r_1 (
mP x0 fun x7b x7o =>
ldC x7b x7o fun v => asSl v fun x9 =>
bnd (f_slices_BinarySearchFunc_draft_entry_file_File_draft_entry_file_File_int D [.sl x9, I x1, .func n_draft_by_file_File [] []]) fun r_2 =>
asT r_2 fun x11l => uI .i64 x11l fun x11t0 r_3 =>
uB r_3 fun x11t1 r_4 =>
nl r_4 (
ret (.ret [I x11t0, .bool x11t1]))))
noncomputable def f_draft_Draft_file_File_Get (D : HV → List HV → M HV) (args : List HV) : M HV :=
fin (
uP args fun x0 r =>
uI .i64 r fun x1 r_1 =>
nl r_1 (
cond (Option.isNone x0) (
ret (.ret [.agg [.bool false, .str (ByteArray.mk #[])], .bool false])) (
bnd (f_draft_Draft_file_File_find D [.ptr x0, I x1]) fun r_2 =>
asT r_2 fun x15l => uI .i64 x15l fun x15t0 r_3 =>
uB r_3 fun x15t1 r_4 =>
nl r_4 (
cond (!x15t1) (
ret (.ret [.agg [.bool false, .str (ByteArray.mk #[])], .bool false])) (
mP x0 fun x22b x22o =>
ldC x22b x22o fun v => asSl v fun x24 =>
ix x24 x15t0 3 fun x26b x26o =>
ldN x26b (x26o + 1) 2 fun x28l =>
uB x28l fun x28c0 r_5 =>
uS r_5 fun x28c1 r_6 =>
nl r_6 (
ret (.ret [.agg [.bool x28c0, .str x28c1], .bool true])))))))
noncomputable def f_sheet_Sheet_Get (D : HV → List HV → M HV) (args : List HV) : M HV :=
fin (
uP args fun x0 r =>
uP r fun x1 r_1 =>
uI .i64 r_1 fun x2 r_2 =>
nl r_2 (
jn (
cond (!(Option.isNone x0)) (
mP x0 fun x16b x16o =>
ldC x16b x16o fun v => asP v fun x18 =>
bnd (f_draft_Draft_file_File_Get D [.ptr x18, I x2]) fun r_3 =>
asT r_3 fun x20l => uA x20l fun x20t0l r_4 =>
uB x20t0l fun x20t0c0 r_5 =>
uS r_5 fun x20t0c1 r_6 =>
nl r_6 (
uB r_4 fun x20t1 r_7 =>
nl r_7 (
cond x20t1 (
ret (.ret [.agg [.bool x20t0c0, .str x20t0c1], .bool true])) (
ret (.norm []))))) (
ret (.norm []))) fun vs =>
nl vs (
bnd (f_tome_Tome_Get D [.ptr x1, I x2]) fun r_8 =>
asT r_8 fun x28l => uA x28l fun x28t0l r_9 =>
uB x28t0l fun x28t0c0 r_10 =>
uS r_10 fun x28t0c1 r_11 =>
nl r_11 (
uI .i64 r_9 fun x28t1 r_12 =>
nl r_12 (
ret (.ret [.agg [.bool x28t0c0, .str x28t0c1], .bool false]))))))
noncomputable def f_attempt_Attempt_touch (D : HV → List HV → M HV) (args : List HV) : M HV :=
fin (
uP args fun x0 r =>
uI .i64 r fun x1 r_1 =>
nl r_1 (
cond (Option.isNone x0) (
ret (.ret [.agg [.bool false, .str (ByteArray.mk #[])], I 2])) (
jn (
cond (decide (x1 < 0)) (
ret (.norm [.bool true])) (
ret (.norm [.bool (decide (x1 ≥ 6))]))) fun vs =>
uB vs fun x12 r_2 =>
nl r_2 (
cond x12 (
ret (.ret [.agg [.bool false, .str (ByteArray.mk #[])], I 1])) (
mP x0 fun x22b x22o =>
ldC x22b (x22o + 2 + 1) fun v => asP v fun x25 =>
mP x0 fun x27b x27o =>
ldC x27b x27o fun v_1 => asP v_1 fun x29 =>
mP x29 fun x30b x30o =>
ldC x30b (x30o + 1) fun v_2 => asP v_2 fun x32 =>
bnd (f_sheet_Sheet_Get D [.ptr x25, .ptr x32, I x1]) fun r_3 =>
asT r_3 fun x34l => uA x34l fun x34t0l r_4 =>
uB x34t0l fun x34t0c0 r_5 =>
uS r_5 fun x34t0c1 r_6 =>
nl r_6 (
uB r_4 fun x34t1 r_7 =>
nl r_7 (
cond x34t1 (
ret (.ret [.agg [.bool x34t0c0, .str x34t0c1], I 0])) (
bnd (f_attempt_Attempt_note D [.ptr x0, I 1, I x1]) fun r_8 =>
asI .i64 r_8 fun x42 =>
ret (.ret [.agg [.bool x34t0c0, .str x34t0c1], I x42])))))))))
noncomputable def f_file_At (D : HV → List HV → M HV) (args : List HV) : M HV :=
fin (
uA args fun x0l r =>
uB x0l fun x0c0 r_1 =>
uS r_1 fun x0c1 r_2 =>
nl r_2 (
uI .i64 r fun x1 r_3 =>
nl r_3 (
jn (
cond (decide (x1 < 0)) (
ret (.norm [.bool true])) (
ret (.norm [.bool (decide (x1 ≥ (x0c1.size : Int)))]))) fun vs =>
uB vs fun x13 r_4 =>
nl r_4 (
cond x13 (
ret (.ret [I (-1)])) (
gd (decide (0 ≤ x1)) (gd (decide (x1 < (x0c1.size : Int))) (
ret (.ret [I (wr ((x0c1.data[x1.toNat]?.getD 0).toNat : Int))]))))))))
noncomputable def f_attempt_Attempt_Read (D : HV → List HV → M HV) (args : List HV) : M HV :=
fin (
uP args fun x0 r =>
uI .i64 r fun x1 r_1 =>
uI .i64 r_1 fun x2 r_2 =>
nl r_2 (
bnd (f_attempt_Attempt_touch D [.ptr x0, I x1]) fun r_3 =>
asT r_3 fun x13l => uA x13l fun x13t0l r_4 =>
uB x13t0l fun x13t0c0 r_5 =>
uS r_5 fun x13t0c1 r_6 =>
nl r_6 (
uI .i64 r_4 fun x13t1 r_7 =>
nl r_7 (
cond (x13t1 != 0) (
ret (.ret [I 0, I x13t1])) (
bnd (f_file_At D [.agg [.bool x13t0c0, .str x13t0c1], I x2]) fun r_8 =>
asI .i64 r_8 fun x21 =>
ret (.ret [I x21, I 0]))))))
noncomputable def f_draft_Draft_file_File_Put (D : HV → List HV → M HV) (args : List HV) : M HV :=
fin (
uP args fun x0 r =>
uI .i64 r fun x1 r_1 =>
uA r_1 fun x2l r_2 =>
uB x2l fun x2c0 r_3 =>
uS r_3 fun x2c1 r_4 =>
nl r_4 (
nl r_2 (
cond (Option.isNone x0) (
ret (.ret [.bool false])) (
bnd (f_draft_Draft_file_File_find D [.ptr x0, I x1]) fun r_5 =>
asT r_5 fun x14l => uI .i64 x14l fun x14t0 r_6 =>
uB r_6 fun x14t1 r_7 =>
nl r_7 (
jn (
cond x14t1 (
mP x0 fun x19b x19o =>
ldC x19b x19o fun v => asSl v fun x21 =>
ix x21 x14t0 3 fun x24b x24o =>
stN x24b (x24o + 1) [.bool x2c0, .str x2c1] (
ret (.norm []))) (
snp true fun h =>
snp true fun h_1 =>
snp true fun h_2 =>
mP x0 fun x28b x28o =>
snp true fun h_3 =>
snp true fun h_4 =>
ldC x28b x28o fun v_1 => asSl v_1 fun x30 =>
snp true fun h_5 =>
snp true fun h_6 =>
snp true fun h_7 =>
snp true fun h_8 =>
snp true fun h_9 =>
nw [I x1, .bool x2c0, .str x2c1] fun b35 =>
snp true fun h_10 =>
bnd (f_slices_Insert_draft_entry_file_File_draft_entry_file_File D [.sl x30, I x14t0, .sl (⟨some (b35, 0), 1, 1, none⟩)]) fun r_8 =>
asSl r_8 fun x36 =>
snp true fun h_11 =>
gdP ((h_11.get x28b = h_10.get x28b ∧ h_10.get x28b = h_9.get x28b ∧ h_9.get x28b = h_8.get x28b ∧ h_8.get x28b = h_7.get x28b ∧ h_7.get x28b = h_6.get x28b ∧ h_6.get x28b = h_5.get x28b ∧ h_5.get x28b = h_4.get x28b ∧ h_4.get x28b = h_3.get x28b ∧ h_3.get x28b = h_2.get x28b ∧ h_2.get x28b = h_1.get x28b ∧ h_1.get x28b = h.get x28b ∧ True) ∧ True) (
mP x0 fun x37b x37o =>
stC x37b x37o (.sl x36) (
ret (.norm []))))) fun vs =>
nl vs (
ret (.ret [.bool true])))))))
noncomputable def f_sheet_Sheet_put (D : HV → List HV → M HV) (args : List HV) : M HV :=
fin (
uP args fun x0 r =>
uP r fun x1 r_1 =>
uI .i64 r_1 fun x2 r_2 =>
uA r_2 fun x3l r_3 =>
uB x3l fun x3c0 r_4 =>
uS r_4 fun x3c1 r_5 =>
nl r_5 (
nl r_3 (
jn (
cond (Option.isNone x0) (
ret (.norm [.bool true])) (
cond (decide (x2 < 0)) (
ret (.norm [.bool true])) (
ret (.norm [.bool (decide (x2 ≥ 6))])))) fun vs =>
uB vs fun x20 r_6 =>
nl r_6 (
cond x20 (
ret (.ret [.bool false])) (
bnd (f_sheet_Sheet_Get D [.ptr x0, .ptr x1, I x2]) fun r_7 =>
asT r_7 fun x25l => uA x25l fun x25t0l r_8 =>
uB x25t0l fun x25t0c0 r_9 =>
uS r_9 fun x25t0c1 r_10 =>
nl r_10 (
uB r_8 fun x25t1 r_11 =>
nl r_11 (
cond (cond (x25t0c0 == x3c0) (cond (x25t0c1.toList == x3c1.toList) true false) false) (
ret (.ret [.bool true])) (
mP x0 fun x32b x32o =>
ldC x32b x32o fun v => asP v fun x34 =>
bnd (f_draft_Draft_file_File_Put D [.ptr x34, I x2, .agg [.bool x3c0, .str x3c1]]) fun r_12 =>
asB r_12 fun x37 =>
ret (.ret [.bool x37])))))))))
noncomputable def f_file_Put (D : HV → List HV → M HV) (args : List HV) : M HV :=
fin (
uA args fun x0l r =>
uB x0l fun x0c0 r_1 =>
uS r_1 fun x0c1 r_2 =>
nl r_2 (
uI .i64 r fun x1 r_3 =>
uI .u8 r_3 fun x2 r_4 =>
nl r_4 (
jn (
cond (decide (x1 < 0)) (
ret (.norm [.bool true])) (
ret (.norm [.bool (decide (x1 ≥ 32))]))) fun vs =>
uB vs fun x13 r_5 =>
nl r_5 (
cond x13 (
ret (.ret [.agg [.bool x0c0, .str x0c1]])) (
nwT (5, none) (bytesHV x0c1) fun b17 =>
blk 0 (
loopD (fun vs_2 =>
uL vs_2 fun x7 r_6 =>
nl r_6 (
cond (decide ((x7.len : Int) ≤ x1)) (
apd x7 1 1 1 [.int .u8 0] fun x24 =>
ret (.norm [.sl x24])) (
ret (.exit 0 [.sl x7])))) [.sl (⟨some (b17, 0), x0c1.size, x0c1.size, some 1⟩)]) fun vs_1 =>
uL vs_1 fun x7_1 r_7 =>
nl r_7 (
ix x7_1 x1 1 fun x28b x28o =>
stC x28b x28o (.int .u8 x2) (
rdS x7_1 1 fun vs_3 =>
gd (decide (vs_3.length = x7_1.len)) (strM vs_3 fun x30s =>
ret (.ret [.agg [.bool true, .str x30s]])))))))))
noncomputable def f_sheet_Sheet_Write (D : HV → List HV → M HV) (args : List HV) : M HV :=
fin (
uP args fun x0 r =>
uP r fun x1 r_1 =>
uI .i64 r_1 fun x2 r_2 =>
uI .i64 r_2 fun x3 r_3 =>
uI .u8 r_3 fun x4 r_4 =>
nl r_4 (
bnd (f_sheet_Sheet_Get D [.ptr x0, .ptr x1, I x2]) fun r_5 =>
asT r_5 fun x17l => uA x17l fun x17t0l r_6 =>
uB x17t0l fun x17t0c0 r_7 =>
uS r_7 fun x17t0c1 r_8 =>
nl r_8 (
uB r_6 fun x17t1 r_9 =>
nl r_9 (
bnd (f_file_Put D [.agg [.bool x17t0c0, .str x17t0c1], I x3, .int .u8 x4]) fun r_10 =>
asA r_10 fun x26l => uB x26l fun x26c0 r_11 =>
uS r_11 fun x26c1 r_12 =>
nl r_12 (
bnd (f_sheet_Sheet_put D [.ptr x0, .ptr x1, I x2, .agg [.bool x26c0, .str x26c1]]) fun r_13 =>
asB r_13 fun x27 =>
ret (.ret [.bool x27]))))))
noncomputable def f_attempt_Attempt_Write (D : HV → List HV → M HV) (args : List HV) : M HV :=
fin (
uP args fun x0 r =>
uI .i64 r fun x1 r_1 =>
uI .i64 r_1 fun x2 r_2 =>
uI .u8 r_2 fun x3 r_3 =>
nl r_3 (
bnd (f_attempt_Attempt_touch D [.ptr x0, I x1]) fun r_4 =>
asT r_4 fun x14l => uA x14l fun x14t0l r_5 =>
uB x14t0l fun x14t0c0 r_6 =>
uS r_6 fun x14t0c1 r_7 =>
nl r_7 (
uI .i64 r_5 fun x14t1 r_8 =>
nl r_8 (
jn (
cond (x14t1 == 0) (
mP x0 fun x20b x20o =>
ldC x20b (x20o + 2 + 1) fun v => asP v fun x23 =>
mP x0 fun x25b x25o =>
ldC x25b x25o fun v_1 => asP v_1 fun x27 =>
mP x27 fun x28b x28o =>
ldC x28b (x28o + 1) fun v_2 => asP v_2 fun x30 =>
bnd (f_sheet_Sheet_Write D [.ptr x23, .ptr x30, I x1, I x2, .int .u8 x3]) fun r_9 =>
asB r_9 fun x34 =>
ret (.norm [])) (
ret (.norm []))) fun vs =>
nl vs (
ret (.ret [I x14t1]))))))
noncomputable def f_file_Make (D : HV → List HV → M HV) (args : List HV) : M HV :=
fin (
uA args fun x0l r =>
uB x0l fun x0c0 r_1 =>
uS r_1 fun x0c1 r_2 =>
nl r_2 (
nl r (
ret (.ret [.agg [.bool true, .str x0c1]]))))
noncomputable def f_sheet_Sheet_Create (D : HV → List HV → M HV) (args : List HV) : M HV :=
fin (
uP args fun x0 r =>
uP r fun x1 r_1 =>
uI .i64 r_1 fun x2 r_2 =>
nl r_2 (
bnd (f_sheet_Sheet_Get D [.ptr x0, .ptr x1, I x2]) fun r_3 =>
asT r_3 fun x13l => uA x13l fun x13t0l r_4 =>
uB x13t0l fun x13t0c0 r_5 =>
uS r_5 fun x13t0c1 r_6 =>
nl r_6 (
uB r_4 fun x13t1 r_7 =>
nl r_7 (
bnd (f_file_Make D [.agg [.bool x13t0c0, .str x13t0c1]]) fun r_8 =>
asA r_8 fun x20l => uB x20l fun x20c0 r_9 =>
uS r_9 fun x20c1 r_10 =>
nl r_10 (
bnd (f_sheet_Sheet_put D [.ptr x0, .ptr x1, I x2, .agg [.bool x20c0, .str x20c1]]) fun r_11 =>
asB r_11 fun x21 =>
ret (.ret [.bool x21]))))))
noncomputable def f_attempt_Attempt_Create (D : HV → List HV → M HV) (args : List HV) : M HV :=
fin (
uP args fun x0 r =>
uI .i64 r fun x1 r_1 =>
nl r_1 (
bnd (f_attempt_Attempt_touch D [.ptr x0, I x1]) fun r_2 =>
asT r_2 fun x10l => uA x10l fun x10t0l r_3 =>
uB x10t0l fun x10t0c0 r_4 =>
uS r_4 fun x10t0c1 r_5 =>
nl r_5 (
uI .i64 r_3 fun x10t1 r_6 =>
nl r_6 (
jn (
cond (x10t1 == 0) (
mP x0 fun x16b x16o =>
ldC x16b (x16o + 2 + 1) fun v => asP v fun x19 =>
mP x0 fun x21b x21o =>
ldC x21b x21o fun v_1 => asP v_1 fun x23 =>
mP x23 fun x24b x24o =>
ldC x24b (x24o + 1) fun v_2 => asP v_2 fun x26 =>
bnd (f_sheet_Sheet_Create D [.ptr x19, .ptr x26, I x1]) fun r_7 =>
asB r_7 fun x28 =>
ret (.norm [])) (
ret (.norm []))) fun vs =>
nl vs (
ret (.ret [I x10t1]))))))
noncomputable def f_sheet_Sheet_Remove (D : HV → List HV → M HV) (args : List HV) : M HV :=
fin (
uP args fun x0 r =>
uP r fun x1 r_1 =>
uI .i64 r_1 fun x2 r_2 =>
nl r_2 (
bnd (f_sheet_Sheet_put D [.ptr x0, .ptr x1, I x2, .agg [.bool false, .str (ByteArray.mk #[])]]) fun r_3 =>
asB r_3 fun x11 =>
ret (.ret [.bool x11])))
noncomputable def f_attempt_Attempt_Remove (D : HV → List HV → M HV) (args : List HV) : M HV :=
fin (
uP args fun x0 r =>
uI .i64 r fun x1 r_1 =>
nl r_1 (
bnd (f_attempt_Attempt_touch D [.ptr x0, I x1]) fun r_2 =>
asT r_2 fun x10l => uA x10l fun x10t0l r_3 =>
uB x10t0l fun x10t0c0 r_4 =>
uS r_4 fun x10t0c1 r_5 =>
nl r_5 (
uI .i64 r_3 fun x10t1 r_6 =>
nl r_6 (
jn (
cond (x10t1 == 0) (
mP x0 fun x16b x16o =>
ldC x16b (x16o + 2 + 1) fun v => asP v fun x19 =>
mP x0 fun x21b x21o =>
ldC x21b x21o fun v_1 => asP v_1 fun x23 =>
mP x23 fun x24b x24o =>
ldC x24b (x24o + 1) fun v_2 => asP v_2 fun x26 =>
bnd (f_sheet_Sheet_Remove D [.ptr x19, .ptr x26, I x1]) fun r_7 =>
asB r_7 fun x28 =>
ret (.norm [])) (
ret (.norm []))) fun vs =>
nl vs (
ret (.ret [I x10t1]))))))
noncomputable def f_sheet_Sheet_Rename (D : HV → List HV → M HV) (args : List HV) : M HV :=
fin (
uP args fun x0 r =>
uP r fun x1 r_1 =>
uI .i64 r_1 fun x2 r_2 =>
uI .i64 r_2 fun x3 r_3 =>
nl r_3 (
bnd (f_sheet_Sheet_Get D [.ptr x0, .ptr x1, I x2]) fun r_4 =>
asT r_4 fun x15l => uA x15l fun x15t0l r_5 =>
uB x15t0l fun x15t0c0 r_6 =>
uS r_6 fun x15t0c1 r_7 =>
nl r_7 (
uB r_5 fun x15t1 r_8 =>
nl r_8 (
jn (
cond (Option.isNone x0) (
ret (.norm [.bool true])) (
cond (decide (x2 < 0)) (
ret (.norm [.bool true])) (
cond (decide (x2 ≥ 6)) (
ret (.norm [.bool true])) (
cond (decide (x3 < 0)) (
ret (.norm [.bool true])) (
ret (.norm [.bool (decide (x3 ≥ 6))])))))) fun vs =>
uB vs fun x18 r_9 =>
nl r_9 (
cond x18 (
ret (.ret [.bool false])) (
jn (
cond (!x15t0c0) (
ret (.norm [.bool true])) (
ret (.norm [.bool (x2 == x3)]))) fun vs_1 =>
uB vs_1 fun x37 r_10 =>
nl r_10 (
cond x37 (
ret (.ret [.bool true])) (
bnd (f_sheet_Sheet_put D [.ptr x0, .ptr x1, I x3, .agg [.bool x15t0c0, .str x15t0c1]]) fun r_11 =>
asB r_11 fun x50 =>
bnd (f_sheet_Sheet_put D [.ptr x0, .ptr x1, I x2, .agg [.bool false, .str (ByteArray.mk #[])]]) fun r_12 =>
asB r_12 fun x55 =>
ret (.ret [.bool x55])))))))))
noncomputable def f_attempt_Attempt_Rename (D : HV → List HV → M HV) (args : List HV) : M HV :=
fin (
uP args fun x0 r =>
uI .i64 r fun x1 r_1 =>
uI .i64 r_1 fun x2 r_2 =>
nl r_2 (
jn (
cond (!(Option.isNone x0)) (
cond (decide (x2 < 0)) (
ret (.norm [.bool true])) (
ret (.norm [.bool (decide (x2 ≥ 6))]))) (
ret (.norm [.bool false]))) fun vs =>
uB vs fun x18 r_3 =>
nl r_3 (
cond x18 (
ret (.ret [I 1])) (
bnd (f_attempt_Attempt_touch D [.ptr x0, I x1]) fun r_4 =>
asT r_4 fun x22l => uA x22l fun x22t0l r_5 =>
uB x22t0l fun x22t0c0 r_6 =>
uS r_6 fun x22t0c1 r_7 =>
nl r_7 (
uI .i64 r_5 fun x22t1 r_8 =>
nl r_8 (
jn (
cond (x22t1 == 0) (
bnd (f_attempt_Attempt_touch D [.ptr x0, I x2]) fun r_9 =>
asT r_9 fun x30l => uA x30l fun x30t0l r_10 =>
uB x30t0l fun x30t0c0 r_11 =>
uS r_11 fun x30t0c1 r_12 =>
nl r_12 (
uI .i64 r_10 fun x30t1 r_13 =>
nl r_13 (
ret (.norm [I x30t1])))) (
ret (.norm [I x22t1]))) fun vs_1 =>
uI .i64 vs_1 fun x8 r_14 =>
nl r_14 (
jn (
cond (x8 == 0) (
mP x0 fun x36b x36o =>
ldC x36b (x36o + 2 + 1) fun v => asP v fun x39 =>
mP x0 fun x41b x41o =>
ldC x41b x41o fun v_1 => asP v_1 fun x43 =>
mP x43 fun x44b x44o =>
ldC x44b (x44o + 1) fun v_2 => asP v_2 fun x46 =>
bnd (f_sheet_Sheet_Rename D [.ptr x39, .ptr x46, I x1, I x2]) fun r_15 =>
asB r_15 fun x49 =>
ret (.norm [])) (
ret (.norm []))) fun vs_2 =>
nl vs_2 (
ret (.ret [I x8])))))))))
noncomputable def f_file_Cut (D : HV → List HV → M HV) (args : List HV) : M HV :=
fin (
uA args fun x0l r =>
uB x0l fun x0c0 r_1 =>
uS r_1 fun x0c1 r_2 =>
nl r_2 (
uI .i64 r fun x1 r_3 =>
nl r_3 (
jn (
cond (!x0c0) (
ret (.norm [.bool true])) (
cond (decide (x1 < 0)) (
ret (.norm [.bool true])) (
ret (.norm [.bool (decide (x1 > 32))])))) fun vs =>
uB vs fun x15 r_4 =>
nl r_4 (
cond x15 (
ret (.ret [.agg [.bool x0c0, .str x0c1]])) (
cond (decide (x1 ≤ (x0c1.size : Int))) (
gd (decide (0 ≤ 0)) (gd (decide (0 ≤ x1)) (gd (decide (x1 ≤ (x0c1.size : Int))) (
ret (.ret [.agg [.bool true, .str (x0c1.extract (0 : Int).toNat x1.toNat)]]))))) (
bnd (f_strings_Repeat D [.str (ByteArray.mk #[0]), I (wr (x1 - (x0c1.size : Int)))]) fun r_5 =>
asS r_5 fun x34 =>
gd (decide (x0c1.size + x34.size ≤ 9223372036854775807)) (
ret (.ret [.agg [.bool true, .str (x0c1 ++ x34)]]))))))))
noncomputable def f_sheet_Sheet_Cut (D : HV → List HV → M HV) (args : List HV) : M HV :=
fin (
uP args fun x0 r =>
uP r fun x1 r_1 =>
uI .i64 r_1 fun x2 r_2 =>
uI .i64 r_2 fun x3 r_3 =>
nl r_3 (
bnd (f_sheet_Sheet_Get D [.ptr x0, .ptr x1, I x2]) fun r_4 =>
asT r_4 fun x15l => uA x15l fun x15t0l r_5 =>
uB x15t0l fun x15t0c0 r_6 =>
uS r_6 fun x15t0c1 r_7 =>
nl r_7 (
uB r_5 fun x15t1 r_8 =>
nl r_8 (
bnd (f_file_Cut D [.agg [.bool x15t0c0, .str x15t0c1], I x3]) fun r_9 =>
asA r_9 fun x23l => uB x23l fun x23c0 r_10 =>
uS r_10 fun x23c1 r_11 =>
nl r_11 (
bnd (f_sheet_Sheet_put D [.ptr x0, .ptr x1, I x2, .agg [.bool x23c0, .str x23c1]]) fun r_12 =>
asB r_12 fun x24 =>
ret (.ret [.bool x24]))))))
noncomputable def f_attempt_Attempt_Cut (D : HV → List HV → M HV) (args : List HV) : M HV :=
fin (
uP args fun x0 r =>
uI .i64 r fun x1 r_1 =>
uI .i64 r_1 fun x2 r_2 =>
nl r_2 (
bnd (f_attempt_Attempt_touch D [.ptr x0, I x1]) fun r_3 =>
asT r_3 fun x12l => uA x12l fun x12t0l r_4 =>
uB x12t0l fun x12t0c0 r_5 =>
uS r_5 fun x12t0c1 r_6 =>
nl r_6 (
uI .i64 r_4 fun x12t1 r_7 =>
nl r_7 (
jn (
cond (x12t1 == 0) (
mP x0 fun x18b x18o =>
ldC x18b (x18o + 2 + 1) fun v => asP v fun x21 =>
mP x0 fun x23b x23o =>
ldC x23b x23o fun v_1 => asP v_1 fun x25 =>
mP x25 fun x26b x26o =>
ldC x26b (x26o + 1) fun v_2 => asP v_2 fun x28 =>
bnd (f_sheet_Sheet_Cut D [.ptr x21, .ptr x28, I x1, I x2]) fun r_8 =>
asB r_8 fun x31 =>
ret (.norm [])) (
ret (.norm []))) fun vs =>
nl vs (
ret (.ret [I x12t1]))))))
noncomputable def f_feed_Feed_At (D : HV → List HV → M HV) (args : List HV) : M HV :=
fin (
uP args fun x0 r =>
uI .i64 r fun x1 r_1 =>
uI .i64 r_1 fun x2 r_2 =>
nl r_2 (
jn (
bnd (f_feed_Feed_is D [.ptr x0, I x1]) fun r_3 =>
asB r_3 fun x9 =>
cond (!x9) (
ret (.norm [.bool true])) (
cond (decide (x2 < 0)) (
ret (.norm [.bool true])) (
mP x0 fun x19b x19o =>
gd (decide (0 ≤ x1)) (gd (decide (x1 < (3 : Int))) (
ldC x19b (x19o + x1.toNat * 1) fun v => asS v fun x22 =>
ret (.norm [.bool (decide (x2 ≥ (x22.size : Int)))])))))) fun vs =>
uB vs fun x25 r_4 =>
nl r_4 (
cond x25 (
ret (.ret [I (-1)])) (
mP x0 fun x28b x28o =>
gd (decide (0 ≤ x1)) (gd (decide (x1 < (3 : Int))) (
ldC x28b (x28o + x1.toNat * 1) fun v_1 => asS v_1 fun x31 =>
gd (decide (0 ≤ x2)) (gd (decide (x2 < (x31.size : Int))) (
ret (.ret [I (wr ((x31.data[x2.toNat]?.getD 0).toNat : Int))])))))))))
noncomputable def f_cursor_Cursor_At (D : HV → List HV → M HV) (args : List HV) : M HV :=
fin (
uP args fun x0 r =>
uI .i64 r fun x1 r_1 =>
uI .i64 r_1 fun x2 r_2 =>
nl r_2 (
jn (
cond (Option.isNone x0) (
ret (.norm [.bool true])) (
bnd (f_cursor_is D [I x1]) fun r_3 =>
asB r_3 fun x11 =>
ret (.norm [.bool (!x11)]))) fun vs =>
uB vs fun x13 r_4 =>
nl r_4 (
cond x13 (
ret (.ret [I x2])) (
mP x0 fun x18b x18o =>
gd (decide (0 ≤ x1)) (gd (decide (x1 < (3 : Int))) (
ldC x18b (x18o + x1.toNat * 1) fun v => asI .i64 v fun x21 =>
ret (.ret [I (wr (x2 + x21))])))))))
noncomputable def f_cursor_Cursor_Step (D : HV → List HV → M HV) (args : List HV) : M HV :=
fin (
uP args fun x0 r =>
uI .i64 r fun x1 r_1 =>
nl r_1 (
jn (
cond (Option.isNone x0) (
ret (.norm [.bool true])) (
bnd (f_cursor_is D [I x1]) fun r_2 =>
asB r_2 fun x9 =>
cond (!x9) (
ret (.norm [.bool true])) (
mP x0 fun x15b x15o =>
gd (decide (0 ≤ x1)) (gd (decide (x1 < (3 : Int))) (
ldC x15b (x15o + x1.toNat * 1) fun v => asI .i64 v fun x18 =>
ret (.norm [.bool (decide (x18 ≥ 64))])))))) fun vs =>
uB vs fun x20 r_3 =>
nl r_3 (
cond x20 (
ret (.ret [.bool false])) (
mP x0 fun x23b x23o =>
gd (decide (0 ≤ x1)) (gd (decide (x1 < (3 : Int))) (
ldC x23b (x23o + x1.toNat * 1) fun v_1 => asI .i64 v_1 fun x26 =>
mP x0 fun x28b x28o =>
gd (decide (0 ≤ x1)) (gd (decide (x1 < (3 : Int))) (
stC x28b (x28o + x1.toNat * 1) (I (wr (x26 + 1))) (
ret (.ret [.bool true]))))))))))
noncomputable def f_attempt_Attempt_Recv (D : HV → List HV → M HV) (args : List HV) : M HV :=
fin (
uP args fun x0 r =>
uI .i64 r fun x1 r_1 =>
nl r_1 (
cond (Option.isNone x0) (
ret (.ret [I 0, I 2])) (
jn (
cond (decide (x1 < 0)) (
ret (.norm [.bool true])) (
ret (.norm [.bool (decide (x1 ≥ 3))]))) fun vs =>
uB vs fun x13 r_2 =>
nl r_2 (
cond x13 (
ret (.ret [I 0, I 1])) (
bnd (f_attempt_Attempt_note D [.ptr x0, I 2, I x1]) fun r_3 =>
asI .i64 r_3 fun x22 =>
cond (x22 != 0) (
ret (.ret [I 0, I x22])) (
mP x0 fun x28b x28o =>
ldC x28b x28o fun v => asP v fun x30 =>
mP x30 fun x31b x31o =>
ldC x31b (x31o + 2) fun v_1 => asP v_1 fun x33 =>
bnd (f_feed_Feed_Place D [.ptr x33, I x1]) fun r_4 =>
asT r_4 fun x35l => uI .i64 x35l fun x35t0 r_5 =>
uI .i64 r_5 fun x35t1 r_6 =>
nl r_6 (
snp true fun h =>
snp true fun h_1 =>
mP x0 fun x39b x39o =>
snp true fun h_2 =>
snp true fun h_3 =>
ldC x39b x39o fun v_2 => asP v_2 fun x41 =>
snp true fun h_4 =>
mP x41 fun x42b x42o =>
snp true fun h_5 =>
snp true fun h_6 =>
ldC x42b (x42o + 2) fun v_3 => asP v_3 fun x44 =>
snp true fun h_7 =>
snp true fun h_8 =>
snp true fun h_9 =>
mP x0 fun x47b x47o =>
snp true fun h_10 =>
snp true fun h_11 =>
snp true fun h_12 =>
ldC x47b (x47o + 2 + 2) fun v_4 => asP v_4 fun x50 =>
snp true fun h_13 =>
snp true fun h_14 =>
snp true fun h_15 =>
bnd (f_cursor_Cursor_At D [.ptr x50, I x1, I x35t0]) fun r_7 =>
asI .i64 r_7 fun x53 =>
snp true fun h_16 =>
gdP ((h_16.get x39b = h_15.get x39b ∧ h_15.get x39b = h_14.get x39b ∧ h_14.get x39b = h_13.get x39b ∧ h_13.get x39b = h_12.get x39b ∧ h_12.get x39b = h_11.get x39b ∧ h_11.get x39b = h_10.get x39b ∧ h_10.get x39b = h_9.get x39b ∧ h_9.get x39b = h_8.get x39b ∧ h_8.get x39b = h_7.get x39b ∧ h_7.get x39b = h_6.get x39b ∧ h_6.get x39b = h_5.get x39b ∧ h_5.get x39b = h_4.get x39b ∧ h_4.get x39b = h_3.get x39b ∧ h_3.get x39b = h_2.get x39b ∧ h_2.get x39b = h_1.get x39b ∧ h_1.get x39b = h.get x39b ∧ True) ∧ (h_16.get x42b = h_15.get x42b ∧ h_15.get x42b = h_14.get x42b ∧ h_14.get x42b = h_13.get x42b ∧ h_13.get x42b = h_12.get x42b ∧ h_12.get x42b = h_11.get x42b ∧ h_11.get x42b = h_10.get x42b ∧ h_10.get x42b = h_9.get x42b ∧ h_9.get x42b = h_8.get x42b ∧ h_8.get x42b = h_7.get x42b ∧ h_7.get x42b = h_6.get x42b ∧ h_6.get x42b = h_5.get x42b ∧ h_5.get x42b = h_4.get x42b ∧ h_4.get x42b = h_3.get x42b ∧ h_3.get x42b = h_2.get x42b ∧ h_2.get x42b = h_1.get x42b ∧ h_1.get x42b = h.get x42b ∧ True) ∧ True) (
bnd (f_feed_Feed_At D [.ptr x44, I x1, I x53]) fun r_8 =>
asI .i64 r_8 fun x54 =>
cond (decide (x54 < 0)) (
ret (.ret [I 0, I 10])) (
mP x0 fun x58b x58o =>
ldC x58b (x58o + 2 + 2) fun v_5 => asP v_5 fun x61 =>
bnd (f_cursor_Cursor_Step D [.ptr x61, I x1]) fun r_9 =>
asB r_9 fun x63 =>
ret (.ret [I x54, I 0]))))))))))
noncomputable def f_law22_does (D : HV → List HV → M HV) (args : List HV) : M HV :=
fin (
uP args fun x0 r =>
uA r fun x1l r_1 =>
uI .i64 x1l fun x1c0 r_2 =>
uI .i64 r_2 fun x1c1 r_3 =>
uI .i64 r_3 fun x1c2 r_4 =>
uI .u8 r_4 fun x1c3 r_5 =>
nl r_5 (
nl r_1 (
cond (x1c0 == 0) (
bnd (f_attempt_Attempt_Load D [.ptr x0, I x1c1]) fun r_6 =>
asT r_6 fun x11l => uI .i64 x11l fun x11t0 r_7 =>
uI .i64 r_7 fun x11t1 r_8 =>
nl r_8 (
ret (.ret []))) (
cond (x1c0 == 1) (
bnd (f_attempt_Attempt_Store D [.ptr x0, I x1c1, I x1c2]) fun r_9 =>
asI .i64 r_9 fun x19 =>
ret (.ret [])) (
cond (x1c0 == 2) (
bnd (f_attempt_Attempt_Read D [.ptr x0, I x1c1, I x1c2]) fun r_10 =>
asT r_10 fun x27l => uI .i64 x27l fun x27t0 r_11 =>
uI .i64 r_11 fun x27t1 r_12 =>
nl r_12 (
ret (.ret []))) (
cond (x1c0 == 3) (
bnd (f_attempt_Attempt_Write D [.ptr x0, I x1c1, I x1c2, .int .u8 x1c3]) fun r_13 =>
asI .i64 r_13 fun x37 =>
ret (.ret [])) (
cond (x1c0 == 4) (
bnd (f_attempt_Attempt_Create D [.ptr x0, I x1c1]) fun r_14 =>
asI .i64 r_14 fun x43 =>
ret (.ret [])) (
cond (x1c0 == 5) (
bnd (f_attempt_Attempt_Remove D [.ptr x0, I x1c1]) fun r_15 =>
asI .i64 r_15 fun x49 =>
ret (.ret [])) (
cond (x1c0 == 6) (
bnd (f_attempt_Attempt_Rename D [.ptr x0, I x1c1, I x1c2]) fun r_16 =>
asI .i64 r_16 fun x57 =>
ret (.ret [])) (
cond (x1c0 == 7) (
bnd (f_attempt_Attempt_Cut D [.ptr x0, I x1c1, I x1c2]) fun r_17 =>
asI .i64 r_17 fun x65 =>
ret (.ret [])) (
cond (x1c0 == 8) (
bnd (f_attempt_Attempt_Recv D [.ptr x0, I x1c1]) fun r_18 =>
asT r_18 fun x71l => uI .i64 x71l fun x71t0 r_19 =>
uI .i64 r_19 fun x71t1 r_20 =>
nl r_20 (
ret (.ret []))) (
ret (.ret [])))))))))))))
noncomputable def f_acts_Acts_Send (D : HV → List HV → M HV) (args : List HV) : M HV :=
fin (
uP args fun x0 r =>
uI .i64 r fun x1 r_1 =>
uI .u8 r_1 fun x2 r_2 =>
nl r_2 (
jn (
cond (Option.isNone x0) (
ret (.norm [.bool true])) (
cond (decide (x1 < 0)) (
ret (.norm [.bool true])) (
ret (.norm [.bool (decide (x1 ≥ 3))])))) fun vs =>
uB vs fun x16 r_3 =>
nl r_3 (
cond x16 (
ret (.ret [.bool false])) (
mP x0 fun x19b x19o =>
ldC x19b x19o fun v => asSl v fun x21 =>
apd x21 2 16 1 [I x1, .int .u8 x2] fun x26 =>
mP x0 fun x27b x27o =>
stC x27b x27o (.sl x26) (
ret (.ret [.bool true]))))))
noncomputable def f_acts_Acts_Later (D : HV → List HV → M HV) (args : List HV) : M HV :=
fin (
uP args fun x0 r =>
uI .i64 r fun x1 r_1 =>
uI .u8 r_1 fun x2 r_2 =>
nl r_2 (
jn (
cond (Option.isNone x0) (
ret (.norm [.bool true])) (
cond (decide (x1 < 0)) (
ret (.norm [.bool true])) (
ret (.norm [.bool (decide (x1 ≥ 3))])))) fun vs =>
uB vs fun x16 r_3 =>
nl r_3 (
cond x16 (
ret (.ret [.bool false])) (
mP x0 fun x19b x19o =>
ldC x19b (x19o + 1) fun v => asSl v fun x21 =>
apd x21 2 16 1 [I x1, .int .u8 x2] fun x26 =>
mP x0 fun x27b x27o =>
stC x27b (x27o + 1) (.sl x26) (
ret (.ret [.bool true]))))))
noncomputable def f_acts_Acts_Note (D : HV → List HV → M HV) (args : List HV) : M HV :=
fin (
uP args fun x0 r =>
uI .i64 r fun x1 r_1 =>
nl r_1 (
cond (Option.isNone x0) (
ret (.ret [.bool false])) (
mP x0 fun x9b x9o =>
ldC x9b (x9o + 2) fun v => asSl v fun x11 =>
apd x11 1 8 1 [I x1] fun x14 =>
mP x0 fun x15b x15o =>
stC x15b (x15o + 2) (.sl x14) (
ret (.ret [.bool true])))))
noncomputable def f_acts_Acts_Opened (D : HV → List HV → M HV) (args : List HV) : M HV :=
fin (
uP args fun x0 r =>
uI .i64 r fun x1 r_1 =>
uI .i64 r_1 fun x2 r_2 =>
nl r_2 (
jn (
cond (Option.isNone x0) (
ret (.norm [.bool true])) (
cond (decide (x1 < 0)) (
ret (.norm [.bool true])) (
ret (.norm [.bool (decide (x1 ≥ 4))])))) fun vs =>
uB vs fun x16 r_3 =>
nl r_3 (
cond x16 (
ret (.ret [.bool false])) (
mP x0 fun x19b x19o =>
ldC x19b (x19o + 3) fun v => asSl v fun x21 =>
apd x21 2 16 1 [I x1, I x2] fun x26 =>
mP x0 fun x27b x27o =>
stC x27b (x27o + 3) (.sl x26) (
ret (.ret [.bool true]))))))
noncomputable def f_slices_Backward_acts_Open_acts_Open_1 (D : HV → List HV → M HV) (args : List HV) : M HV :=
fin (
uc args fun x0 r =>
uP r fun x1 r_1 =>
nl r_1 (
mP x1 fun x4b x4o =>
ldC x4b x4o fun v => asSl v fun x4 =>
blk 0 (
loopD (fun vs_1 =>
uI .i64 vs_1 fun x3 r_2 =>
nl r_2 (
cond (decide (x3 ≥ 0)) (
mP x1 fun x13b x13o =>
ldC x13b x13o fun v_1 => asSl v_1 fun x13 =>
ix x13 x3 2 fun x15b x15o =>
ldN x15b x15o 2 fun x16l =>
uI .i64 x16l fun x16c0 r_3 =>
uI .i64 r_3 fun x16c1 r_4 =>
nl r_4 (
bnd (D x0 [I x3, .agg [I x16c0, I x16c1]]) fun r_5 =>
asB r_5 fun x17 =>
cond (!x17) (
ret (.ret [])) (
ret (.norm [I (wr (x3 - 1))])))) (
ret (.exit 0 [])))) [I (wr ((x4.len : Int) - 1))]) fun vs =>
nl vs (
ret (.ret []))))
noncomputable def f_slices_Backward_acts_Open_acts_Open (D : HV → List HV → M HV) (args : List HV) : M HV :=
fin (
uL args fun x0 r =>
nl r (
nw [.sl x0] fun b1 =>
ret (.ret [.func n_slices_Backward_acts_Open_acts_Open_1 [] [.ptr (some (b1, 0))]])))
noncomputable def f_acts_undo (D : HV → List HV → M HV) (args : List HV) : M HV :=
fin (
uL args fun x0 r =>
nl r (
nw [.sl (⟨none, 0, 0, none⟩)] fun b3 =>
bnd (f_slices_Backward_acts_Open_acts_Open D [.sl x0]) fun r_1 =>
blk 0 (
ny r_1 (nwL 49475106 [(3, .ptr (some (b3, 0)))] fun l =>
bnd (D r_1 [.yld l]) fun q =>
endL l (
ret (.norm []))
(onX 0 (ret (.exit 0 [])) noX) (
ret (.ret [.sl (⟨none, 0, 0, none⟩)])))) fun vs =>
nl vs (
ldC b3 0 fun v => asSl v fun x19 =>
ret (.ret [.sl x19]))))
noncomputable def r0_acts_undo (D : HV → List HV → M HV) (l : Nat) (vs : List (Nat × HV)) (args : List HV) : M Leaf :=
gdS [3] vs fun vs' =>
uP vs' fun x3 r =>
nl r (
uI .i64 args fun x8 r_1 =>
uA r_1 fun x9l r_2 =>
uI .i64 x9l fun x9c0 r_3 =>
uI .i64 r_3 fun x9c1 r_4 =>
nl r_4 (
nl r_2 (
busyL l (
mP x3 fun x10b x10o =>
ldC x10b x10o fun v => asSl v fun x10 =>
apd x10 2 16 1 [I x9c0, I (wr (0 - x9c1))] fun x18 =>
mP x3 fun qb qo =>
stC qb qo (.sl x18) (
ret (.norm []))))))
noncomputable def f_acts_Acts_Undo (D : HV → List HV → M HV) (args : List HV) : M HV :=
fin (
uP args fun x0 r =>
nl r (
cond (Option.isNone x0) (
ret (.ret [.sl (⟨none, 0, 0, none⟩)])) (
mP x0 fun x6b x6o =>
ldC x6b (x6o + 3) fun v => asSl v fun x8 =>
bnd (f_acts_undo D [.sl x8]) fun r_1 =>
asSl r_1 fun x9 =>
ret (.ret [.sl x9]))))
noncomputable def f_world_World_Add (D : HV → List HV → M HV) (args : List HV) : M HV :=
fin (
uP args fun x0 r =>
uL r fun x1 r_1 =>
nl r_1 (
cond (Option.isNone x0) (
ret (.ret [])) (
blk 0 (
loopD (fun vs_1 =>
uI .i64 vs_1 fun x10 r_2 =>
nl r_2 (
cond (decide (x10 < (x1.len : Int))) (
blk 1 (
ix x1 x10 2 fun x12b x12o =>
ldN x12b x12o 2 fun x13l =>
uI .i64 x13l fun x13c0 r_3 =>
uI .i64 r_3 fun x13c1 r_4 =>
nl r_4 (
jn (
cond (decide (x13c0 ≥ 0)) (
ret (.norm [.bool (decide (x13c0 < 4))])) (
ret (.norm [.bool false]))) fun vs_3 =>
uB vs_3 fun x21 r_5 =>
nl r_5 (
cond x21 (
mP x0 fun x25b x25o =>
gd (decide (0 ≤ x13c0)) (gd (decide (x13c0 < (4 : Int))) (
ldC x25b (x25o + 5 + x13c0.toNat * 1) fun v => asI .i64 v fun x28 =>
mP x0 fun x32b x32o =>
gd (decide (0 ≤ x13c0)) (gd (decide (x13c0 < (4 : Int))) (
stC x32b (x32o + 5 + x13c0.toNat * 1) (I (wr (x28 + x13c1))) (
ret (.norm []))))))) (
ret (.norm []))))) fun vs_2 =>
nl vs_2 (
ret (.norm [I (wr (x10 + 1))]))) (
ret (.exit 0 [])))) [I 0]) fun vs =>
nl vs (
ret (.ret [])))))
noncomputable def f_law22_begun (D : HV → List HV → M HV) (args : List HV) : M HV :=
fin (
uP args fun x0 r =>
uL r fun x1 r_1 =>
nl r_1 (
blk 0 (
loopD (fun vs_1 =>
uL vs_1 fun x5 r_2 =>
uI .i64 r_2 fun x15 r_3 =>
nl r_3 (
cond (decide (x15 < (x1.len : Int))) (
ix x1 x15 7 fun x17b x17o =>
ldN x17b x17o 7 fun x18l =>
uL x18l fun x18c0 r_4 =>
uI .i64 r_4 fun x18c1 r_5 =>
uI .u8 r_5 fun x18c2 r_6 =>
uI .u8 r_6 fun x18c3 r_7 =>
uI .i64 r_7 fun x18c4 r_8 =>
uI .i64 r_8 fun x18c5 r_9 =>
uI .i64 r_9 fun x18c6 r_10 =>
nl r_10 (
bnd (f_world_World_View D [.ptr x0]) fun r_11 =>
asP r_11 fun x20 =>
bnd (f_attempt_New D [.ptr x20, .agg [I 0, I 0, I 0, I 0]]) fun r_12 =>
asP r_12 fun x22 =>
blk 2 (
loopD (fun vs_3 =>
uI .i64 vs_3 fun x26 r_13 =>
nl r_13 (
cond (decide (x26 < (x18c0.len : Int))) (
ix x18c0 x26 4 fun x28b x28o =>
ldN x28b x28o 4 fun x29l =>
uI .i64 x29l fun x29c0 r_14 =>
uI .i64 r_14 fun x29c1 r_15 =>
uI .i64 r_15 fun x29c2 r_16 =>
uI .u8 r_16 fun x29c3 r_17 =>
nl r_17 (
bnd (f_law22_does D [.ptr x22, .agg [I x29c0, I x29c1, I x29c2, .int .u8 x29c3]]) fun r_18 =>
asT r_18 fun x32l => nl x32l (
ret (.norm [I (wr (x26 + 1))])))) (
ret (.exit 2 [])))) [I 0]) fun vs_2 =>
nl vs_2 (
bnd (f_attempt_Attempt_Acts D [.ptr x22]) fun r_19 =>
asP r_19 fun x35 =>
bnd (f_acts_Acts_Send D [.ptr x35, I x18c1, .int .u8 x18c2]) fun r_20 =>
asB r_20 fun x40 =>
bnd (f_attempt_Attempt_Acts D [.ptr x22]) fun r_21 =>
asP r_21 fun x42 =>
bnd (f_acts_Acts_Later D [.ptr x42, I x18c1, .int .u8 x18c3]) fun r_22 =>
asB r_22 fun x47 =>
bnd (f_attempt_Attempt_Acts D [.ptr x22]) fun r_23 =>
asP r_23 fun x49 =>
bnd (f_acts_Acts_Note D [.ptr x49, I x18c4]) fun r_24 =>
asB r_24 fun x52 =>
bnd (f_attempt_Attempt_Acts D [.ptr x22]) fun r_25 =>
asP r_25 fun x54 =>
bnd (f_acts_Acts_Opened D [.ptr x54, I x18c5, I x18c6]) fun r_26 =>
asB r_26 fun x59 =>
jn (
cond x59 (
bnd (f_attempt_Attempt_Acts D [.ptr x22]) fun r_27 =>
asP r_27 fun x61 =>
bnd (f_acts_Acts_Undo D [.ptr x61]) fun r_28 =>
asSl r_28 fun x62 =>
blk 4 (
loopD (fun vs_6 =>
uI .i64 vs_6 fun x64 r_29 =>
nl r_29 (
cond (decide (x64 < (x62.len : Int))) (
ix x62 x64 2 fun x66b x66o =>
ldN x66b x66o 2 fun x67l =>
uI .i64 x67l fun x67c0 r_30 =>
uI .i64 r_30 fun x67c1 r_31 =>
nl r_31 (
nw [I x67c0, I (wr (0 - x67c1))] fun b74 =>
bnd (f_world_World_Add D [.ptr x0, .sl (⟨some (b74, 0), 1, 1, none⟩)]) fun r_32 =>
asT r_32 fun x75l => nl x75l (
ret (.norm [I (wr (x64 + 1))])))) (
ret (.exit 4 [])))) [I 0]) fun vs_5 =>
nl vs_5 (
ret (.norm []))) (
ret (.norm []))) fun vs_4 =>
nl vs_4 (
apd x5 1 8 1 [.ptr x22] fun x80 =>
ret (.norm [.sl x80, I (wr (x15 + 1))]))))) (
ret (.exit 0 [.sl x5])))) [.sl (⟨none, 0, 0, none⟩), I 0]) fun vs =>
uL vs fun x5_1 r_33 =>
nl r_33 (
ret (.ret [.sl x5_1]))))
noncomputable def f_law22_things (D : HV → List HV → M HV) (args : List HV) : M HV :=
fin (
uP args fun x0 r =>
nl r (
blk 0 (
loopD (fun vs_1 =>
uI .i64 vs_1 fun x9 r_1 =>
uA r_1 fun y3 r_2 =>
nl r_2 (
cond (decide (x9 < 8)) (
bnd (f_world_World_View D [.ptr x0]) fun r_3 =>
asP r_3 fun x15 =>
mP x15 fun x16b x16o =>
ldC x16b x16o fun v => asP v fun x18 =>
bnd (f_cell_Row_int_Get D [.ptr x18, I x9]) fun r_4 =>
asT r_4 fun x20l => uI .i64 x20l fun x20t0 r_5 =>
uI .i64 r_5 fun x20t1 r_6 =>
nl r_6 (
gd (decide (0 ≤ x9)) (gd (decide (x9 < (8 : Int))) (
gd (decide (0 + x9.toNat * 1 < y3.length)) (
ret (.norm [I (wr (x9 + 1)), .agg (List.set y3 (0 + x9.toNat * 1) (I x20t0))])))))) (
ret (.exit 0 [.agg y3])))) [I 0, .agg [I 0, I 0, I 0, I 0, I 0, I 0, I 0, I 0, .bool false, .str (ByteArray.mk #[]), .bool false, .str (ByteArray.mk #[]), .bool false, .str (ByteArray.mk #[]), .bool false, .str (ByteArray.mk #[]), .bool false, .str (ByteArray.mk #[]), .bool false, .str (ByteArray.mk #[]), I 0, I 0, I 0]]) fun vs =>
uA vs fun y3_1 r_7 =>
nl r_7 (
blk 2 (
loopD (fun vs_3 =>
uI .i64 vs_3 fun x26 r_8 =>
uA r_8 fun y3_2 r_9 =>
nl r_9 (
cond (decide (x26 < 6)) (
bnd (f_world_World_View D [.ptr x0]) fun r_10 =>
asP r_10 fun x31 =>
mP x31 fun x32b x32o =>
ldC x32b (x32o + 1) fun v_1 => asP v_1 fun x34 =>
bnd (f_tome_Tome_Get D [.ptr x34, I x26]) fun r_11 =>
asT r_11 fun x36l => uA x36l fun x36t0l r_12 =>
uB x36t0l fun x36t0c0 r_13 =>
uS r_13 fun x36t0c1 r_14 =>
nl r_14 (
uI .i64 r_12 fun x36t1 r_15 =>
nl r_15 (
gd (decide (0 ≤ x26)) (gd (decide (x26 < (6 : Int))) (
gd (Nat.ble (8 + x26.toNat * 2 + (([.bool x36t0c0, .str x36t0c1]) : List HV).length) y3_2.length) (
ret (.norm [I (wr (x26 + 1)), .agg (putN y3_2 (8 + x26.toNat * 2) [.bool x36t0c0, .str x36t0c1])]))))))) (
ret (.exit 2 [.agg y3_2])))) [I 0, .agg y3_1]) fun vs_2 =>
uA vs_2 fun y3_3 r_16 =>
nl r_16 (
blk 4 (
loopD (fun vs_5 =>
uI .i64 vs_5 fun x44 r_17 =>
uA r_17 fun y3_4 r_18 =>
nl r_18 (
cond (decide (x44 < 3)) (
bnd (f_world_World_View D [.ptr x0]) fun r_19 =>
asP r_19 fun x50 =>
mP x50 fun x51b x51o =>
ldC x51b (x51o + 2) fun v_2 => asP v_2 fun x53 =>
bnd (f_feed_Feed_Place D [.ptr x53, I x44]) fun r_20 =>
asT r_20 fun x55l => uI .i64 x55l fun x55t0 r_21 =>
uI .i64 r_21 fun x55t1 r_22 =>
nl r_22 (
gd (decide (0 ≤ x44)) (gd (decide (x44 < (3 : Int))) (
gd (decide (20 + x44.toNat * 1 < y3_4.length)) (
ret (.norm [I (wr (x44 + 1)), .agg (List.set y3_4 (20 + x44.toNat * 1) (I x55t0))])))))) (
ret (.exit 4 [.agg y3_4])))) [I 0, .agg y3_3]) fun vs_4 =>
uA vs_4 fun y3_5 r_23 =>
nl r_23 (
gxN y3_5 0 23 fun x61l =>
gd (Nat.beq x61l.length 23) (
gd (Nat.ble (0 + x61l.length) (([I 0, I 0, I 0, I 0, I 0, I 0, I 0, I 0, .bool false, .str (ByteArray.mk #[]), .bool false, .str (ByteArray.mk #[]), .bool false, .str (ByteArray.mk #[]), .bool false, .str (ByteArray.mk #[]), .bool false, .str (ByteArray.mk #[]), .bool false, .str (ByteArray.mk #[]), I 0, I 0, I 0]) : List HV).length) (
gxN (putN [I 0, I 0, I 0, I 0, I 0, I 0, I 0, I 0, .bool false, .str (ByteArray.mk #[]), .bool false, .str (ByteArray.mk #[]), .bool false, .str (ByteArray.mk #[]), .bool false, .str (ByteArray.mk #[]), .bool false, .str (ByteArray.mk #[]), .bool false, .str (ByteArray.mk #[]), I 0, I 0, I 0] 0 x61l) 0 23 fun z0l =>
ret (.ret [.agg z0l]))))))))
noncomputable def f_ref20_Good (D : HV → List HV → M HV) (args : List HV) : M HV :=
fin (
uA args fun x0l r =>
uI .i64 x0l fun x0c0 r_1 =>
uI .i64 r_1 fun x0c1 r_2 =>
uI .i64 r_2 fun x0c2 r_3 =>
uI .u8 r_3 fun x0c3 r_4 =>
nl r_4 (
nl r (
jn (
cond (decide (x0c0 < 0)) (
ret (.norm [.bool true])) (
cond (decide (x0c0 > 8)) (
ret (.norm [.bool true])) (
cond (decide (x0c1 < 0)) (
ret (.norm [.bool true])) (
gd (decide (0 ≤ x0c0)) (gd (decide (x0c0 < (9 : Int))) (
gx [I 7, I 7, I 5, I 5, I 5, I 5, I 5, I 5, I 2] (0 + x0c0.toNat * 1) fun v => asI .i64 v fun x24 =>
ret (.norm [.bool (decide (x0c1 > x24))]))))))) fun vs =>
uB vs fun x26 r_5 =>
nl r_5 (
cond x26 (
ret (.ret [.bool false])) (
jn (
cond (x0c0 != 6) (
ret (.norm [.bool true])) (
cond (decide (x0c2 ≥ 0)) (
ret (.norm [.bool (decide (x0c2 ≤ 5))])) (
ret (.norm [.bool false])))) fun vs_1 =>
uB vs_1 fun x2 r_6 =>
nl r_6 (
ret (.ret [.bool x2])))))))
noncomputable def f_ref09_At (D : HV → List HV → M HV) (args : List HV) : M HV :=
fin (
uA args fun x0l r =>
uB x0l fun x0c0 r_1 =>
uS r_1 fun x0c1 r_2 =>
nl r_2 (
uI .i64 r fun x1 r_3 =>
nl r_3 (
blk 0 (
loopD (fun vs_1 =>
uI .i64 vs_1 fun x5 r_4 =>
nl r_4 (
cond (decide (x5 < (x0c1.size : Int))) (
cond (x5 == x1) (
gd (decide (0 ≤ x5)) (gd (decide (x5 < (x0c1.size : Int))) (
ret (.ret [I (wr ((x0c1.data[x5.toNat]?.getD 0).toNat : Int))])))) (
ret (.norm [I (wr (x5 + 1))]))) (
ret (.exit 0 [])))) [I 0]) fun vs =>
nl vs (
ret (.ret [I (-1)])))))
noncomputable def f_ref14_Is (D : HV → List HV → M HV) (args : List HV) : M HV :=
fin (
uI .i64 args fun x0 r =>
nl r (
jn (
cond (decide (x0 ≥ 0)) (
ret (.norm [.bool (decide (x0 ≤ 5))])) (
ret (.norm [.bool false]))) fun vs =>
uB vs fun x2 r_1 =>
nl r_1 (
ret (.ret [.bool x2]))))
noncomputable def f_ref14_Sheet_put (D : HV → List HV → M HV) (args : List HV) : M HV :=
fin (
uP args fun x0 r =>
uI .i64 r fun x1 r_1 =>
uA r_1 fun x2l r_2 =>
uB x2l fun x2c0 r_3 =>
uS r_3 fun x2c1 r_4 =>
nl r_4 (
nl r_2 (
mP x0 fun x8b x8o =>
gd (decide (0 ≤ x1)) (gd (decide (x1 < (6 : Int))) (
ldN x8b (x8o + 12 + x1.toNat * 2) 2 fun x11l =>
uB x11l fun x11c0 r_5 =>
uS r_5 fun x11c1 r_6 =>
nl r_6 (
cond (!(cond (x11c0 == x2c0) (cond (x11c1.toList == x2c1.toList) true false) false)) (
mP x0 fun x17b x17o =>
gd (decide (0 ≤ x1)) (gd (decide (x1 < (6 : Int))) (
stN x17b (x17o + 12 + x1.toNat * 2) [.bool x2c0, .str x2c1] (
mP x0 fun x22b x22o =>
gd (decide (0 ≤ x1)) (gd (decide (x1 < (6 : Int))) (
stC x22b (x22o + 24 + x1.toNat * 1) (.bool true) (
ret (.ret [])))))))) (
ret (.ret []))))))))
noncomputable def f_ref09_Put (D : HV → List HV → M HV) (args : List HV) : M HV :=
fin (
uA args fun x0l r =>
uB x0l fun x0c0 r_1 =>
uS r_1 fun x0c1 r_2 =>
nl r_2 (
uI .i64 r fun x1 r_3 =>
uI .u8 r_3 fun x2 r_4 =>
nl r_4 (
jn (
cond (decide (x1 < 0)) (
ret (.norm [.bool true])) (
ret (.norm [.bool (decide (x1 > 31))]))) fun vs =>
uB vs fun x15 r_5 =>
nl r_5 (
cond x15 (
ret (.ret [.agg [.bool x0c0, .str x0c1]])) (
blk 0 (
loopD (fun vs_2 =>
uS vs_2 fun x7 r_6 =>
uI .i64 r_6 fun x8 r_7 =>
nl r_7 (
jn (
cond (decide (x8 < (x0c1.size : Int))) (
ret (.norm [.bool true])) (
ret (.norm [.bool (decide (x8 ≤ x1))]))) fun vs_3 =>
uB vs_3 fun x26 r_8 =>
nl r_8 (
cond x26 (
bnd (f_ref09_At D [.agg [.bool x0c0, .str x0c1], I x8]) fun r_9 =>
asI .i64 r_9 fun x31 =>
jn (
cond (x8 == x1) (
ret (.norm [I (wr x2)])) (
ret (.norm [I (bif decide (0 > x31) then 0 else x31)]))) fun vs_4 =>
uI .i64 vs_4 fun x9 r_10 =>
nl r_10 (
gd (decide (x7.size + (strB [IntKind.wrap .u8 x9]).size ≤ 9223372036854775807)) (
ret (.norm [.str (x7 ++ (strB [IntKind.wrap .u8 x9])), I (wr (x8 + 1))])))) (
ret (.exit 0 [.str x7]))))) [.str (ByteArray.mk #[]), I 0]) fun vs_1 =>
uS vs_1 fun x7_1 r_11 =>
nl r_11 (
ret (.ret [.agg [.bool true, .str x7_1]])))))))
noncomputable def f_ref14_Sheet_Write (D : HV → List HV → M HV) (args : List HV) : M HV :=
fin (
uP args fun x0 r =>
uI .i64 r fun x1 r_1 =>
uI .i64 r_1 fun x2 r_2 =>
uI .u8 r_2 fun x3 r_3 =>
nl r_3 (
bnd (f_ref14_Is D [I x1]) fun r_4 =>
asB r_4 fun x10 =>
jn (
cond x10 (
mP x0 fun x15b x15o =>
gd (decide (0 ≤ x1)) (gd (decide (x1 < (6 : Int))) (
ldN x15b (x15o + 12 + x1.toNat * 2) 2 fun x18l =>
uB x18l fun x18c0 r_5 =>
uS r_5 fun x18c1 r_6 =>
nl r_6 (
bnd (f_ref09_Put D [.agg [.bool x18c0, .str x18c1], I x2, .int .u8 x3]) fun r_7 =>
asA r_7 fun x21l => uB x21l fun x21c0 r_8 =>
uS r_8 fun x21c1 r_9 =>
nl r_9 (
bnd (f_ref14_Sheet_put D [.ptr x0, I x1, .agg [.bool x21c0, .str x21c1]]) fun r_10 =>
asT r_10 fun x22l => nl x22l (
ret (.norm []))))))) (
ret (.norm []))) fun vs =>
nl vs (
bnd (f_ref14_Is D [I x1]) fun r_11 =>
asB r_11 fun x24 =>
ret (.ret [.bool x24]))))
noncomputable def f_ref14_Sheet_Create (D : HV → List HV → M HV) (args : List HV) : M HV :=
fin (
uP args fun x0 r =>
uI .i64 r fun x1 r_1 =>
nl r_1 (
bnd (f_ref14_Is D [I x1]) fun r_2 =>
asB r_2 fun x6 =>
jn (
cond x6 (
mP x0 fun x11b x11o =>
gd (decide (0 ≤ x1)) (gd (decide (x1 < (6 : Int))) (
ldC x11b (x11o + 12 + x1.toNat * 2 + 1) fun v => asS v fun x15 =>
bnd (f_ref14_Sheet_put D [.ptr x0, I x1, .agg [.bool true, .str x15]]) fun r_3 =>
asT r_3 fun x17l => nl x17l (
ret (.norm []))))) (
ret (.norm []))) fun vs =>
nl vs (
bnd (f_ref14_Is D [I x1]) fun r_4 =>
asB r_4 fun x19 =>
ret (.ret [.bool x19]))))
noncomputable def f_ref14_Sheet_Remove (D : HV → List HV → M HV) (args : List HV) : M HV :=
fin (
uP args fun x0 r =>
uI .i64 r fun x1 r_1 =>
nl r_1 (
bnd (f_ref14_Is D [I x1]) fun r_2 =>
asB r_2 fun x6 =>
jn (
cond x6 (
bnd (f_ref14_Sheet_put D [.ptr x0, I x1, .agg [.bool false, .str (ByteArray.mk #[])]]) fun r_3 =>
asT r_3 fun x10l => nl x10l (
ret (.norm []))) (
ret (.norm []))) fun vs =>
nl vs (
bnd (f_ref14_Is D [I x1]) fun r_4 =>
asB r_4 fun x12 =>
ret (.ret [.bool x12]))))
noncomputable def f_ref14_Sheet_Rename (D : HV → List HV → M HV) (args : List HV) : M HV :=
fin (
uP args fun x0 r =>
uI .i64 r fun x1 r_1 =>
uI .i64 r_1 fun x2 r_2 =>
nl r_2 (
jn (
bnd (f_ref14_Is D [I x1]) fun r_3 =>
asB r_3 fun x8 =>
cond (!x8) (
ret (.norm [.bool true])) (
bnd (f_ref14_Is D [I x2]) fun r_4 =>
asB r_4 fun x12 =>
ret (.norm [.bool (!x12)]))) fun vs =>
uB vs fun x14 r_5 =>
nl r_5 (
cond x14 (
ret (.ret [.bool false])) (
jn (
mP x0 fun x17b x17o =>
gd (decide (0 ≤ x1)) (gd (decide (x1 < (6 : Int))) (
ldC x17b (x17o + 12 + x1.toNat * 2) fun v => asB v fun x21 =>
cond x21 (
ret (.norm [.bool (x1 != x2)])) (
ret (.norm [.bool false]))))) fun vs_1 =>
uB vs_1 fun x26 r_6 =>
nl r_6 (
jn (
cond x26 (
mP x0 fun x31b x31o =>
gd (decide (0 ≤ x1)) (gd (decide (x1 < (6 : Int))) (
ldN x31b (x31o + 12 + x1.toNat * 2) 2 fun x34l =>
uB x34l fun x34c0 r_7 =>
uS r_7 fun x34c1 r_8 =>
nl r_8 (
bnd (f_ref14_Sheet_put D [.ptr x0, I x2, .agg [.bool x34c0, .str x34c1]]) fun r_9 =>
asT r_9 fun x35l => nl x35l (
bnd (f_ref14_Sheet_put D [.ptr x0, I x1, .agg [.bool false, .str (ByteArray.mk #[])]]) fun r_10 =>
asT r_10 fun x39l => nl x39l (
ret (.norm []))))))) (
ret (.norm []))) fun vs_2 =>
nl vs_2 (
ret (.ret [.bool true])))))))
noncomputable def f_ref09_Cut (D : HV → List HV → M HV) (args : List HV) : M HV :=
fin (
uA args fun x0l r =>
uB x0l fun x0c0 r_1 =>
uS r_1 fun x0c1 r_2 =>
nl r_2 (
uI .i64 r fun x1 r_3 =>
nl r_3 (
jn (
cond (!x0c0) (
ret (.norm [.bool true])) (
cond (decide (x1 < 0)) (
ret (.norm [.bool true])) (
ret (.norm [.bool (decide (x1 > 32))])))) fun vs =>
uB vs fun x17 r_4 =>
nl r_4 (
cond x17 (
ret (.ret [.agg [.bool x0c0, .str x0c1]])) (
blk 0 (
loopD (fun vs_2 =>
uS vs_2 fun x5 r_5 =>
uI .i64 r_5 fun x6 r_6 =>
nl r_6 (
cond (decide (x6 < x1)) (
bnd (f_ref09_At D [.agg [.bool x0c0, .str x0c1], I x6]) fun r_7 =>
asI .i64 r_7 fun x27 =>
gd (decide (x5.size + (strB [IntKind.wrap .u8 (bif decide (0 > x27) then 0 else x27)]).size ≤ 9223372036854775807)) (
ret (.norm [.str (x5 ++ (strB [IntKind.wrap .u8 (bif decide (0 > x27) then 0 else x27)])), I (wr (x6 + 1))]))) (
ret (.exit 0 [.str x5])))) [.str (ByteArray.mk #[]), I 0]) fun vs_1 =>
uS vs_1 fun x5_1 r_8 =>
nl r_8 (
ret (.ret [.agg [.bool true, .str x5_1]])))))))
noncomputable def f_ref14_Sheet_Cut (D : HV → List HV → M HV) (args : List HV) : M HV :=
fin (
uP args fun x0 r =>
uI .i64 r fun x1 r_1 =>
uI .i64 r_1 fun x2 r_2 =>
nl r_2 (
bnd (f_ref14_Is D [I x1]) fun r_3 =>
asB r_3 fun x8 =>
jn (
cond x8 (
mP x0 fun x13b x13o =>
gd (decide (0 ≤ x1)) (gd (decide (x1 < (6 : Int))) (
ldN x13b (x13o + 12 + x1.toNat * 2) 2 fun x16l =>
uB x16l fun x16c0 r_4 =>
uS r_4 fun x16c1 r_5 =>
nl r_5 (
bnd (f_ref09_Cut D [.agg [.bool x16c0, .str x16c1], I x2]) fun r_6 =>
asA r_6 fun x18l => uB x18l fun x18c0 r_7 =>
uS r_7 fun x18c1 r_8 =>
nl r_8 (
bnd (f_ref14_Sheet_put D [.ptr x0, I x1, .agg [.bool x18c0, .str x18c1]]) fun r_9 =>
asT r_9 fun x19l => nl x19l (
ret (.norm []))))))) (
ret (.norm []))) fun vs =>
nl vs (
bnd (f_ref14_Is D [I x1]) fun r_10 =>
asB r_10 fun x21 =>
ret (.ret [.bool x21]))))
noncomputable def f_ref20_Do (D : HV → List HV → M HV) (args : List HV) : M HV :=
fin (
uA args fun x0l r =>
uA r fun x1l r_1 =>
uS x1l fun x1c0 r_2 =>
uS r_2 fun x1c1 r_3 =>
uS r_3 fun x1c2 r_4 =>
nl r_4 (
uL r_1 fun x2 r_5 =>
nl r_5 (
gxN x0l 8 12 fun x13l =>
gxN x0l 8 12 fun x15l =>
gd (Nat.beq x13l.length 12) (gd (Nat.beq x15l.length 12) (nw (putN (putN [.bool false, .str (ByteArray.mk #[]), .bool false, .str (ByteArray.mk #[]), .bool false, .str (ByteArray.mk #[]), .bool false, .str (ByteArray.mk #[]), .bool false, .str (ByteArray.mk #[]), .bool false, .str (ByteArray.mk #[]), .bool false, .str (ByteArray.mk #[]), .bool false, .str (ByteArray.mk #[]), .bool false, .str (ByteArray.mk #[]), .bool false, .str (ByteArray.mk #[]), .bool false, .str (ByteArray.mk #[]), .bool false, .str (ByteArray.mk #[]), .bool false, .bool false, .bool false, .bool false, .bool false, .bool false] 0 x13l) 12 x15l) fun b17 =>
blk 0 (
loopD (fun vs_1 =>
uI .i64 vs_1 fun x9 r_6 =>
uI .i64 r_6 fun x20 r_7 =>
uA r_7 fun y3 r_8 =>
nl r_8 (
cond (decide (x20 < (x2.len : Int))) (
blk 1 (
ix x2 x20 4 fun x22b x22o =>
ldN x22b x22o 4 fun x23l =>
uI .i64 x23l fun x23c0 r_9 =>
uI .i64 r_9 fun x23c1 r_10 =>
uI .i64 r_10 fun x23c2 r_11 =>
uI .u8 r_11 fun x23c3 r_12 =>
nl r_12 (
cond (x23c0 == 0) (
gd (decide (0 ≤ x23c1)) (gd (decide (x23c1 < (8 : Int))) (
gx y3 (0 + x23c1.toNat * 1) fun v => asI .i64 v fun x32 =>
ret (.norm [I x32, .agg y3])))) (
cond (x23c0 == 1) (
gd (decide (0 ≤ x23c1)) (gd (decide (x23c1 < (8 : Int))) (
gd (decide (0 + x23c1.toNat * 1 < y3.length)) (
ret (.norm [I 0, .agg (List.set y3 (0 + x23c1.toNat * 1) (I x23c2))]))))) (
cond (x23c0 == 2) (
gd (decide (0 ≤ x23c1)) (gd (decide (x23c1 < (6 : Int))) (
ldN b17 (12 + x23c1.toNat * 2) 2 fun x49l =>
uB x49l fun x49c0 r_13 =>
uS r_13 fun x49c1 r_14 =>
nl r_14 (
bnd (f_ref09_At D [.agg [.bool x49c0, .str x49c1], I x23c2]) fun r_15 =>
asI .i64 r_15 fun x52 =>
ret (.norm [I x52, .agg y3]))))) (
cond (x23c0 == 3) (
bnd (f_ref14_Sheet_Write D [.ptr (some (b17, 0)), I x23c1, I x23c2, .int .u8 x23c3]) fun r_16 =>
asB r_16 fun x62 =>
ret (.norm [I 0, .agg y3])) (
cond (x23c0 == 4) (
bnd (f_ref14_Sheet_Create D [.ptr (some (b17, 0)), I x23c1]) fun r_17 =>
asB r_17 fun x68 =>
ret (.norm [I 0, .agg y3])) (
cond (x23c0 == 5) (
bnd (f_ref14_Sheet_Remove D [.ptr (some (b17, 0)), I x23c1]) fun r_18 =>
asB r_18 fun x74 =>
ret (.norm [I 0, .agg y3])) (
cond (x23c0 == 6) (
bnd (f_ref14_Sheet_Rename D [.ptr (some (b17, 0)), I x23c1, I x23c2]) fun r_19 =>
asB r_19 fun x82 =>
ret (.norm [I 0, .agg y3])) (
cond (x23c0 == 7) (
bnd (f_ref14_Sheet_Cut D [.ptr (some (b17, 0)), I x23c1, I x23c2]) fun r_20 =>
asB r_20 fun x90 =>
ret (.norm [I 0, .agg y3])) (
cond (x23c0 == 8) (
gd (decide (0 ≤ x23c1)) (gd (decide (x23c1 < (3 : Int))) (
gx y3 (20 + x23c1.toNat * 1) fun v_1 => asI .i64 v_1 fun x97 =>
gd (decide (0 ≤ x23c1)) (gd (decide (x23c1 < (3 : Int))) (
gx [.str x1c0, .str x1c1, .str x1c2] (0 + x23c1.toNat * 1) fun v_2 => asS v_2 fun x101 =>
cond (decide (x97 < (x101.size : Int))) (
gd (decide (0 ≤ x23c1)) (gd (decide (x23c1 < (3 : Int))) (
gx [.str x1c0, .str x1c1, .str x1c2] (0 + x23c1.toNat * 1) fun v_3 => asS v_3 fun x107 =>
gd (decide (0 ≤ x23c1)) (gd (decide (x23c1 < (3 : Int))) (
gx y3 (20 + x23c1.toNat * 1) fun v_4 => asI .i64 v_4 fun x112 =>
gd (decide (0 ≤ x112)) (gd (decide (x112 < (x107.size : Int))) (
gd (decide (0 ≤ x23c1)) (gd (decide (x23c1 < (3 : Int))) (
gx y3 (20 + x23c1.toNat * 1) fun v_5 => asI .i64 v_5 fun x119 =>
gd (decide (0 ≤ x23c1)) (gd (decide (x23c1 < (3 : Int))) (
gd (decide (20 + x23c1.toNat * 1 < y3.length)) (
ret (.norm [I (wr ((x107.data[x112.toNat]?.getD 0).toNat : Int)), .agg (List.set y3 (20 + x23c1.toNat * 1) (I (wr (x119 + 1))))]))))))))))))) (
ret (.norm [I (-1), .agg y3]))))))) (
ret (.norm [I 0, .agg y3])))))))))))) fun vs_2 =>
uI .i64 vs_2 fun x9_1 r_21 =>
uA r_21 fun y3_1 r_22 =>
nl r_22 (
ret (.norm [I x9_1, I (wr (x20 + 1)), .agg y3_1]))) (
ret (.exit 0 [I x9, .agg y3])))) [I 0, I 0, .agg x0l]) fun vs =>
uI .i64 vs fun x9_2 r_23 =>
uA r_23 fun y3_2 r_24 =>
nl r_24 (
ldN b17 12 12 fun x127l =>
gd (Nat.beq x127l.length 12) (
gd (Nat.ble (8 + x127l.length) y3_2.length) (
gxN (putN y3_2 8 x127l) 0 23 fun x130l =>
gd (Nat.beq x130l.length 23) (
gd (Nat.ble (0 + x130l.length) (([I 0, I 0, I 0, I 0, I 0, I 0, I 0, I 0, .bool false, .str (ByteArray.mk #[]), .bool false, .str (ByteArray.mk #[]), .bool false, .str (ByteArray.mk #[]), .bool false, .str (ByteArray.mk #[]), .bool false, .str (ByteArray.mk #[]), .bool false, .str (ByteArray.mk #[]), I 0, I 0, I 0]) : List HV).length) (
gxN (putN [I 0, I 0, I 0, I 0, I 0, I 0, I 0, I 0, .bool false, .str (ByteArray.mk #[]), .bool false, .str (ByteArray.mk #[]), .bool false, .str (ByteArray.mk #[]), .bool false, .str (ByteArray.mk #[]), .bool false, .str (ByteArray.mk #[]), .bool false, .str (ByteArray.mk #[]), I 0, I 0, I 0] 0 x130l) 0 23 fun z1l =>
ret (.ret [I x9_2, .agg z1l])))))))))))
noncomputable def f_world_World_Wire (D : HV → List HV → M HV) (args : List HV) : M HV :=
fin (
uP args fun x0 r =>
nl r (
cond (Option.isNone x0) (
ret (.ret [.ptr none])) (
mP x0 fun x6b x6o =>
ldC x6b (x6o + 1) fun v => asP v fun x8 =>
ret (.ret [.ptr x8]))))
noncomputable def f_wire_Wire_All (D : HV → List HV → M HV) (args : List HV) : M HV :=
fin (
uP args fun x0 r =>
uI .i64 r fun x1 r_1 =>
nl r_1 (
bnd (f_wire_Wire_at D [.ptr x0, I x1]) fun r_2 =>
asP r_2 fun x8 =>
cond (Option.isNone x8) (
ret (.ret [.str (ByteArray.mk #[])])) (
mP x8 fun x12b x12o =>
ldC x12b (x12o + 2) fun v => asS v fun x14 =>
mP x8 fun x16b x16o =>
ldC x16b (x16o + 1) fun v_1 => asS v_1 fun x18 =>
gd (decide (x14.size + x18.size ≤ 9223372036854775807)) (
mP x8 fun x21b x21o =>
ldC x21b x21o fun v_2 => asS v_2 fun x23 =>
gd (decide ((x14 ++ x18).size + x23.size ≤ 9223372036854775807)) (
ret (.ret [.str ((x14 ++ x18) ++ x23)]))))))
noncomputable def f_law22_CommitLands (D : HV → List HV → M HV) (args : List HV) : M HV :=
fin (
uL args fun x0 r =>
uL r fun x1 r_1 =>
nl r_1 (
bnd (f_law22_alive D []) fun r_2 =>
asB r_2 fun x24 =>
cond (!x24) (
ret (.ret [.bool false])) (
jn (
bnd (f_law22_great D [.sl x0]) fun r_3 =>
asB r_3 fun x27 =>
cond x27 (
ret (.norm [.bool true])) (
cond (decide ((x1.len : Int) > 60)) (
ret (.norm [.bool true])) (
ret (.norm [.bool ((x0.len : Int) == 0)])))) fun vs =>
uB vs fun x37 r_4 =>
nl r_4 (
cond x37 (
ret (.ret [.bool true])) (
bnd (f_disk_New D []) fun r_5 =>
asP r_5 fun x39 =>
bnd (f_world_Open D [.ptr x39]) fun r_6 =>
asT r_6 fun x40l => uP x40l fun x40t0 r_7 =>
uI .i64 r_7 fun x40t1 r_8 =>
nl r_8 (
bnd (f_law22_begun D [.ptr x40t0, .sl x0]) fun r_9 =>
asSl r_9 fun x45 =>
blk 0 (
loopD (fun vs_2 =>
uL vs_2 fun x8 r_10 =>
uI .i64 r_10 fun x48 r_11 =>
nl r_11 (
cond (decide (x48 < (x45.len : Int))) (
ix x45 x48 1 fun x51b x51o =>
ldC x51b x51o fun v => asP v fun x52 =>
bnd (f_commit_New D [I x48, .ptr x52]) fun r_12 =>
asP r_12 fun x56 =>
apd x8 1 8 1 [.ptr x56] fun x58 =>
ret (.norm [.sl x58, I (wr (x48 + 1))])) (
ret (.exit 0 [.sl x8])))) [.sl (⟨none, 0, 0, none⟩), I 0]) fun vs_1 =>
uL vs_1 fun x8_1 r_13 =>
nl r_13 (
bnd (f_law22_things D [.ptr x40t0]) fun r_14 =>
asA r_14 fun x61l =>
gd (Nat.beq x61l.length 23) (
gd (Nat.ble (0 + x61l.length) (([I 0, I 0, I 0, I 0, I 0, I 0, I 0, I 0, .bool false, .str (ByteArray.mk #[]), .bool false, .str (ByteArray.mk #[]), .bool false, .str (ByteArray.mk #[]), .bool false, .str (ByteArray.mk #[]), .bool false, .str (ByteArray.mk #[]), .bool false, .str (ByteArray.mk #[]), I 0, I 0, I 0]) : List HV).length) (
blk 2 (
loopD (fun vs_4 =>
uI .i64 vs_4 fun x13 r_15 =>
uI .i64 r_15 fun x64 r_16 =>
uA r_16 fun y11 r_17 =>
uA r_17 fun y12 r_18 =>
nl r_18 (
cond (decide (x64 < (x1.len : Int))) (
ix x1 x64 1 fun x66b x66o =>
ldC x66b x66o fun v_1 => asI .i64 v_1 fun x67 =>
gd (!decide (IntKind.wrap .u64 (x0.len : Int) = 0)) (
ix x8_1 (wr (Int.tmod (IntKind.wrap .u64 x67) (IntKind.wrap .u64 (x0.len : Int)))) 1 fun x77b x77o =>
ldC x77b x77o fun v_2 => asP v_2 fun x78 =>
bnd (f_commit_Commit_Phase D [.ptr x78]) fun r_19 =>
asI .i64 r_19 fun x79 =>
ix x8_1 (wr (Int.tmod (IntKind.wrap .u64 x67) (IntKind.wrap .u64 (x0.len : Int)))) 1 fun x82b x82o =>
ldC x82b x82o fun v_3 => asP v_3 fun x83 =>
bnd (f_commit_Commit_Step D [.ptr x83, .ptr x40t0]) fun r_20 =>
asI .i64 r_20 fun x85 =>
jn (
cond (x79 == 3) (
ret (.norm [.bool (x85 == 0)])) (
ret (.norm [.bool false]))) fun vs_5 =>
uB vs_5 fun x91 r_21 =>
nl r_21 (
jn (
cond x91 (
ix x0 (wr (Int.tmod (IntKind.wrap .u64 x67) (IntKind.wrap .u64 (x0.len : Int)))) 7 fun x94b x94o =>
ldC x94b x94o fun v_4 => asSl v_4 fun x96 =>
blk 4 (
loopD (fun vs_8 =>
uL vs_8 fun x19 r_22 =>
uI .i64 r_22 fun x98 r_23 =>
nl r_23 (
cond (decide (x98 < (x96.len : Int))) (
blk 5 (
ix x96 x98 4 fun x100b x100o =>
ldN x100b x100o 4 fun x101l =>
uI .i64 x101l fun x101c0 r_24 =>
uI .i64 r_24 fun x101c1 r_25 =>
uI .i64 r_25 fun x101c2 r_26 =>
uI .u8 r_26 fun x101c3 r_27 =>
nl r_27 (
bnd (f_ref20_Good D [.agg [I x101c0, I x101c1, I x101c2, .int .u8 x101c3]]) fun r_28 =>
asB r_28 fun x103 =>
cond x103 (
apd x19 4 32 1 [I x101c0, I x101c1, I x101c2, .int .u8 x101c3] fun x107 =>
ret (.norm [.sl x107])) (
ret (.norm [.sl x19])))) fun vs_9 =>
uL vs_9 fun x19_1 r_29 =>
nl r_29 (
ret (.norm [.sl x19_1, I (wr (x98 + 1))]))) (
ret (.exit 4 [.sl x19])))) [.sl (⟨none, 0, 0, none⟩), I 0]) fun vs_7 =>
uL vs_7 fun x19_2 r_30 =>
nl r_30 (
gxN y11 0 23 fun x110l =>
bnd (f_ref20_Do D [.agg x110l, .agg [.str (ByteArray.mk #[]), .str (ByteArray.mk #[]), .str (ByteArray.mk #[])], .sl x19_2]) fun r_31 =>
asT r_31 fun x113l => uI .i64 x113l fun x113t0 r_32 =>
uA r_32 fun x113t1l r_33 =>
nl r_33 (
gd (Nat.beq x113t1l.length 23) (
gd (Nat.ble (0 + x113t1l.length) y11.length) (
ix x0 (wr (Int.tmod (IntKind.wrap .u64 x67) (IntKind.wrap .u64 (x0.len : Int)))) 7 fun x118b x118o =>
ldC x118b (x118o + 1) fun v_5 => asI .i64 v_5 fun x120 =>
jn (
cond (decide (x120 ≥ 0)) (
ret (.norm [.bool (decide (x120 < 3))])) (
ret (.norm [.bool false]))) fun vs_10 =>
uB vs_10 fun x126 r_34 =>
nl r_34 (
jn (
cond x126 (
gd (decide (0 ≤ x120)) (gd (decide (x120 < (3 : Int))) (
gx y12 (0 + x120.toNat * 1) fun v_6 => asS v_6 fun x130 =>
ix x0 (wr (Int.tmod (IntKind.wrap .u64 x67) (IntKind.wrap .u64 (x0.len : Int)))) 7 fun x133b x133o =>
ldC x133b (x133o + 2) fun v_7 => asI .u8 v_7 fun x135 =>
ix x0 (wr (Int.tmod (IntKind.wrap .u64 x67) (IntKind.wrap .u64 (x0.len : Int)))) 7 fun x138b x138o =>
ldC x138b (x138o + 3) fun v_8 => asI .u8 v_8 fun x140 =>
gd (decide (x130.size + (strB [x135, x140]).size ≤ 9223372036854775807)) (
gd (decide (0 ≤ x120)) (gd (decide (x120 < (3 : Int))) (
gd (decide (0 + x120.toNat * 1 < y12.length)) (
ret (.norm [.agg (List.set y12 (0 + x120.toNat * 1) (.str (x130 ++ (strB [x135, x140]))))])))))))) (
ret (.norm [.agg y12]))) fun vs_11 =>
uA vs_11 fun y12_1 r_35 =>
nl r_35 (
ret (.norm [I (wr (x13 + 1)), .agg (putN y11 0 x113t1l), .agg y12_1])))))))) (
ret (.norm [I x13, .agg y11, .agg y12]))) fun vs_6 =>
uI .i64 vs_6 fun x13_1 r_36 =>
uA r_36 fun y11_1 r_37 =>
uA r_37 fun y12_2 r_38 =>
nl r_38 (
jn (
bnd (f_law22_things D [.ptr x40t0]) fun r_39 =>
asA r_39 fun x148l =>
gxN y11_1 0 23 fun x149l =>
eqM [(.ki .i64), (.ki .i64), (.ki .i64), (.ki .i64), (.ki .i64), (.ki .i64), (.ki .i64), (.ki .i64), .kb, .ks, .kb, .ks, .kb, .ks, .kb, .ks, .kb, .ks, .kb, .ks, (.ki .i64), (.ki .i64), (.ki .i64)] x148l x149l fun x150e =>
cond (!x150e) (
ret (.norm [.bool true])) (
bnd (f_world_World_Blocks D [.ptr x40t0]) fun r_40 =>
asI .i64 r_40 fun x153 =>
ret (.norm [.bool (x153 != x13_1)]))) fun vs_12 =>
uB vs_12 fun x156 r_41 =>
nl r_41 (
cond x156 (
ret (.ret [.bool false])) (
blk 6 (
loopD (fun vs_14 =>
uI .i64 vs_14 fun x157 r_42 =>
nl r_42 (
cond (decide (x157 < 3)) (
bnd (f_world_World_Wire D [.ptr x40t0]) fun r_43 =>
asP r_43 fun x161 =>
bnd (f_wire_Wire_All D [.ptr x161, I x157]) fun r_44 =>
asS r_44 fun x163 =>
gd (decide (0 ≤ x157)) (gd (decide (x157 < (3 : Int))) (
gx y12_2 (0 + x157.toNat * 1) fun v_9 => asS v_9 fun x166 =>
cond (!(x163.toList == x166.toList)) (
ret (.ret [.bool false])) (
ret (.norm [I (wr (x157 + 1))]))))) (
ret (.exit 6 [])))) [I 0]) fun vs_13 =>
nl vs_13 (
ret (.norm [I x13_1, I (wr (x64 + 1)), .agg y11_1, .agg y12_2])))))))) (
ret (.exit 2 [.agg y11, .agg y12])))) [I 0, I 0, .agg (putN [I 0, I 0, I 0, I 0, I 0, I 0, I 0, I 0, .bool false, .str (ByteArray.mk #[]), .bool false, .str (ByteArray.mk #[]), .bool false, .str (ByteArray.mk #[]), .bool false, .str (ByteArray.mk #[]), .bool false, .str (ByteArray.mk #[]), .bool false, .str (ByteArray.mk #[]), I 0, I 0, I 0] 0 x61l), .agg [.str (ByteArray.mk #[]), .str (ByteArray.mk #[]), .str (ByteArray.mk #[])]]) fun vs_3 =>
uA vs_3 fun y11_2 r_45 =>
uA r_45 fun y12_3 r_46 =>
nl r_46 (
ret (.ret [.bool true])))))))))))
noncomputable def f_disk_Disk_Crash (D : HV → List HV → M HV) (args : List HV) : M HV :=
fin (
uP args fun x0 r =>
uI .i64 r fun x1 r_1 =>
uI .i64 r_1 fun x2 r_2 =>
nl r_2 (
cond (Option.isNone x0) (
ret (.ret [])) (
mP x0 fun x12b x12o =>
ldC x12b (x12o + 4) fun v => asSl v fun x14 =>
blk 0 (
loopD (fun vs_1 =>
uI .i64 vs_1 fun x16 r_3 =>
nl r_3 (
cond (decide (x16 < (x14.len : Int))) (
ix x14 x16 3 fun x19b x19o =>
ldN x19b x19o 3 fun x20l =>
uI .i64 x20l fun x20c0 r_4 =>
uB r_4 fun x20c1 r_5 =>
uS r_5 fun x20c2 r_6 =>
nl r_6 (
cond (decide (x16 ≥ x1)) (
jn (
cond (!x20c1) (
gd (decide (0 ≤ 0)) (gd (decide (0 ≤ (bif decide ((x20c2.size : Int) < (bif decide (0 > x2) then 0 else x2)) then (x20c2.size : Int) else (bif decide (0 > x2) then 0 else x2)))) (gd (decide ((bif decide ((x20c2.size : Int) < (bif decide (0 > x2) then 0 else x2)) then (x20c2.size : Int) else (bif decide (0 > x2) then 0 else x2)) ≤ (x20c2.size : Int))) (
bnd (f_disk_Disk_land D [.ptr x0, .agg [I x20c0, .bool x20c1, .str (x20c2.extract (0 : Int).toNat (bif decide ((x20c2.size : Int) < (bif decide (0 > x2) then 0 else x2)) then (x20c2.size : Int) else (bif decide (0 > x2) then 0 else x2)).toNat)]]) fun r_7 =>
asT r_7 fun x39l => nl x39l (
ret (.norm [.agg [I x20c0, .bool x20c1, .str (x20c2.extract (0 : Int).toNat (bif decide ((x20c2.size : Int) < (bif decide (0 > x2) then 0 else x2)) then (x20c2.size : Int) else (bif decide (0 > x2) then 0 else x2)).toNat)]])))))) (
ret (.norm [.agg [I x20c0, .bool x20c1, .str x20c2]]))) fun vs_2 =>
uA vs_2 fun y7 r_8 =>
uI .i64 y7 fun y7c0 r_9 =>
uB r_9 fun y7c1 r_10 =>
uS r_10 fun y7c2 r_11 =>
nl r_11 (
nl r_8 (
ret (.exit 0 [])))) (
bnd (f_disk_Disk_land D [.ptr x0, .agg [I x20c0, .bool x20c1, .str x20c2]]) fun r_12 =>
asT r_12 fun x42l => nl x42l (
ret (.norm [I (wr (x16 + 1))]))))) (
ret (.exit 0 [])))) [I 0]) fun vs =>
nl vs (
mP x0 fun x45b x45o =>
stC x45b (x45o + 4) (.sl (⟨none, 0, 0, none⟩)) (
blk 2 (
loopD (fun vs_4 =>
uI .i64 vs_4 fun x47 r_13 =>
nl r_13 (
cond (decide (x47 < 2)) (
mP x0 fun x54b x54o =>
gd (decide (0 ≤ x47)) (gd (decide (x47 < (2 : Int))) (
ldC x54b (x54o + x47.toNat * 2 + 1) fun v_1 => asS v_1 fun x58 =>
mP x0 fun x59b x59o =>
gd (decide (0 ≤ x47)) (gd (decide (x47 < (2 : Int))) (
stC x59b (x59o + x47.toNat * 2) (.str x58) (
ret (.norm [I (wr (x47 + 1))]))))))) (
ret (.exit 2 [])))) [I 0]) fun vs_3 =>
nl vs_3 (
ret (.ret [])))))))
noncomputable def f_token_Token_Take (D : HV → List HV → M HV) (args : List HV) : M HV :=
fin (
uP args fun x0 r =>
uI .i64 r fun x1 r_1 =>
uB r_1 fun x2 r_2 =>
nl r_2 (
bnd (f_token_Token_Free D [.ptr x0, I x1]) fun r_3 =>
asB r_3 fun x9 =>
cond (!x9) (
ret (.ret [.bool false])) (
jn (
cond x2 (
mP x0 fun x15b x15o =>
ldC x15b x15o fun v => asI .i64 v fun x17 =>
cond (x17 == (-1)) (
mP x0 fun x26b x26o =>
stC x26b (x26o + 1) (.bool true) (
ret (.norm []))) (
mP x0 fun x21b x21o =>
ldC x21b (x21o + 1) fun v_1 => asB v_1 fun x23 =>
mP x0 fun x26b_1 x26o_1 =>
stC x26b_1 (x26o_1 + 1) (.bool x23) (
ret (.norm [])))) (
mP x0 fun x26b_2 x26o_2 =>
stC x26b_2 (x26o_2 + 1) (.bool false) (
ret (.norm [])))) fun vs =>
nl vs (
mP x0 fun x30b x30o =>
stC x30b x30o (I x1) (
ret (.ret [.bool true]))))))
noncomputable def f_world_World_Fail (D : HV → List HV → M HV) (args : List HV) : M HV :=
fin (
uP args fun x0 r =>
uI .i64 r fun x1 r_1 =>
nl r_1 (
cond (!(Option.isNone x0)) (
mP x0 fun x9b x9o =>
stC x9b (x9o + 11) (I (bif decide (0 > x1) then 0 else x1)) (
ret (.ret []))) (
ret (.ret []))))
noncomputable def f_token_Token_Holder (D : HV → List HV → M HV) (args : List HV) : M HV :=
fin (
uP args fun x0 r =>
nl r (
cond (Option.isNone x0) (
ret (.ret [I (-1)])) (
mP x0 fun x6b x6o =>
ldC x6b x6o fun v => asI .i64 v fun x8 =>
ret (.ret [I x8]))))
noncomputable def f_token_Token_Commits (D : HV → List HV → M HV) (args : List HV) : M HV :=
fin (
uP args fun x0 r =>
nl r (
cond (Option.isNone x0) (
ret (.ret [I (-1)])) (
mP x0 fun x6b x6o =>
ldC x6b (x6o + 2) fun v => asI .i64 v fun x8 =>
ret (.ret [I x8]))))
noncomputable def f_ref22_Commit_Step (D : HV → List HV → M HV) (args : List HV) : M HV :=
fin (
uP args fun x0 r =>
uB r fun x1 r_1 =>
uB r_1 fun x2 r_2 =>
uB r_2 fun x3 r_3 =>
uB r_3 fun x4 r_4 =>
nl r_4 (
mP x0 fun x12b x12o =>
ldC x12b x12o fun v => asI .i64 v fun x14 =>
blk 0 (
cond (x14 == 0) (
cond (!x1) (
ret (.ret [I 10])) (
cond (!x2) (
ret (.ret [I 9])) (
mP x0 fun x22b x22o =>
stC x22b x22o (I 1) (
mP x0 fun x25b x25o =>
ldC x25b (x25o + 1) fun v_1 => asI .i64 v_1 fun x27 =>
cond (x27 == 0) (
mP x0 fun x30b x30o =>
stC x30b x30o (I 3) (
ret (.norm []))) (
ret (.norm [])))))) (
cond (x14 == 1) (
jn (
cond x3 (
ret (.norm [.bool x4])) (
ret (.norm [.bool false]))) fun vs_1 =>
uB vs_1 fun x37 r_5 =>
nl r_5 (
cond x37 (
ret (.ret [I 10])) (
cond x3 (
ret (.ret [I 7])) (
mP x0 fun x40b x40o =>
stC x40b x40o (I 2) (
ret (.norm [])))))) (
cond (x14 == 2) (
mP x0 fun x45b x45o =>
stC x45b x45o (I 3) (
ret (.norm []))) (
cond (x14 == 3) (
mP x0 fun x50b x50o =>
stC x50b x50o (I 4) (
ret (.norm []))) (
ret (.norm [])))))) fun vs =>
nl vs (
ret (.ret [I 0]))))
noncomputable def f_commit_Commit_Decided (D : HV → List HV → M HV) (args : List HV) : M HV :=
fin (
uP args fun x0 r =>
nl r (
jn (
cond (!(Option.isNone x0)) (
mP x0 fun x7b x7o =>
ldC x7b (x7o + 2) fun v => asI .i64 v fun x9 =>
ret (.norm [.bool (decide (x9 ≥ 3))])) (
ret (.norm [.bool false]))) fun vs =>
uB vs fun x2 r_1 =>
nl r_1 (
ret (.ret [.bool x2]))))
noncomputable def f_world_World_Tell (D : HV → List HV → M HV) (args : List HV) : M HV :=
fin (
uP args fun x0 r =>
uI .i64 r fun x1 r_1 =>
uL r_1 fun x2 r_2 =>
nl r_2 (
cond (Option.isNone x0) (
ret (.ret [])) (
blk 0 (
loopD (fun vs_1 =>
uI .i64 vs_1 fun x12 r_3 =>
nl r_3 (
cond (decide (x12 < (x2.len : Int))) (
ix x2 x12 1 fun x14b x14o =>
ldC x14b x14o fun v => asI .i64 v fun x15 =>
mP x0 fun x18b x18o =>
ldC x18b (x18o + 9) fun v_1 => asSl v_1 fun x20 =>
apd x20 2 16 1 [I x1, I x15] fun x25 =>
mP x0 fun x26b x26o =>
stC x26b (x26o + 9) (.sl x25) (
ret (.norm [I (wr (x12 + 1))]))) (
ret (.exit 0 [])))) [I 0]) fun vs =>
nl vs (
ret (.ret [])))))
noncomputable def f_slices_Clone_int_int (D : HV → List HV → M HV) (args : List HV) : M HV :=
fin (
uL args fun x0 r =>
nl r (
cond (Option.isNone x0.p) (
ret (.ret [.sl (⟨none, 0, 0, none⟩)])) (
nw [] fun b5 =>
rdS x0 1 fun vs =>
apd (⟨some (b5, 0), 0, 0, none⟩) 1 8 x0.len vs fun x7 =>
ret (.ret [.sl x7]))))
noncomputable def f_acts_Acts_Notes (D : HV → List HV → M HV) (args : List HV) : M HV :=
fin (
uP args fun x0 r =>
nl r (
cond (Option.isNone x0) (
ret (.ret [.sl (⟨none, 0, 0, none⟩)])) (
mP x0 fun x6b x6o =>
ldC x6b (x6o + 2) fun v => asSl v fun x8 =>
bnd (f_slices_Clone_int_int D [.sl x8]) fun r_1 =>
asSl r_1 fun x9 =>
ret (.ret [.sl x9]))))
noncomputable def f_commit_Abort (D : HV → List HV → M HV) (args : List HV) : M HV :=
fin (
uP args fun x0 r =>
uI .i64 r fun x1 r_1 =>
uP r_1 fun x2 r_2 =>
nl r_2 (
jn (
cond (Option.isNone x0) (
ret (.norm [.bool true])) (
ret (.norm [.bool (Option.isNone x2)]))) fun vs =>
uB vs fun x13 r_3 =>
nl r_3 (
cond x13 (
ret (.ret [.sl (⟨none, 0, 0, none⟩)])) (
bnd (f_attempt_Attempt_Acts D [.ptr x2]) fun r_4 =>
asP r_4 fun x15 =>
bnd (f_acts_Acts_Undo D [.ptr x15]) fun r_5 =>
asSl r_5 fun x16 =>
bnd (f_world_World_Add D [.ptr x0, .sl x16]) fun r_6 =>
asT r_6 fun x19l => nl x19l (
bnd (f_attempt_Attempt_Acts D [.ptr x2]) fun r_7 =>
asP r_7 fun x23 =>
bnd (f_acts_Acts_Notes D [.ptr x23]) fun r_8 =>
asSl r_8 fun x24 =>
bnd (f_world_World_Tell D [.ptr x0, I x1, .sl x24]) fun r_9 =>
asT r_9 fun x25l => nl x25l (
bnd (f_world_World_Token D [.ptr x0]) fun r_10 =>
asP r_10 fun x27 =>
bnd (f_token_Token_Unlock D [.ptr x27, I x1]) fun r_11 =>
asB r_11 fun x29 =>
bnd (f_world_World_Token D [.ptr x0]) fun r_12 =>
asP r_12 fun x31 =>
bnd (f_token_Token_Drop D [.ptr x31, I x1]) fun r_13 =>
asB r_13 fun x33 =>
ret (.ret [.sl x16])))))))
end Go.Proofs.YtbphjihgbenkdaaGreat.HP
