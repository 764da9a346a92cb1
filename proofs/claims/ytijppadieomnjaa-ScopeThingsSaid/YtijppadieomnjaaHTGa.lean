/- The texts of functions, printed out of the dump by hlgen3.py. Conditions: none (definitions). -/
import Derived.Test.YtijppadieomnjaaHTZd
import Derived.Test.YtijppadieomnjaaHTGn
namespace Go.Proofs.Ytijppadieomnjaa.HT
open Go
set_option maxRecDepth 100000
set_option linter.unusedVariables false

/-- countermand/code.spans -/
def f_code_spans (D : HV → List HV → M HV) (args : List HV) : M HV :=
fin (
uL args fun x0 r =>
nl r (
gd (decide (0 ≤ (x0.len : Int))) (gd (decide ((x0.len : Int) ≤ (x0.len : Int))) (gd (decide ((x0.len : Int).toNat * 8 ≤ room)) (
nw (repL (x0.len : Int).toNat [I 0]) fun b10 =>
blk 0 (
loopD (fun vs_1 =>
uI .i64 vs_1 fun x5 r_1 =>
uI .i64 r_1 fun x13 r_2 =>
nl r_2 (
cond (decide (x13 < (x0.len : Int))) (
blk 1 (
ix x0 x13 4 fun x16b x16o =>
ldN x16b x16o 4 fun x17l =>
uI .i64 x17l fun x17c0 r_3 =>
uI .i64 r_3 fun x17c1 r_4 =>
uI .i64 r_4 fun x17c2 r_5 =>
uI .i64 r_5 fun x17c3 r_6 =>
nl r_6 (
ix (⟨some (b10, 0), (x0.len : Int).toNat, (x0.len : Int).toNat, none⟩) x13 1 fun x21b x21o =>
stC x21b x21o (I x5) (
cond (x17c0 == 4) (
cond (decide (x5 ≥ 0)) (
ret (.ret [.sl (⟨none, 0, 0, none⟩), .bool false])) (
ret (.norm [I x13]))) (
cond (x17c0 == 5) (
cond (decide (x5 < 0)) (
ret (.ret [.sl (⟨none, 0, 0, none⟩), .bool false])) (
ret (.norm [I (-1)]))) (
ret (.norm [I x5])))))) fun vs_2 =>
uI .i64 vs_2 fun x5_1 r_7 =>
nl r_7 (
ret (.norm [I x5_1, I (wr (x13 + 1))]))) (
ret (.exit 0 [I x5])))) [I (-1), I 0]) fun vs =>
uI .i64 vs fun x5_2 r_8 =>
nl r_8 (
ret (.ret [.sl (⟨some (b10, 0), (x0.len : Int).toNat, (x0.len : Int).toNat, none⟩), .bool (decide (x5_2 < 0))])))))))

/-- countermand/code.in -/
def f_code_in (D : HV → List HV → M HV) (args : List HV) : M HV :=
fin (
uI .i64 args fun x0 r =>
uI .i64 r fun x1 r_1 =>
nl r_1 (
jn (
cond (decide (x0 ≥ 0)) (
ret (.norm [.bool (decide (x0 < x1))])) (
ret (.norm [.bool false]))) fun vs =>
uB vs fun x4 r_2 =>
nl r_2 (
ret (.ret [.bool x4]))))

/-- countermand/code.things -/
def f_code_things (D : HV → List HV → M HV) (args : List HV) : M HV :=
fin (
uA args fun x0l r =>
uI .i64 x0l fun x0c0 r_1 =>
uI .i64 r_1 fun x0c1 r_2 =>
uI .i64 r_2 fun x0c2 r_3 =>
uI .i64 r_3 fun x0c3 r_4 =>
nl r_4 (
nl r (
cond (x0c0 == 8) (
jn (
bnd (f_code_in D [I x0c1, I 4]) fun r_5 =>
asB r_5 fun x9 =>
cond x9 (
bnd (f_code_in D [I x0c2, I 6]) fun r_6 =>
asB r_6 fun x13 =>
cond x13 (
bnd (f_code_in D [I x0c3, I 32]) fun r_7 =>
asB r_7 fun x18 =>
ret (.norm [.bool x18])) (
ret (.norm [.bool false]))) (
ret (.norm [.bool false]))) fun vs =>
uB vs fun x2 r_8 =>
nl r_8 (
ret (.ret [.bool x2]))) (
cond (x0c0 == 9) (
jn (
bnd (f_code_in D [I x0c1, I 6]) fun r_9 =>
asB r_9 fun x24 =>
cond x24 (
bnd (f_code_in D [I x0c2, I 32]) fun r_10 =>
asB r_10 fun x28 =>
cond x28 (
bnd (f_code_in D [I x0c3, I 4]) fun r_11 =>
asB r_11 fun x33 =>
ret (.norm [.bool x33])) (
ret (.norm [.bool false]))) (
ret (.norm [.bool false]))) fun vs_1 =>
uB vs_1 fun x2_1 r_12 =>
nl r_12 (
ret (.ret [.bool x2_1]))) (
jn (
cond (x0c0 == 10) (
ret (.norm [.bool (x0c0 == 10)])) (
ret (.norm [.bool (x0c0 == 11)]))) fun vs_2 =>
uB vs_2 fun x35 r_13 =>
nl r_13 (
cond x35 (
jn (
bnd (f_code_in D [I x0c1, I 6]) fun r_14 =>
asB r_14 fun x40 =>
cond x40 (
cond (x0c2 == 0) (
ret (.norm [.bool (x0c3 == 0)])) (
ret (.norm [.bool false]))) (
ret (.norm [.bool false]))) fun vs_3 =>
uB vs_3 fun x2_2 r_15 =>
nl r_15 (
ret (.ret [.bool x2_2]))) (
cond (x0c0 == 12) (
jn (
bnd (f_code_in D [I x0c1, I 6]) fun r_16 =>
asB r_16 fun x55 =>
cond x55 (
bnd (f_code_in D [I x0c2, I 6]) fun r_17 =>
asB r_17 fun x59 =>
cond x59 (
cond (x0c1 != x0c2) (
ret (.norm [.bool (x0c3 == 0)])) (
ret (.norm [.bool false]))) (
ret (.norm [.bool false]))) (
ret (.norm [.bool false]))) fun vs_4 =>
uB vs_4 fun x2_3 r_18 =>
nl r_18 (
ret (.ret [.bool x2_3]))) (
cond (x0c0 == 13) (
jn (
bnd (f_code_in D [I x0c1, I 6]) fun r_19 =>
asB r_19 fun x77 =>
cond x77 (
bnd (f_code_in D [I x0c2, I 33]) fun r_20 =>
asB r_20 fun x81 =>
cond x81 (
ret (.norm [.bool (x0c3 == 0)])) (
ret (.norm [.bool false]))) (
ret (.norm [.bool false]))) fun vs_5 =>
uB vs_5 fun x2_4 r_21 =>
nl r_21 (
ret (.ret [.bool x2_4]))) (
cond (x0c0 == 14) (
jn (
bnd (f_code_in D [I x0c1, I 4]) fun r_22 =>
asB r_22 fun x92 =>
cond x92 (
bnd (f_code_in D [I x0c2, I 3]) fun r_23 =>
asB r_23 fun x96 =>
cond x96 (
ret (.norm [.bool (x0c3 == 0)])) (
ret (.norm [.bool false]))) (
ret (.norm [.bool false]))) fun vs_6 =>
uB vs_6 fun x2_5 r_24 =>
nl r_24 (
ret (.ret [.bool x2_5]))) (
cond (x0c0 == 15) (
jn (
bnd (f_code_in D [I x0c1, I 3]) fun r_25 =>
asB r_25 fun x107 =>
cond x107 (
bnd (f_code_in D [I x0c2, I 4]) fun r_26 =>
asB r_26 fun x111 =>
cond x111 (
ret (.norm [.bool (x0c3 == 0)])) (
ret (.norm [.bool false]))) (
ret (.norm [.bool false]))) fun vs_7 =>
uB vs_7 fun x2_6 r_27 =>
nl r_27 (
ret (.ret [.bool x2_6]))) (
cond (x0c0 == 16) (
jn (
bnd (f_code_in D [I x0c1, I 3]) fun r_28 =>
asB r_28 fun x122 =>
cond x122 (
bnd (f_code_in D [I x0c2, I 256]) fun r_29 =>
asB r_29 fun x126 =>
cond x126 (
ret (.norm [.bool (x0c3 == 0)])) (
ret (.norm [.bool false]))) (
ret (.norm [.bool false]))) fun vs_8 =>
uB vs_8 fun x2_7 r_30 =>
nl r_30 (
ret (.ret [.bool x2_7]))) (
cond (x0c0 == 17) (
jn (
bnd (f_code_in D [I x0c1, I 256]) fun r_31 =>
asB r_31 fun x137 =>
cond x137 (
cond (x0c2 == 0) (
ret (.norm [.bool (x0c3 == 0)])) (
ret (.norm [.bool false]))) (
ret (.norm [.bool false]))) fun vs_9 =>
uB vs_9 fun x2_8 r_32 =>
nl r_32 (
ret (.ret [.bool x2_8]))) (
cond (x0c0 == 18) (
jn (
bnd (f_code_in D [I x0c1, I 4]) fun r_33 =>
asB r_33 fun x152 =>
cond x152 (
cond (decide (x0c2 ≥ (-100))) (
cond (decide (x0c2 ≤ 100)) (
ret (.norm [.bool (x0c3 == 0)])) (
ret (.norm [.bool false]))) (
ret (.norm [.bool false]))) (
ret (.norm [.bool false]))) fun vs_10 =>
uB vs_10 fun x2_9 r_34 =>
nl r_34 (
ret (.ret [.bool x2_9]))) (
ret (.ret [.bool false])))))))))))))))

/-- countermand/code.fields -/
def f_code_fields (D : HV → List HV → M HV) (args : List HV) : M HV :=
fin (
uA args fun x0l r =>
uI .i64 x0l fun x0c0 r_1 =>
uI .i64 r_1 fun x0c1 r_2 =>
uI .i64 r_2 fun x0c2 r_3 =>
uI .i64 r_3 fun x0c3 r_4 =>
nl r_4 (
nl r (
jn (
cond (x0c0 == 0) (
ret (.norm [.bool (x0c0 == 0)])) (
cond (x0c0 == 4) (
ret (.norm [.bool (x0c0 == 4)])) (
cond (x0c0 == 5) (
ret (.norm [.bool (x0c0 == 5)])) (
cond (x0c0 == 19) (
ret (.norm [.bool (x0c0 == 19)])) (
ret (.norm [.bool (x0c0 == 21)])))))) fun vs =>
uB vs fun x5 r_5 =>
nl r_5 (
cond x5 (
ret (.ret [.bool (cond (x0c0 == x0c0) (cond (x0c1 == 0) (cond (x0c2 == 0) (cond (x0c3 == 0) true false) false) false) false)])) (
cond (x0c0 == 1) (
jn (
bnd (f_code_in D [I x0c1, I 4]) fun r_6 =>
asB r_6 fun x20 =>
cond x20 (
ret (.norm [.bool (x0c3 == 0)])) (
ret (.norm [.bool false]))) fun vs_1 =>
uB vs_1 fun x2 r_7 =>
nl r_7 (
ret (.ret [.bool x2]))) (
cond (x0c0 == 2) (
jn (
bnd (f_code_in D [I x0c1, I 4]) fun r_8 =>
asB r_8 fun x30 =>
cond x30 (
bnd (f_code_in D [I x0c2, I 4]) fun r_9 =>
asB r_9 fun x34 =>
cond x34 (
ret (.norm [.bool (x0c3 == 0)])) (
ret (.norm [.bool false]))) (
ret (.norm [.bool false]))) fun vs_2 =>
uB vs_2 fun x2_1 r_10 =>
nl r_10 (
ret (.ret [.bool x2_1]))) (
cond (x0c0 == 3) (
jn (
bnd (f_code_in D [I x0c2, I 4]) fun r_11 =>
asB r_11 fun x45 =>
cond x45 (
bnd (f_code_in D [I x0c3, I 3]) fun r_12 =>
asB r_12 fun x49 =>
ret (.norm [.bool x49])) (
ret (.norm [.bool false]))) fun vs_3 =>
uB vs_3 fun x2_2 r_13 =>
nl r_13 (
ret (.ret [.bool x2_2]))) (
cond (x0c0 == 6) (
jn (
bnd (f_code_in D [I x0c1, I 4]) fun r_14 =>
asB r_14 fun x55 =>
cond x55 (
bnd (f_code_in D [I x0c2, I 8]) fun r_15 =>
asB r_15 fun x59 =>
cond x59 (
ret (.norm [.bool (x0c3 == 0)])) (
ret (.norm [.bool false]))) (
ret (.norm [.bool false]))) fun vs_4 =>
uB vs_4 fun x2_3 r_16 =>
nl r_16 (
ret (.ret [.bool x2_3]))) (
cond (x0c0 == 7) (
jn (
bnd (f_code_in D [I x0c1, I 8]) fun r_17 =>
asB r_17 fun x70 =>
cond x70 (
bnd (f_code_in D [I x0c2, I 4]) fun r_18 =>
asB r_18 fun x74 =>
cond x74 (
ret (.norm [.bool (x0c3 == 0)])) (
ret (.norm [.bool false]))) (
ret (.norm [.bool false]))) fun vs_5 =>
uB vs_5 fun x2_4 r_19 =>
nl r_19 (
ret (.ret [.bool x2_4]))) (
cond (x0c0 == 20) (
jn (
cond (x0c2 == 0) (
ret (.norm [.bool (x0c3 == 0)])) (
ret (.norm [.bool false]))) fun vs_6 =>
uB vs_6 fun x2_5 r_20 =>
nl r_20 (
ret (.ret [.bool x2_5]))) (
bnd (f_code_things D [.agg [I x0c0, I x0c1, I x0c2, I x0c3]]) fun r_21 =>
asB r_21 fun x92 =>
ret (.ret [.bool x92]))))))))))))

/-- countermand/code.placed -/
def f_code_placed (D : HV → List HV → M HV) (args : List HV) : M HV :=
fin (
uI .i64 args fun x0 r =>
uB r fun x1 r_1 =>
nl r_1 (
jn (
cond (x0 == 1) (
ret (.norm [.bool (x0 == 1)])) (
cond (x0 == 2) (
ret (.norm [.bool (x0 == 2)])) (
ret (.norm [.bool (x0 == 3)])))) fun vs =>
uB vs fun x6 r_2 =>
nl r_2 (
cond x6 (
ret (.ret [.bool true])) (
jn (
cond (x0 == 0) (
ret (.norm [.bool (x0 == 0)])) (
ret (.norm [.bool (x0 == 4)]))) fun vs_1 =>
uB vs_1 fun x10 r_3 =>
nl r_3 (
cond x10 (
ret (.ret [.bool (!x1)])) (
ret (.ret [.bool x1])))))))

/-- countermand/code.lands -/
def f_code_lands (D : HV → List HV → M HV) (args : List HV) : M HV :=
fin (
uL args fun x0 r =>
uL r fun x1 r_1 =>
uI .i64 r_1 fun x2 r_2 =>
nl r_2 (
ix x0 x2 4 fun x10b x10o =>
ldC x10b (x10o + 1) fun v => asI .i64 v fun x12 =>
jn (
cond (decide (x12 ≤ x2)) (
ret (.norm [.bool true])) (
ret (.norm [.bool (decide (x12 > (x0.len : Int)))]))) fun vs =>
uB vs fun x21 r_3 =>
nl r_3 (
cond x21 (
ret (.ret [.bool false])) (
cond (x12 == (x0.len : Int)) (
ix x1 x2 1 fun x28b x28o =>
ldC x28b x28o fun v_1 => asI .i64 v_1 fun x29 =>
ret (.ret [.bool (decide (x29 < 0))])) (
ix x1 x12 1 fun x33b x33o =>
ldC x33b x33o fun v_2 => asI .i64 v_2 fun x34 =>
ix x1 x2 1 fun x37b x37o =>
ldC x37b x37o fun v_3 => asI .i64 v_3 fun x38 =>
ret (.ret [.bool (x34 == x38)]))))))

/-- countermand/code.Check -/
def f_code_Check (D : HV → List HV → M HV) (args : List HV) : M HV :=
fin (
uL args fun x0 r =>
nl r (
cond (decide ((x0.len : Int) > 48)) (
ret (.ret [I 0, I 3])) (
bnd (f_code_spans D [.sl x0]) fun r_1 =>
asT r_1 fun x15l => uL x15l fun x15t0 r_2 =>
uB r_2 fun x15t1 r_3 =>
nl r_3 (
cond (!x15t1) (
ret (.ret [I 0, I 11])) (
blk 0 (
loopD (fun vs_1 =>
uB vs_1 fun x6 r_4 =>
uI .i64 r_4 fun x7 r_5 =>
uI .i64 r_5 fun x22 r_6 =>
nl r_6 (
cond (decide (x22 < (x0.len : Int))) (
blk 1 (
ix x0 x22 4 fun x25b x25o =>
ldN x25b x25o 4 fun x26l =>
uI .i64 x26l fun x26c0 r_7 =>
uI .i64 r_7 fun x26c1 r_8 =>
uI .i64 r_8 fun x26c2 r_9 =>
uI .i64 r_9 fun x26c3 r_10 =>
nl r_10 (
jn (
bnd (f_code_fields D [.agg [I x26c0, I x26c1, I x26c2, I x26c3]]) fun r_11 =>
asB r_11 fun x28 =>
cond (!x28) (
ret (.norm [.bool true])) (
ix x15t0 x22 1 fun x35b x35o =>
ldC x35b x35o fun v => asI .i64 v fun x36 =>
bnd (f_code_placed D [I x26c0, .bool (decide (x36 ≥ 0))]) fun r_12 =>
asB r_12 fun x38 =>
ret (.norm [.bool (!x38)]))) fun vs_3 =>
uB vs_3 fun x40 r_13 =>
nl r_13 (
cond x40 (
ret (.ret [I x22, I 11])) (
blk 2 (
jn (
cond (x26c0 == 3) (
ret (.norm [.bool (x26c0 == 3)])) (
ret (.norm [.bool (x26c0 == 20)]))) fun vs_5 =>
uB vs_5 fun x44 r_14 =>
nl r_14 (
cond x44 (
bnd (f_code_lands D [.sl x0, .sl x15t0, I x22]) fun r_15 =>
asB r_15 fun x50 =>
cond (!x50) (
ret (.ret [I x22, I 11])) (
ret (.norm [.bool x6, I x7]))) (
cond (x26c0 == 4) (
ret (.norm [.bool false, I 0])) (
ret (.norm [.bool x6, I x7]))))) fun vs_4 =>
uB vs_4 fun x6_1 r_16 =>
uI .i64 r_16 fun x7_1 r_17 =>
nl r_17 (
jn (
cond (x26c0 == 20) (
ret (.norm [I (wr (x7_1 + 1))])) (
ret (.norm [I x7_1]))) fun vs_6 =>
uI .i64 vs_6 fun x7_2 r_18 =>
nl r_18 (
cond (decide (x7_2 > 3)) (
ret (.ret [I x22, I 11])) (
jn (
cond x6_1 (
cond (x26c0 == 14) (
ret (.norm [.bool true])) (
cond (x26c0 == 19) (
ret (.norm [.bool true])) (
cond (x26c0 == 20) (
ret (.norm [.bool true])) (
ret (.norm [.bool (x26c0 == 21)]))))) (
ret (.norm [.bool false]))) fun vs_7 =>
uB vs_7 fun x83 r_19 =>
nl r_19 (
cond x83 (
ret (.ret [I x22, I 11])) (
cond x6_1 (
ret (.norm [.bool true, I x7_2])) (
ret (.norm [.bool (x26c0 == 21), I x7_2]))))))))))) fun vs_2 =>
uB vs_2 fun x6_2 r_20 =>
uI .i64 r_20 fun x7_3 r_21 =>
nl r_21 (
ret (.norm [.bool x6_2, I x7_3, I (wr (x22 + 1))]))) (
ret (.exit 0 [])))) [.bool false, I 0, I 0]) fun vs =>
nl vs (
ret (.ret [I 0, I 0])))))))

/-- countermand/bound.can -/
def f_bound_can (D : HV → List HV → M HV) (args : List HV) : M HV :=
fin (
uL args fun x0 r =>
nl r (
bnd (f_code_Check D [.sl x0]) fun r_1 =>
asT r_1 fun x7l => uI .i64 x7l fun x7t0 r_2 =>
uI .i64 r_2 fun x7t1 r_3 =>
nl r_3 (
ret (.ret [.bool (x7t1 == 0)]))))

/-- countermand/bound.one -/
def f_bound_one (D : HV → List HV → M HV) (args : List HV) : M HV :=
fin (
uA args fun x0l r =>
uI .i64 x0l fun x0c0 r_1 =>
uI .i64 r_1 fun x0c1 r_2 =>
uI .i64 r_2 fun x0c2 r_3 =>
uI .i64 r_3 fun x0c3 r_4 =>
nl r_4 (
uI .i64 r fun x1 r_5 =>
uL r_5 fun x2 r_6 =>
nl r_6 (
jn (
cond (x0c0 == 0) (
ret (.norm [.bool (x0c0 == 0)])) (
cond (x0c0 == 5) (
ret (.norm [.bool (x0c0 == 5)])) (
ret (.norm [.bool (x0c0 == 19)])))) fun vs =>
uB vs fun x9 r_7 =>
nl r_7 (
cond x9 (
ret (.ret [I 1])) (
cond (x0c0 == 20) (
ix x2 (wr (x1 + 1)) 1 fun x18b x18o =>
ldC x18b x18o fun v => asI .i64 v fun x19 =>
ix x2 x0c1 1 fun x24b x24o =>
ldC x24b x24o fun v_1 => asI .i64 v_1 fun x25 =>
ret (.ret [I (wr ((wr (1 + x19)) + x25))])) (
cond (x0c0 == 3) (
cond (x0c3 == 2) (
ix x2 x0c1 1 fun x35b x35o =>
ldC x35b x35o fun v_2 => asI .i64 v_2 fun x36 =>
ret (.ret [I (wr (1 + x36))])) (
ix x2 (wr (x1 + 1)) 1 fun x41b x41o =>
ldC x41b x41o fun v_3 => asI .i64 v_3 fun x42 =>
ix x2 x0c1 1 fun x46b x46o =>
ldC x46b x46o fun v_4 => asI .i64 v_4 fun x47 =>
ret (.ret [I (wr (1 + (bif decide (x47 > x42) then x47 else x42)))]))) (
ix x2 (wr (x1 + 1)) 1 fun x53b x53o =>
ldC x53b x53o fun v_5 => asI .i64 v_5 fun x54 =>
ret (.ret [I (wr (1 + x54))]))))))))

/-- countermand/bound.Most -/
def f_bound_Most (D : HV → List HV → M HV) (args : List HV) : M HV :=
fin (
uL args fun x0 r =>
nl r (
bnd (f_bound_can D [.sl x0]) fun r_1 =>
asB r_1 fun x6 =>
cond (!x6) (
ret (.ret [.sl (⟨none, 0, 0, none⟩)])) (
gd (decide (0 ≤ wr ((x0.len : Int) + 1))) (gd (decide (wr ((x0.len : Int) + 1) ≤ wr ((x0.len : Int) + 1))) (gd (decide ((wr ((x0.len : Int) + 1)).toNat * 8 ≤ room)) (
nw (repL (wr ((x0.len : Int) + 1)).toNat [I 0]) fun b11 =>
blk 0 (
loopD (fun vs_1 =>
uI .i64 vs_1 fun x4 r_2 =>
nl r_2 (
cond (decide (x4 ≥ 0)) (
ix x0 x4 4 fun x23b x23o =>
ldN x23b x23o 4 fun x24l =>
uI .i64 x24l fun x24c0 r_3 =>
uI .i64 r_3 fun x24c1 r_4 =>
uI .i64 r_4 fun x24c2 r_5 =>
uI .i64 r_5 fun x24c3 r_6 =>
nl r_6 (
bnd (f_bound_one D [.agg [I x24c0, I x24c1, I x24c2, I x24c3], I x4, .sl (⟨some (b11, 0), (wr ((x0.len : Int) + 1)).toNat, (wr ((x0.len : Int) + 1)).toNat, none⟩)]) fun r_7 =>
asI .i64 r_7 fun x27 =>
ix (⟨some (b11, 0), (wr ((x0.len : Int) + 1)).toNat, (wr ((x0.len : Int) + 1)).toNat, none⟩) x4 1 fun x28b x28o =>
stC x28b x28o (I x27) (
ret (.norm [I (wr (x4 - 1))])))) (
ret (.exit 0 [])))) [I (wr ((x0.len : Int) - 1))]) fun vs =>
nl vs (
ret (.ret [.sl (⟨some (b11, 0), (wr ((x0.len : Int) + 1)).toNat, (wr ((x0.len : Int) + 1)).toNat, none⟩)]))))))))

/-- countermand/countermandref07.Shaped -/
def f_ref07_Shaped (D : HV → List HV → M HV) (args : List HV) : M HV :=
fin (
uL args fun x0 r =>
nl r (
blk 0 (
loopD (fun vs_1 =>
uI .i64 vs_1 fun x3 r_1 =>
uI .i64 r_1 fun x8 r_2 =>
nl r_2 (
cond (decide (x8 < (x0.len : Int))) (
ix x0 x8 4 fun x10b x10o =>
ldN x10b x10o 4 fun x11l =>
uI .i64 x11l fun x11c0 r_3 =>
uI .i64 r_3 fun x11c1 r_4 =>
uI .i64 r_4 fun x11c2 r_5 =>
uI .i64 r_5 fun x11c3 r_6 =>
nl r_6 (
jn (
cond (x11c0 == 4) (
ret (.norm [I (wr (x3 + 1))])) (
ret (.norm [I x3]))) fun vs_2 =>
uI .i64 vs_2 fun x3_1 r_7 =>
nl r_7 (
jn (
cond (x11c0 == 5) (
ret (.norm [I (wr (x3_1 - 1))])) (
ret (.norm [I x3_1]))) fun vs_3 =>
uI .i64 vs_3 fun x3_2 r_8 =>
nl r_8 (
jn (
cond (decide (x3_2 < 0)) (
ret (.norm [.bool true])) (
ret (.norm [.bool (decide (x3_2 > 1))]))) fun vs_4 =>
uB vs_4 fun x27 r_9 =>
nl r_9 (
cond x27 (
ret (.ret [.bool false])) (
ret (.norm [I x3_2, I (wr (x8 + 1))]))))))) (
ret (.exit 0 [I x3])))) [I 0, I 0]) fun vs =>
uI .i64 vs fun x3_3 r_10 =>
nl r_10 (
ret (.ret [.bool (x3_3 == 0)]))))

/-- countermand/countermandref07.Block -/
def f_ref07_Block (D : HV → List HV → M HV) (args : List HV) : M HV :=
fin (
uL args fun x0 r =>
uI .i64 r fun x1 r_1 =>
nl r_1 (
ix x0 x1 4 fun x8b x8o =>
ldC x8b x8o fun v => asI .i64 v fun x10 =>
cond (x10 == 4) (
ret (.ret [I (-1)])) (
blk 0 (
loopD (fun vs_1 =>
uI .i64 vs_1 fun x5 r_2 =>
nl r_2 (
cond (decide (x5 ≥ 0)) (
ix x0 x5 4 fun x20b x20o =>
ldC x20b x20o fun v_1 => asI .i64 v_1 fun x22 =>
cond (x22 == 5) (
ret (.ret [I (-1)])) (
ix x0 x5 4 fun x26b x26o =>
ldC x26b x26o fun v_2 => asI .i64 v_2 fun x28 =>
cond (x28 == 4) (
ret (.ret [I x5])) (
ret (.norm [I (wr (x5 - 1))])))) (
ret (.exit 0 [])))) [I (wr (x1 - 1))]) fun vs =>
nl vs (
ret (.ret [I (-1)])))))

/-- countermand/countermandref07.limits -/
def f_ref07_limits (D : HV → List HV → M HV) (args : List HV) : M HV :=
fin (
uI .i64 args fun x0 r =>
nl r (
jn (
cond (x0 == 0) (
ret (.norm [.bool (x0 == 0)])) (
cond (x0 == 4) (
ret (.norm [.bool (x0 == 4)])) (
cond (x0 == 5) (
ret (.norm [.bool (x0 == 5)])) (
cond (x0 == 19) (
ret (.norm [.bool (x0 == 19)])) (
ret (.norm [.bool (x0 == 21)])))))) fun vs =>
uB vs fun x17 r_1 =>
nl r_1 (
cond x17 (
ret (.ret [.agg [I 0, I 0, I 0, I 0, I 0, I 0], .bool true])) (
cond (x0 == 1) (
ret (.ret [.agg [I 0, I 3, I (-9223372036854775808), I 9223372036854775807, I 0, I 0], .bool true])) (
cond (x0 == 2) (
ret (.ret [.agg [I 0, I 3, I 0, I 3, I 0, I 0], .bool true])) (
cond (x0 == 3) (
ret (.ret [.agg [I (-9223372036854775808), I 9223372036854775807, I 0, I 3, I 0, I 2], .bool true])) (
cond (x0 == 6) (
ret (.ret [.agg [I 0, I 3, I 0, I 7, I 0, I 0], .bool true])) (
cond (x0 == 7) (
ret (.ret [.agg [I 0, I 7, I 0, I 3, I 0, I 0], .bool true])) (
cond (x0 == 8) (
ret (.ret [.agg [I 0, I 3, I 0, I 5, I 0, I 31], .bool true])) (
cond (x0 == 9) (
ret (.ret [.agg [I 0, I 5, I 0, I 31, I 0, I 3], .bool true])) (
jn (
cond (x0 == 10) (
ret (.norm [.bool (x0 == 10)])) (
ret (.norm [.bool (x0 == 11)]))) fun vs_1 =>
uB vs_1 fun x62 r_2 =>
nl r_2 (
cond x62 (
ret (.ret [.agg [I 0, I 5, I 0, I 0, I 0, I 0], .bool true])) (
cond (x0 == 12) (
ret (.ret [.agg [I 0, I 5, I 0, I 5, I 0, I 0], .bool true])) (
cond (x0 == 13) (
ret (.ret [.agg [I 0, I 5, I 0, I 32, I 0, I 0], .bool true])) (
cond (x0 == 14) (
ret (.ret [.agg [I 0, I 3, I 0, I 2, I 0, I 0], .bool true])) (
cond (x0 == 15) (
ret (.ret [.agg [I 0, I 2, I 0, I 3, I 0, I 0], .bool true])) (
cond (x0 == 16) (
ret (.ret [.agg [I 0, I 2, I 0, I 255, I 0, I 0], .bool true])) (
cond (x0 == 17) (
ret (.ret [.agg [I 0, I 255, I 0, I 0, I 0, I 0], .bool true])) (
cond (x0 == 18) (
ret (.ret [.agg [I 0, I 3, I (-100), I 100, I 0, I 0], .bool true])) (
cond (x0 == 20) (
ret (.ret [.agg [I (-9223372036854775808), I 9223372036854775807, I 0, I 0, I 0, I 0], .bool true])) (
ret (.ret [.agg [I 0, I 0, I 0, I 0, I 0, I 0], .bool false]))))))))))))))))))))))

/-- countermand/countermandref07.One -/
def f_ref07_One (D : HV → List HV → M HV) (args : List HV) : M HV :=
fin (
uL args fun x0 r =>
uI .i64 r fun x1 r_1 =>
nl r_1 (
ix x0 x1 4 fun x13b x13o =>
ldN x13b x13o 4 fun x14l =>
uI .i64 x14l fun x14c0 r_2 =>
uI .i64 r_2 fun x14c1 r_3 =>
uI .i64 r_3 fun x14c2 r_4 =>
uI .i64 r_4 fun x14c3 r_5 =>
nl r_5 (
bnd (f_ref07_limits D [I x14c0]) fun r_6 =>
asT r_6 fun x18l => uA x18l fun x18t0l r_7 =>
uI .i64 x18t0l fun x18t0c0 r_8 =>
uI .i64 r_8 fun x18t0c1 r_9 =>
uI .i64 r_9 fun x18t0c2 r_10 =>
uI .i64 r_10 fun x18t0c3 r_11 =>
uI .i64 r_11 fun x18t0c4 r_12 =>
uI .i64 r_12 fun x18t0c5 r_13 =>
nl r_13 (
uB r_7 fun x18t1 r_14 =>
nl r_14 (
jn (
cond (!x18t1) (
ret (.norm [.bool true])) (
cond (decide (x14c1 < x18t0c0)) (
ret (.norm [.bool true])) (
cond (decide (x14c1 > x18t0c1)) (
ret (.norm [.bool true])) (
cond (decide (x14c2 < x18t0c2)) (
ret (.norm [.bool true])) (
cond (decide (x14c2 > x18t0c3)) (
ret (.norm [.bool true])) (
cond (decide (x14c3 < x18t0c4)) (
ret (.norm [.bool true])) (
cond (decide (x14c3 > x18t0c5)) (
ret (.norm [.bool true])) (
cond (x14c0 == 12) (
ret (.norm [.bool (x14c1 == x14c2)])) (
ret (.norm [.bool false])))))))))) fun vs =>
uB vs fun x82 r_15 =>
nl r_15 (
cond x82 (
ret (.ret [.bool false])) (
bnd (f_ref07_Block D [.sl x0, I x1]) fun r_16 =>
asI .i64 r_16 fun x85 =>
jn (
cond (x14c0 == 0) (
cond (decide (x85 ≥ 0)) (
ret (.norm [.bool true])) (
cond (decide (x14c0 > 4)) (
ret (.norm [.bool (decide (x85 < 0))])) (
ret (.norm [.bool false])))) (
cond (x14c0 == 4) (
cond (decide (x85 ≥ 0)) (
ret (.norm [.bool true])) (
cond (decide (x14c0 > 4)) (
ret (.norm [.bool (decide (x85 < 0))])) (
ret (.norm [.bool false])))) (
cond (decide (x14c0 > 4)) (
ret (.norm [.bool (decide (x85 < 0))])) (
ret (.norm [.bool false]))))) fun vs_1 =>
uB vs_1 fun x106 r_17 =>
nl r_17 (
cond x106 (
ret (.ret [.bool false])) (
jn (
cond (x14c0 == 3) (
ret (.norm [.bool true])) (
ret (.norm [.bool (x14c0 == 20)]))) fun vs_2 =>
uB vs_2 fun x114 r_18 =>
nl r_18 (
jn (
cond x114 (
jn (
cond (decide (x14c1 ≤ x1)) (
ret (.norm [.bool true])) (
cond (decide (x14c1 > (x0.len : Int))) (
ret (.norm [.bool true])) (
cond (x14c1 == (x0.len : Int)) (
cond (decide (x85 ≥ 0)) (
ret (.norm [.bool true])) (
cond (decide (x14c1 < (x0.len : Int))) (
bnd (f_ref07_Block D [.sl x0, I x14c1]) fun r_19 =>
asI .i64 r_19 fun x147 =>
ret (.norm [.bool (x147 != x85)])) (
ret (.norm [.bool false])))) (
cond (decide (x14c1 < (x0.len : Int))) (
bnd (f_ref07_Block D [.sl x0, I x14c1]) fun r_20 =>
asI .i64 r_20 fun x147_1 =>
ret (.norm [.bool (x147_1 != x85)])) (
ret (.norm [.bool false])))))) fun vs_4 =>
uB vs_4 fun x151 r_21 =>
nl r_21 (
cond x151 (
ret (.ret [.bool false])) (
ret (.norm [])))) (
ret (.norm []))) fun vs_3 =>
nl vs_3 (
blk 0 (
loopD (fun vs_6 =>
uI .i64 vs_6 fun x9 r_22 =>
uI .i64 r_22 fun x10 r_23 =>
nl r_23 (
cond (decide (x10 < x1)) (
blk 1 (
jn (
ix x0 x10 4 fun x161b x161o =>
ldC x161b x161o fun v => asI .i64 v fun x163 =>
cond (x163 == 21) (
cond (x14c0 == 14) (
ret (.norm [.bool true])) (
cond (x14c0 == 19) (
ret (.norm [.bool true])) (
cond (x14c0 == 20) (
ret (.norm [.bool true])) (
ret (.norm [.bool (x14c0 == 21)]))))) (
ret (.norm [.bool false]))) fun vs_8 =>
uB vs_8 fun x184 r_24 =>
nl r_24 (
cond x184 (
ret (.ret [.bool false])) (
ix x0 x10 4 fun x187b x187o =>
ldC x187b x187o fun v_1 => asI .i64 v_1 fun x189 =>
cond (x189 == 20) (
ret (.norm [I (wr (x9 + 1))])) (
ret (.norm [I x9]))))) fun vs_7 =>
uI .i64 vs_7 fun x9_1 r_25 =>
nl r_25 (
ret (.norm [I x9_1, I (wr (x10 + 1))]))) (
ret (.exit 0 [I x9])))) [I 0, I (wr (x85 + 1))]) fun vs_5 =>
uI .i64 vs_5 fun x9_2 r_26 =>
nl r_26 (
jn (
cond (x14c0 != 20) (
ret (.norm [.bool true])) (
ret (.norm [.bool (decide (x9_2 < 3))]))) fun vs_9 =>
uB vs_9 fun x4 r_27 =>
nl r_27 (
ret (.ret [.bool x4]))))))))))))))

/-- countermand/countermandref07.Check -/
def f_ref07_Check (D : HV → List HV → M HV) (args : List HV) : M HV :=
fin (
uL args fun x0 r =>
nl r (
cond (decide ((x0.len : Int) > 48)) (
ret (.ret [I 0, I 3])) (
bnd (f_ref07_Shaped D [.sl x0]) fun r_1 =>
asB r_1 fun x9 =>
cond (!x9) (
ret (.ret [I 0, I 11])) (
blk 0 (
loopD (fun vs_1 =>
uI .i64 vs_1 fun x13 r_2 =>
nl r_2 (
cond (decide (x13 < (x0.len : Int))) (
bnd (f_ref07_One D [.sl x0, I x13]) fun r_3 =>
asB r_3 fun x18 =>
cond (!x18) (
ret (.ret [I x13, I 11])) (
ret (.norm [I (wr (x13 + 1))]))) (
ret (.exit 0 [])))) [I 0]) fun vs =>
nl vs (
ret (.ret [I 0, I 0]))))))

/-- countermand/countermandref27.Can -/
def f_ref27_Can (D : HV → List HV → M HV) (args : List HV) : M HV :=
fin (
uL args fun x0 r =>
nl r (
bnd (f_ref07_Check D [.sl x0]) fun r_1 =>
asT r_1 fun x7l => uI .i64 x7l fun x7t0 r_2 =>
uI .i64 r_2 fun x7t1 r_3 =>
nl r_3 (
ret (.ret [.bool (x7t1 == 0)]))))

/-- countermand/bound.next -/
def f_bound_next (D : HV → List HV → M HV) (args : List HV) : M HV :=
fin (
uL args fun x0 r =>
uI .i64 r fun x1 r_1 =>
nl r_1 (
ix x0 x1 4 fun x8b x8o =>
ldN x8b x8o 4 fun x9l =>
uI .i64 x9l fun x9c0 r_2 =>
uI .i64 r_2 fun x9c1 r_3 =>
uI .i64 r_3 fun x9c2 r_4 =>
uI .i64 r_4 fun x9c3 r_5 =>
nl r_5 (
jn (
cond (x9c0 == 0) (
ret (.norm [.bool true])) (
ret (.norm [.bool (x9c0 == 19)]))) fun vs =>
uB vs fun x10 r_6 =>
nl r_6 (
cond x10 (
ret (.ret [.sl (⟨none, 0, 0, none⟩)])) (
jn (
cond (x9c0 == 3) (
ret (.norm [.bool (x9c3 == 2)])) (
ret (.norm [.bool false]))) fun vs_1 =>
uB vs_1 fun x19 r_7 =>
nl r_7 (
cond x19 (
nw [I x9c1] fun b30 =>
ret (.ret [.sl (⟨some (b30, 0), 1, 1, none⟩)])) (
jn (
cond (x9c0 == 3) (
ret (.norm [.bool (decide (x9c1 > (wr (x1 + 1))))])) (
cond (x9c0 == 20) (
ret (.norm [.bool (decide (x9c1 > (wr (x1 + 1))))])) (
ret (.norm [.bool false])))) fun vs_2 =>
uB vs_2 fun x31 r_8 =>
nl r_8 (
cond x31 (
nw [I (wr (x1 + 1)), I x9c1] fun b51 =>
ret (.ret [.sl (⟨some (b51, 0), 2, 2, none⟩)])) (
nw [I (wr (x1 + 1))] fun b54 =>
ret (.ret [.sl (⟨some (b54, 0), 1, 1, none⟩)]))))))))))

/-- countermand/countermandref27.Leads -/
def f_ref27_Leads (D : HV → List HV → M HV) (args : List HV) : M HV :=
fin (
uL args fun x0 r =>
uI .i64 r fun x1 r_1 =>
uI .i64 r_1 fun x2 r_2 =>
nl r_2 (
ix x0 x1 4 fun x10b x10o =>
ldN x10b x10o 4 fun x11l =>
uI .i64 x11l fun x11c0 r_3 =>
uI .i64 r_3 fun x11c1 r_4 =>
uI .i64 r_4 fun x11c2 r_5 =>
uI .i64 r_5 fun x11c3 r_6 =>
nl r_6 (
jn (
cond (x11c0 == 0) (
ret (.norm [.bool (x11c0 == 0)])) (
ret (.norm [.bool (x11c0 == 19)]))) fun vs =>
uB vs fun x14 r_7 =>
nl r_7 (
cond x14 (
ret (.ret [.bool false])) (
cond (x11c0 == 3) (
jn (
cond (x2 == x11c1) (
ret (.norm [.bool true])) (
cond (decide (x11c3 < 2)) (
ret (.norm [.bool (x2 == (wr (x1 + 1)))])) (
ret (.norm [.bool false])))) fun vs_1 =>
uB vs_1 fun x6 r_8 =>
nl r_8 (
ret (.ret [.bool x6]))) (
cond (x11c0 == 20) (
jn (
cond (x2 == x11c1) (
ret (.norm [.bool true])) (
ret (.norm [.bool (x2 == (wr (x1 + 1)))]))) fun vs_2 =>
uB vs_2 fun x6_1 r_9 =>
nl r_9 (
ret (.ret [.bool x6_1]))) (
ret (.ret [.bool (x2 == (wr (x1 + 1)))]))))))))

/-- countermand/bound.seen -/
def f_bound_seen (D : HV → List HV → M HV) (args : List HV) : M HV :=
fin (
uL args fun x0 r =>
uI .i64 r fun x1 r_1 =>
nl r_1 (
gd (decide (0 ≤ wr ((x0.len : Int) + 1))) (gd (decide (wr ((x0.len : Int) + 1) ≤ wr ((x0.len : Int) + 1))) (gd (decide ((wr ((x0.len : Int) + 1)).toNat * 1 ≤ room)) (
nw (repL (wr ((x0.len : Int) + 1)).toNat [.bool false]) fun b12 =>
ix (⟨some (b12, 0), (wr ((x0.len : Int) + 1)).toNat, (wr ((x0.len : Int) + 1)).toNat, none⟩) x1 1 fun x15b x15o =>
stC x15b x15o (.bool true) (
blk 0 (
loopD (fun vs_1 =>
uI .i64 vs_1 fun x18 r_2 =>
nl r_2 (
cond (decide (x18 < (x0.len : Int))) (
blk 1 (
ix (⟨some (b12, 0), (wr ((x0.len : Int) + 1)).toNat, (wr ((x0.len : Int) + 1)).toNat, none⟩) x18 1 fun x23b x23o =>
ldC x23b x23o fun v => asB v fun x24 =>
cond (!x24) (
ret (.exit 1 [])) (
bnd (f_bound_next D [.sl x0, I x18]) fun r_3 =>
asSl r_3 fun x28 =>
blk 2 (
loopD (fun vs_4 =>
uI .i64 vs_4 fun x30 r_4 =>
nl r_4 (
cond (decide (x30 < (x28.len : Int))) (
ix x28 x30 1 fun x32b x32o =>
ldC x32b x32o fun v_1 => asI .i64 v_1 fun x33 =>
ix (⟨some (b12, 0), (wr ((x0.len : Int) + 1)).toNat, (wr ((x0.len : Int) + 1)).toNat, none⟩) x33 1 fun x36b x36o =>
stC x36b x36o (.bool true) (
ret (.norm [I (wr (x30 + 1))]))) (
ret (.exit 2 [])))) [I 0]) fun vs_3 =>
nl vs_3 (
ret (.norm [])))) fun vs_2 =>
nl vs_2 (
ret (.norm [I (wr (x18 + 1))]))) (
ret (.exit 0 [])))) [I 0]) fun vs =>
nl vs (
ret (.ret [.sl (⟨some (b12, 0), (wr ((x0.len : Int) + 1)).toNat, (wr ((x0.len : Int) + 1)).toNat, none⟩)]))))))))

/-- countermand/bound.Reach -/
def f_bound_Reach (D : HV → List HV → M HV) (args : List HV) : M HV :=
fin (
uL args fun x0 r =>
nl r (
bnd (f_bound_can D [.sl x0]) fun r_1 =>
asB r_1 fun x4 =>
cond (!x4) (
ret (.ret [.sl (⟨none, 0, 0, none⟩)])) (
bnd (f_bound_seen D [.sl x0, I 0]) fun r_2 =>
asSl r_2 fun x7 =>
gd (decide (0 ≤ 0)) (gd (decide (0 ≤ (x0.len : Int))) (gd (decide ((x0.len : Int) ≤ (x7.cap : Int))) (gd (decide ((x7.cap : Int) ≤ (x7.cap : Int))) (gd (slOk x7.opn 1 (decide (0 < (x7.cap : Int)))) (
ret (.ret [.sl (⟨bif decide ((x7.cap : Int) = 0) then x7.p else x7.p.map (fun q => (q.1, q.2 + (0 : Int).toNat * 1)), ((x0.len : Int) - 0 : Int).toNat, ((x7.cap : Int) - 0 : Int).toNat, x7.opn⟩)])))))))))

/-- countermand/bound.From$1 -/
def f_bound_From_1 (D : HV → List HV → M HV) (args : List HV) : M HV :=
fin (
uc args fun x0 r =>
uP r fun x1 r_1 =>
uP r_1 fun x2 r_2 =>
nl r_2 (
jn (
mP x1 fun x6b x6o =>
ldC x6b x6o fun v => asSl v fun x6 =>
bnd (f_bound_can D [.sl x6]) fun r_3 =>
asB r_3 fun x7 =>
cond (!x7) (
ret (.norm [.bool true])) (
mP x2 fun x10b x10o =>
ldC x10b x10o fun v_1 => asI .i64 v_1 fun x10 =>
cond (decide (x10 < 0)) (
ret (.norm [.bool true])) (
mP x2 fun x14b x14o =>
ldC x14b x14o fun v_2 => asI .i64 v_2 fun x14 =>
mP x1 fun x15b x15o =>
ldC x15b x15o fun v_3 => asSl v_3 fun x15 =>
ret (.norm [.bool (decide (x14 > (x15.len : Int)))])))) fun vs =>
uB vs fun x18 r_4 =>
nl r_4 (
cond x18 (
ret (.ret [])) (
mP x1 fun x19b x19o =>
ldC x19b x19o fun v_4 => asSl v_4 fun x19 =>
mP x2 fun x20b x20o =>
ldC x20b x20o fun v_5 => asI .i64 v_5 fun x20 =>
bnd (f_bound_seen D [.sl x19, I x20]) fun r_5 =>
asSl r_5 fun x21 =>
blk 0 (
loopD (fun vs_2 =>
uI .i64 vs_2 fun x23 r_6 =>
nl r_6 (
cond (decide (x23 < (x21.len : Int))) (
ix x21 x23 1 fun x26b x26o =>
ldC x26b x26o fun v_6 => asB v_6 fun x27 =>
jn (
cond x27 (
bnd (D x0 [I x23]) fun r_7 =>
asB r_7 fun x32 =>
ret (.norm [.bool (!x32)])) (
ret (.norm [.bool false]))) fun vs_3 =>
uB vs_3 fun x34 r_8 =>
nl r_8 (
cond x34 (
ret (.ret [])) (
ret (.norm [I (wr (x23 + 1))])))) (
ret (.exit 0 [])))) [I 0]) fun vs_1 =>
nl vs_1 (
ret (.ret []))))))

/-- countermand/bound.From -/
def f_bound_From (D : HV → List HV → M HV) (args : List HV) : M HV :=
fin (
uL args fun x0 r =>
uI .i64 r fun x1 r_1 =>
nl r_1 (
nw [.sl x0] fun b2 =>
nw [I x1] fun b3 =>
ret (.ret [.func n_bound_From_1 [] [.ptr (some (b2, 0)), .ptr (some (b3, 0))]])))

/-- countermand/countermandref27.Seen -/
def f_ref27_Seen (D : HV → List HV → M HV) (args : List HV) : M HV :=
fin (
uL args fun x0 r =>
uI .i64 r fun x1 r_1 =>
nl r_1 (
gd (decide (0 ≤ x1)) (gd (decide (x1 < (49 : Int))) (
gd (decide (0 + x1.toNat * 1 < (List.replicate 49 (HV.bool false)).length)) (
blk 0 (
loopD (fun vs_1 =>
uB vs_1 fun x6 r_2 =>
uA r_2 fun y5 r_3 =>
nl r_3 (
cond x6 (
blk 2 (
loopD (fun vs_3 =>
uB vs_3 fun x6_1 r_4 =>
uI .i64 r_4 fun x14 r_5 =>
uA r_5 fun y5_1 r_6 =>
nl r_6 (
cond (decide (x14 < (x0.len : Int))) (
blk 4 (
loopD (fun vs_5 =>
uB vs_5 fun x6_2 r_7 =>
uI .i64 r_7 fun x8 r_8 =>
uA r_8 fun y5_2 r_9 =>
nl r_9 (
cond (decide (x8 ≤ (x0.len : Int))) (
blk 5 (
jn (
gd (decide (0 ≤ x14)) (gd (decide (x14 < (49 : Int))) (
gx y5_2 (0 + x14.toNat * 1) fun v => asB v fun x25 =>
cond x25 (
gd (decide (0 ≤ x8)) (gd (decide (x8 < (49 : Int))) (
gx y5_2 (0 + x8.toNat * 1) fun v_1 => asB v_1 fun x29 =>
cond (!x29) (
bnd (f_ref27_Leads D [.sl x0, I x14, I x8]) fun r_10 =>
asB r_10 fun x36 =>
ret (.norm [.bool x36])) (
ret (.norm [.bool false]))))) (
ret (.norm [.bool false]))))) fun vs_7 =>
uB vs_7 fun x37 r_11 =>
nl r_11 (
cond x37 (
gd (decide (0 ≤ x8)) (gd (decide (x8 < (49 : Int))) (
gd (decide (0 + x8.toNat * 1 < y5_2.length)) (
ret (.norm [.bool true, .agg (List.set y5_2 (0 + x8.toNat * 1) (.bool true))]))))) (
ret (.norm [.bool x6_2, .agg y5_2])))) fun vs_6 =>
uB vs_6 fun x6_3 r_12 =>
uA r_12 fun y5_3 r_13 =>
nl r_13 (
ret (.norm [.bool x6_3, I (wr (x8 + 1)), .agg y5_3]))) (
ret (.exit 4 [.bool x6_2, .agg y5_2])))) [.bool x6_1, I 0, .agg y5_1]) fun vs_4 =>
uB vs_4 fun x6_4 r_14 =>
uA r_14 fun y5_4 r_15 =>
nl r_15 (
ret (.norm [.bool x6_4, I (wr (x14 + 1)), .agg y5_4]))) (
ret (.exit 2 [.bool x6_1, .agg y5_1])))) [.bool false, I 0, .agg y5]) fun vs_2 =>
uB vs_2 fun x6_5 r_16 =>
uA r_16 fun y5_5 r_17 =>
nl r_17 (
ret (.norm [.bool x6_5, .agg y5_5]))) (
ret (.exit 0 [.agg y5])))) [.bool true, .agg (List.set (List.replicate 49 (HV.bool false)) (0 + x1.toNat * 1) (.bool true))]) fun vs =>
uA vs fun y5_6 r_18 =>
nl r_18 (
gxN y5_6 0 49 fun x41l =>
gd (Nat.beq x41l.length 49) (
gd (Nat.ble (0 + x41l.length) (List.replicate 49 (HV.bool false)).length) (
gxN (putN (List.replicate 49 (HV.bool false)) 0 x41l) 0 49 fun z0l =>
ret (.ret [.agg z0l])))))))))

/-- countermand/countermandref23.sum -/
def f_ref23_sum (D : HV → List HV → M HV) (args : List HV) : M HV :=
fin (
uI .i64 args fun x0 r =>
uI .i64 r fun x1 r_1 =>
nl r_1 (
ret (.ret [I (wr (IntKind.wrap .u64 ((IntKind.wrap .u64 x0) + (IntKind.wrap .u64 x1))))])))

/-- countermand/countermandref23.Plain -/
def f_ref23_Plain (D : HV → List HV → M HV) (args : List HV) : M HV :=
fin (
uA args fun x0l r =>
uI .i64 x0l fun x0c0 r_1 =>
uI .i64 r_1 fun x0c1 r_2 =>
uI .i64 r_2 fun x0c2 r_3 =>
uI .i64 r_3 fun x0c3 r_4 =>
nl r_4 (
uI .i64 r fun x1 r_5 =>
uA r_5 fun x2l r_6 =>
uI .i64 x2l fun x2c0 r_7 =>
uI .i64 r_7 fun x2c1 r_8 =>
uI .i64 r_8 fun x2c2 r_9 =>
uI .i64 r_9 fun x2c3 r_10 =>
nl r_10 (
nl r_6 (
blk 0 (
cond (x0c0 == 1) (
gd (decide (0 ≤ x0c1)) (gd (decide (x0c1 < (4 : Int))) (
gd (decide (0 + x0c1.toNat * 1 < (([I x2c0, I x2c1, I x2c2, I x2c3]) : List HV).length)) (
ret (.norm [.agg (List.set ([I x2c0, I x2c1, I x2c2, I x2c3]) (0 + x0c1.toNat * 1) (I x0c2))]))))) (
cond (x0c0 == 2) (
gd (decide (0 ≤ x0c1)) (gd (decide (x0c1 < (4 : Int))) (
gx [I x2c0, I x2c1, I x2c2, I x2c3] (0 + x0c1.toNat * 1) fun v => asI .i64 v fun x27 =>
gd (decide (0 ≤ x0c2)) (gd (decide (x0c2 < (4 : Int))) (
gx [I x2c0, I x2c1, I x2c2, I x2c3] (0 + x0c2.toNat * 1) fun v_1 => asI .i64 v_1 fun x31 =>
bnd (f_ref23_sum D [I x27, I x31]) fun r_11 =>
asI .i64 r_11 fun x32 =>
gd (decide (0 ≤ x0c1)) (gd (decide (x0c1 < (4 : Int))) (
gd (decide (0 + x0c1.toNat * 1 < (([I x2c0, I x2c1, I x2c2, I x2c3]) : List HV).length)) (
ret (.norm [.agg (List.set ([I x2c0, I x2c1, I x2c2, I x2c3]) (0 + x0c1.toNat * 1) (I x32))]))))))))) (
cond (x0c0 == 3) (
jn (
cond (x0c3 == 2) (
ret (.norm [.bool true])) (
cond (x0c3 == 0) (
gd (decide (0 ≤ x0c2)) (gd (decide (x0c2 < (4 : Int))) (
gx [I x2c0, I x2c1, I x2c2, I x2c3] (0 + x0c2.toNat * 1) fun v_2 => asI .i64 v_2 fun x47 =>
cond (x47 == 0) (
ret (.norm [.bool true])) (
cond (x0c3 == 1) (
gd (decide (0 ≤ x0c2)) (gd (decide (x0c2 < (4 : Int))) (
gx [I x2c0, I x2c1, I x2c2, I x2c3] (0 + x0c2.toNat * 1) fun v_3 => asI .i64 v_3 fun x59 =>
ret (.norm [.bool (x59 != 0)])))) (
ret (.norm [.bool false])))))) (
cond (x0c3 == 1) (
gd (decide (0 ≤ x0c2)) (gd (decide (x0c2 < (4 : Int))) (
gx [I x2c0, I x2c1, I x2c2, I x2c3] (0 + x0c2.toNat * 1) fun v_4 => asI .i64 v_4 fun x59_1 =>
ret (.norm [.bool (x59_1 != 0)])))) (
ret (.norm [.bool false]))))) fun vs_1 =>
uB vs_1 fun x62 r_12 =>
nl r_12 (
cond x62 (
ret (.ret [I x0c1, .agg [I x2c0, I x2c1, I x2c2, I x2c3], .bool true])) (
ret (.norm [.agg [I x2c0, I x2c1, I x2c2, I x2c3]])))) (
ret (.ret [I x1, .agg [I x2c0, I x2c1, I x2c2, I x2c3], .bool false]))))) fun vs =>
uA vs fun y5 r_13 =>
nl r_13 (
gxN y5 0 4 fun x68l =>
uI .i64 x68l fun x68c0 r_14 =>
uI .i64 r_14 fun x68c1 r_15 =>
uI .i64 r_15 fun x68c2 r_16 =>
uI .i64 r_16 fun x68c3 r_17 =>
nl r_17 (
ret (.ret [I (wr (x1 + 1)), .agg [I x68c0, I x68c1, I x68c2, I x68c3], .bool true])))))))

/-- countermand/countermandref23.deed -/
def f_ref23_deed (D : HV → List HV → M HV) (args : List HV) : M HV :=
fin (
uA args fun x0l r =>
uI .i64 x0l fun x0c0 r_1 =>
uI .i64 r_1 fun x0c1 r_2 =>
uI .i64 r_2 fun x0c2 r_3 =>
uI .i64 r_3 fun x0c3 r_4 =>
nl r_4 (
uA r fun x1l r_5 =>
uI .i64 x1l fun x1c0 r_6 =>
uI .i64 r_6 fun x1c1 r_7 =>
uI .i64 r_7 fun x1c2 r_8 =>
uI .i64 r_8 fun x1c3 r_9 =>
nl r_9 (
nl r_5 (
cond (x0c0 == 6) (
ret (.ret [.agg [I 0, I x0c2, I 0, .int .u8 0], .bool true, .bool true])) (
cond (x0c0 == 7) (
gd (decide (0 ≤ x0c2)) (gd (decide (x0c2 < (4 : Int))) (
gx [I x1c0, I x1c1, I x1c2, I x1c3] (0 + x0c2.toNat * 1) fun v => asI .i64 v fun x21 =>
ret (.ret [.agg [I 1, I x0c1, I x21, .int .u8 0], .bool true, .bool false])))) (
cond (x0c0 == 8) (
ret (.ret [.agg [I 2, I x0c2, I x0c3, .int .u8 0], .bool true, .bool true])) (
cond (x0c0 == 9) (
gd (decide (0 ≤ x0c3)) (gd (decide (x0c3 < (4 : Int))) (
gx [I x1c0, I x1c1, I x1c2, I x1c3] (0 + x0c3.toNat * 1) fun v_1 => asI .i64 v_1 fun x39 =>
ret (.ret [.agg [I 3, I x0c1, I x0c2, .int .u8 (IntKind.wrap .u8 x39)], .bool true, .bool false])))) (
cond (x0c0 == 10) (
ret (.ret [.agg [I 4, I x0c1, I 0, .int .u8 0], .bool true, .bool false])) (
cond (x0c0 == 11) (
ret (.ret [.agg [I 5, I x0c1, I 0, .int .u8 0], .bool true, .bool false])) (
cond (x0c0 == 12) (
ret (.ret [.agg [I 6, I x0c1, I x0c2, .int .u8 0], .bool true, .bool false])) (
cond (x0c0 == 13) (
ret (.ret [.agg [I 7, I x0c1, I x0c2, .int .u8 0], .bool true, .bool false])) (
cond (x0c0 == 14) (
ret (.ret [.agg [I 8, I x0c2, I 0, .int .u8 0], .bool true, .bool true])) (
ret (.ret [.agg [I 0, I 0, I 0, .int .u8 0], .bool false, .bool false]))))))))))))))

/-- countermand/countermandref09.At -/
def f_ref09_At (D : HV → List HV → M HV) (args : List HV) : M HV :=
fin (
uA args fun x0l r =>
uB x0l fun x0c0 r_1 =>
uS r_1 fun x0c1 r_2 =>
nl r_2 (
uI .i64 r fun x1 r_3 =>
nl r_3 (
blk 0 (
loopD (fun vs_1 =>
uI .i64 vs_1 fun x5 r_4 =>
nl r_4 (
cond (decide (x5 < (x0c1.size : Int))) (
cond (x5 == x1) (
gd (decide (0 ≤ x5)) (gd (decide (x5 < (x0c1.size : Int))) (
ret (.ret [I (wr ((x0c1.data[x5.toNat]?.getD 0).toNat : Int))])))) (
ret (.norm [I (wr (x5 + 1))]))) (
ret (.exit 0 [])))) [I 0]) fun vs =>
nl vs (
ret (.ret [I (-1)])))))

/-- countermand/countermandref14.Is -/
def f_ref14_Is (D : HV → List HV → M HV) (args : List HV) : M HV :=
fin (
uI .i64 args fun x0 r =>
nl r (
jn (
cond (decide (x0 ≥ 0)) (
ret (.norm [.bool (decide (x0 ≤ 5))])) (
ret (.norm [.bool false]))) fun vs =>
uB vs fun x2 r_1 =>
nl r_1 (
ret (.ret [.bool x2]))))

/-- (*countermand/countermandref14.Sheet).put -/
def f_ref14_Sheet_put (D : HV → List HV → M HV) (args : List HV) : M HV :=
fin (
uP args fun x0 r =>
uI .i64 r fun x1 r_1 =>
uA r_1 fun x2l r_2 =>
uB x2l fun x2c0 r_3 =>
uS r_3 fun x2c1 r_4 =>
nl r_4 (
nl r_2 (
mP x0 fun x8b x8o =>
gd (decide (0 ≤ x1)) (gd (decide (x1 < (6 : Int))) (
ldN x8b (x8o + 12 + x1.toNat * 2) 2 fun x11l =>
uB x11l fun x11c0 r_5 =>
uS r_5 fun x11c1 r_6 =>
nl r_6 (
cond (!(cond (x11c0 == x2c0) (cond (x11c1.toList == x2c1.toList) true false) false)) (
mP x0 fun x17b x17o =>
gd (decide (0 ≤ x1)) (gd (decide (x1 < (6 : Int))) (
stN x17b (x17o + 12 + x1.toNat * 2) [.bool x2c0, .str x2c1] (
mP x0 fun x22b x22o =>
gd (decide (0 ≤ x1)) (gd (decide (x1 < (6 : Int))) (
stC x22b (x22o + 24 + x1.toNat * 1) (.bool true) (
ret (.ret [])))))))) (
ret (.ret []))))))))

/-- countermand/countermandref09.Put -/
def f_ref09_Put (D : HV → List HV → M HV) (args : List HV) : M HV :=
fin (
uA args fun x0l r =>
uB x0l fun x0c0 r_1 =>
uS r_1 fun x0c1 r_2 =>
nl r_2 (
uI .i64 r fun x1 r_3 =>
uI .u8 r_3 fun x2 r_4 =>
nl r_4 (
jn (
cond (decide (x1 < 0)) (
ret (.norm [.bool true])) (
ret (.norm [.bool (decide (x1 > 31))]))) fun vs =>
uB vs fun x15 r_5 =>
nl r_5 (
cond x15 (
ret (.ret [.agg [.bool x0c0, .str x0c1]])) (
blk 0 (
loopD (fun vs_2 =>
uS vs_2 fun x7 r_6 =>
uI .i64 r_6 fun x8 r_7 =>
nl r_7 (
jn (
cond (decide (x8 < (x0c1.size : Int))) (
ret (.norm [.bool true])) (
ret (.norm [.bool (decide (x8 ≤ x1))]))) fun vs_3 =>
uB vs_3 fun x26 r_8 =>
nl r_8 (
cond x26 (
bnd (f_ref09_At D [.agg [.bool x0c0, .str x0c1], I x8]) fun r_9 =>
asI .i64 r_9 fun x31 =>
jn (
cond (x8 == x1) (
ret (.norm [I (wr x2)])) (
ret (.norm [I (bif decide (0 > x31) then 0 else x31)]))) fun vs_4 =>
uI .i64 vs_4 fun x9 r_10 =>
nl r_10 (
gd (decide (x7.size + (strB [IntKind.wrap .u8 x9]).size ≤ 9223372036854775807)) (
ret (.norm [.str (x7 ++ (strB [IntKind.wrap .u8 x9])), I (wr (x8 + 1))])))) (
ret (.exit 0 [.str x7]))))) [.str (ByteArray.mk #[]), I 0]) fun vs_1 =>
uS vs_1 fun x7_1 r_11 =>
nl r_11 (
ret (.ret [.agg [.bool true, .str x7_1]])))))))

/-- (*countermand/countermandref14.Sheet).Write -/
def f_ref14_Sheet_Write (D : HV → List HV → M HV) (args : List HV) : M HV :=
fin (
uP args fun x0 r =>
uI .i64 r fun x1 r_1 =>
uI .i64 r_1 fun x2 r_2 =>
uI .u8 r_2 fun x3 r_3 =>
nl r_3 (
bnd (f_ref14_Is D [I x1]) fun r_4 =>
asB r_4 fun x10 =>
jn (
cond x10 (
mP x0 fun x15b x15o =>
gd (decide (0 ≤ x1)) (gd (decide (x1 < (6 : Int))) (
ldN x15b (x15o + 12 + x1.toNat * 2) 2 fun x18l =>
uB x18l fun x18c0 r_5 =>
uS r_5 fun x18c1 r_6 =>
nl r_6 (
bnd (f_ref09_Put D [.agg [.bool x18c0, .str x18c1], I x2, .int .u8 x3]) fun r_7 =>
asA r_7 fun x21l => uB x21l fun x21c0 r_8 =>
uS r_8 fun x21c1 r_9 =>
nl r_9 (
bnd (f_ref14_Sheet_put D [.ptr x0, I x1, .agg [.bool x21c0, .str x21c1]]) fun r_10 =>
asT r_10 fun x22l => nl x22l (
ret (.norm []))))))) (
ret (.norm []))) fun vs =>
nl vs (
bnd (f_ref14_Is D [I x1]) fun r_11 =>
asB r_11 fun x24 =>
ret (.ret [.bool x24]))))

/-- (*countermand/countermandref14.Sheet).Create -/
def f_ref14_Sheet_Create (D : HV → List HV → M HV) (args : List HV) : M HV :=
fin (
uP args fun x0 r =>
uI .i64 r fun x1 r_1 =>
nl r_1 (
bnd (f_ref14_Is D [I x1]) fun r_2 =>
asB r_2 fun x6 =>
jn (
cond x6 (
mP x0 fun x11b x11o =>
gd (decide (0 ≤ x1)) (gd (decide (x1 < (6 : Int))) (
ldC x11b (x11o + 12 + x1.toNat * 2 + 1) fun v => asS v fun x15 =>
bnd (f_ref14_Sheet_put D [.ptr x0, I x1, .agg [.bool true, .str x15]]) fun r_3 =>
asT r_3 fun x17l => nl x17l (
ret (.norm []))))) (
ret (.norm []))) fun vs =>
nl vs (
bnd (f_ref14_Is D [I x1]) fun r_4 =>
asB r_4 fun x19 =>
ret (.ret [.bool x19]))))

/-- (*countermand/countermandref14.Sheet).Remove -/
def f_ref14_Sheet_Remove (D : HV → List HV → M HV) (args : List HV) : M HV :=
fin (
uP args fun x0 r =>
uI .i64 r fun x1 r_1 =>
nl r_1 (
bnd (f_ref14_Is D [I x1]) fun r_2 =>
asB r_2 fun x6 =>
jn (
cond x6 (
bnd (f_ref14_Sheet_put D [.ptr x0, I x1, .agg [.bool false, .str (ByteArray.mk #[])]]) fun r_3 =>
asT r_3 fun x10l => nl x10l (
ret (.norm []))) (
ret (.norm []))) fun vs =>
nl vs (
bnd (f_ref14_Is D [I x1]) fun r_4 =>
asB r_4 fun x12 =>
ret (.ret [.bool x12]))))

/-- (*countermand/countermandref14.Sheet).Rename -/
def f_ref14_Sheet_Rename (D : HV → List HV → M HV) (args : List HV) : M HV :=
fin (
uP args fun x0 r =>
uI .i64 r fun x1 r_1 =>
uI .i64 r_1 fun x2 r_2 =>
nl r_2 (
jn (
bnd (f_ref14_Is D [I x1]) fun r_3 =>
asB r_3 fun x8 =>
cond (!x8) (
ret (.norm [.bool true])) (
bnd (f_ref14_Is D [I x2]) fun r_4 =>
asB r_4 fun x12 =>
ret (.norm [.bool (!x12)]))) fun vs =>
uB vs fun x14 r_5 =>
nl r_5 (
cond x14 (
ret (.ret [.bool false])) (
jn (
mP x0 fun x17b x17o =>
gd (decide (0 ≤ x1)) (gd (decide (x1 < (6 : Int))) (
ldC x17b (x17o + 12 + x1.toNat * 2) fun v => asB v fun x21 =>
cond x21 (
ret (.norm [.bool (x1 != x2)])) (
ret (.norm [.bool false]))))) fun vs_1 =>
uB vs_1 fun x26 r_6 =>
nl r_6 (
jn (
cond x26 (
mP x0 fun x31b x31o =>
gd (decide (0 ≤ x1)) (gd (decide (x1 < (6 : Int))) (
ldN x31b (x31o + 12 + x1.toNat * 2) 2 fun x34l =>
uB x34l fun x34c0 r_7 =>
uS r_7 fun x34c1 r_8 =>
nl r_8 (
bnd (f_ref14_Sheet_put D [.ptr x0, I x2, .agg [.bool x34c0, .str x34c1]]) fun r_9 =>
asT r_9 fun x35l => nl x35l (
bnd (f_ref14_Sheet_put D [.ptr x0, I x1, .agg [.bool false, .str (ByteArray.mk #[])]]) fun r_10 =>
asT r_10 fun x39l => nl x39l (
ret (.norm []))))))) (
ret (.norm []))) fun vs_2 =>
nl vs_2 (
ret (.ret [.bool true])))))))

/-- countermand/countermandref09.Cut -/
def f_ref09_Cut (D : HV → List HV → M HV) (args : List HV) : M HV :=
fin (
uA args fun x0l r =>
uB x0l fun x0c0 r_1 =>
uS r_1 fun x0c1 r_2 =>
nl r_2 (
uI .i64 r fun x1 r_3 =>
nl r_3 (
jn (
cond (!x0c0) (
ret (.norm [.bool true])) (
cond (decide (x1 < 0)) (
ret (.norm [.bool true])) (
ret (.norm [.bool (decide (x1 > 32))])))) fun vs =>
uB vs fun x17 r_4 =>
nl r_4 (
cond x17 (
ret (.ret [.agg [.bool x0c0, .str x0c1]])) (
blk 0 (
loopD (fun vs_2 =>
uS vs_2 fun x5 r_5 =>
uI .i64 r_5 fun x6 r_6 =>
nl r_6 (
cond (decide (x6 < x1)) (
bnd (f_ref09_At D [.agg [.bool x0c0, .str x0c1], I x6]) fun r_7 =>
asI .i64 r_7 fun x27 =>
gd (decide (x5.size + (strB [IntKind.wrap .u8 (bif decide (0 > x27) then 0 else x27)]).size ≤ 9223372036854775807)) (
ret (.norm [.str (x5 ++ (strB [IntKind.wrap .u8 (bif decide (0 > x27) then 0 else x27)])), I (wr (x6 + 1))]))) (
ret (.exit 0 [.str x5])))) [.str (ByteArray.mk #[]), I 0]) fun vs_1 =>
uS vs_1 fun x5_1 r_8 =>
nl r_8 (
ret (.ret [.agg [.bool true, .str x5_1]])))))))

/-- (*countermand/countermandref14.Sheet).Cut -/
def f_ref14_Sheet_Cut (D : HV → List HV → M HV) (args : List HV) : M HV :=
fin (
uP args fun x0 r =>
uI .i64 r fun x1 r_1 =>
uI .i64 r_1 fun x2 r_2 =>
nl r_2 (
bnd (f_ref14_Is D [I x1]) fun r_3 =>
asB r_3 fun x8 =>
jn (
cond x8 (
mP x0 fun x13b x13o =>
gd (decide (0 ≤ x1)) (gd (decide (x1 < (6 : Int))) (
ldN x13b (x13o + 12 + x1.toNat * 2) 2 fun x16l =>
uB x16l fun x16c0 r_4 =>
uS r_4 fun x16c1 r_5 =>
nl r_5 (
bnd (f_ref09_Cut D [.agg [.bool x16c0, .str x16c1], I x2]) fun r_6 =>
asA r_6 fun x18l => uB x18l fun x18c0 r_7 =>
uS r_7 fun x18c1 r_8 =>
nl r_8 (
bnd (f_ref14_Sheet_put D [.ptr x0, I x1, .agg [.bool x18c0, .str x18c1]]) fun r_9 =>
asT r_9 fun x19l => nl x19l (
ret (.norm []))))))) (
ret (.norm []))) fun vs =>
nl vs (
bnd (f_ref14_Is D [I x1]) fun r_10 =>
asB r_10 fun x21 =>
ret (.ret [.bool x21]))))

/-- countermand/countermandref20.Do -/
def f_ref20_Do (D : HV → List HV → M HV) (args : List HV) : M HV :=
fin (
uA args fun x0l r =>
uA r fun x1l r_1 =>
uS x1l fun x1c0 r_2 =>
uS r_2 fun x1c1 r_3 =>
uS r_3 fun x1c2 r_4 =>
nl r_4 (
uL r_1 fun x2 r_5 =>
nl r_5 (
gxN x0l 8 12 fun x13l =>
gxN x0l 8 12 fun x15l =>
gd (Nat.beq x13l.length 12) (gd (Nat.beq x15l.length 12) (nw (putN (putN [.bool false, .str (ByteArray.mk #[]), .bool false, .str (ByteArray.mk #[]), .bool false, .str (ByteArray.mk #[]), .bool false, .str (ByteArray.mk #[]), .bool false, .str (ByteArray.mk #[]), .bool false, .str (ByteArray.mk #[]), .bool false, .str (ByteArray.mk #[]), .bool false, .str (ByteArray.mk #[]), .bool false, .str (ByteArray.mk #[]), .bool false, .str (ByteArray.mk #[]), .bool false, .str (ByteArray.mk #[]), .bool false, .str (ByteArray.mk #[]), .bool false, .bool false, .bool false, .bool false, .bool false, .bool false] 0 x13l) 12 x15l) fun b17 =>
blk 0 (
loopD (fun vs_1 =>
uI .i64 vs_1 fun x9 r_6 =>
uI .i64 r_6 fun x20 r_7 =>
uA r_7 fun y3 r_8 =>
nl r_8 (
cond (decide (x20 < (x2.len : Int))) (
blk 1 (
ix x2 x20 4 fun x22b x22o =>
ldN x22b x22o 4 fun x23l =>
uI .i64 x23l fun x23c0 r_9 =>
uI .i64 r_9 fun x23c1 r_10 =>
uI .i64 r_10 fun x23c2 r_11 =>
uI .u8 r_11 fun x23c3 r_12 =>
nl r_12 (
cond (x23c0 == 0) (
gd (decide (0 ≤ x23c1)) (gd (decide (x23c1 < (8 : Int))) (
gx y3 (0 + x23c1.toNat * 1) fun v => asI .i64 v fun x32 =>
ret (.norm [I x32, .agg y3])))) (
cond (x23c0 == 1) (
gd (decide (0 ≤ x23c1)) (gd (decide (x23c1 < (8 : Int))) (
gd (decide (0 + x23c1.toNat * 1 < y3.length)) (
ret (.norm [I 0, .agg (List.set y3 (0 + x23c1.toNat * 1) (I x23c2))]))))) (
cond (x23c0 == 2) (
gd (decide (0 ≤ x23c1)) (gd (decide (x23c1 < (6 : Int))) (
ldN b17 (12 + x23c1.toNat * 2) 2 fun x49l =>
uB x49l fun x49c0 r_13 =>
uS r_13 fun x49c1 r_14 =>
nl r_14 (
bnd (f_ref09_At D [.agg [.bool x49c0, .str x49c1], I x23c2]) fun r_15 =>
asI .i64 r_15 fun x52 =>
ret (.norm [I x52, .agg y3]))))) (
cond (x23c0 == 3) (
bnd (f_ref14_Sheet_Write D [.ptr (some (b17, 0)), I x23c1, I x23c2, .int .u8 x23c3]) fun r_16 =>
asB r_16 fun x62 =>
ret (.norm [I 0, .agg y3])) (
cond (x23c0 == 4) (
bnd (f_ref14_Sheet_Create D [.ptr (some (b17, 0)), I x23c1]) fun r_17 =>
asB r_17 fun x68 =>
ret (.norm [I 0, .agg y3])) (
cond (x23c0 == 5) (
bnd (f_ref14_Sheet_Remove D [.ptr (some (b17, 0)), I x23c1]) fun r_18 =>
asB r_18 fun x74 =>
ret (.norm [I 0, .agg y3])) (
cond (x23c0 == 6) (
bnd (f_ref14_Sheet_Rename D [.ptr (some (b17, 0)), I x23c1, I x23c2]) fun r_19 =>
asB r_19 fun x82 =>
ret (.norm [I 0, .agg y3])) (
cond (x23c0 == 7) (
bnd (f_ref14_Sheet_Cut D [.ptr (some (b17, 0)), I x23c1, I x23c2]) fun r_20 =>
asB r_20 fun x90 =>
ret (.norm [I 0, .agg y3])) (
cond (x23c0 == 8) (
gd (decide (0 ≤ x23c1)) (gd (decide (x23c1 < (3 : Int))) (
gx y3 (20 + x23c1.toNat * 1) fun v_1 => asI .i64 v_1 fun x97 =>
gd (decide (0 ≤ x23c1)) (gd (decide (x23c1 < (3 : Int))) (
gx [.str x1c0, .str x1c1, .str x1c2] (0 + x23c1.toNat * 1) fun v_2 => asS v_2 fun x101 =>
cond (decide (x97 < (x101.size : Int))) (
gd (decide (0 ≤ x23c1)) (gd (decide (x23c1 < (3 : Int))) (
gx [.str x1c0, .str x1c1, .str x1c2] (0 + x23c1.toNat * 1) fun v_3 => asS v_3 fun x107 =>
gd (decide (0 ≤ x23c1)) (gd (decide (x23c1 < (3 : Int))) (
gx y3 (20 + x23c1.toNat * 1) fun v_4 => asI .i64 v_4 fun x112 =>
gd (decide (0 ≤ x112)) (gd (decide (x112 < (x107.size : Int))) (
gd (decide (0 ≤ x23c1)) (gd (decide (x23c1 < (3 : Int))) (
gx y3 (20 + x23c1.toNat * 1) fun v_5 => asI .i64 v_5 fun x119 =>
gd (decide (0 ≤ x23c1)) (gd (decide (x23c1 < (3 : Int))) (
gd (decide (20 + x23c1.toNat * 1 < y3.length)) (
ret (.norm [I (wr ((x107.data[x112.toNat]?.getD 0).toNat : Int)), .agg (List.set y3 (20 + x23c1.toNat * 1) (I (wr (x119 + 1))))]))))))))))))) (
ret (.norm [I (-1), .agg y3]))))))) (
ret (.norm [I 0, .agg y3])))))))))))) fun vs_2 =>
uI .i64 vs_2 fun x9_1 r_21 =>
uA r_21 fun y3_1 r_22 =>
nl r_22 (
ret (.norm [I x9_1, I (wr (x20 + 1)), .agg y3_1]))) (
ret (.exit 0 [I x9, .agg y3])))) [I 0, I 0, .agg x0l]) fun vs =>
uI .i64 vs fun x9_2 r_23 =>
uA r_23 fun y3_2 r_24 =>
nl r_24 (
ldN b17 12 12 fun x127l =>
gd (Nat.beq x127l.length 12) (
gd (Nat.ble (8 + x127l.length) y3_2.length) (
gxN (putN y3_2 8 x127l) 0 23 fun x130l =>
gd (Nat.beq x130l.length 23) (
gd (Nat.ble (0 + x130l.length) (([I 0, I 0, I 0, I 0, I 0, I 0, I 0, I 0, .bool false, .str (ByteArray.mk #[]), .bool false, .str (ByteArray.mk #[]), .bool false, .str (ByteArray.mk #[]), .bool false, .str (ByteArray.mk #[]), .bool false, .str (ByteArray.mk #[]), .bool false, .str (ByteArray.mk #[]), I 0, I 0, I 0]) : List HV).length) (
gxN (putN [I 0, I 0, I 0, I 0, I 0, I 0, I 0, I 0, .bool false, .str (ByteArray.mk #[]), .bool false, .str (ByteArray.mk #[]), .bool false, .str (ByteArray.mk #[]), .bool false, .str (ByteArray.mk #[]), .bool false, .str (ByteArray.mk #[]), .bool false, .str (ByteArray.mk #[]), I 0, I 0, I 0] 0 x130l) 0 23 fun z1l =>
ret (.ret [I x9_2, .agg z1l])))))))))))

/-- countermand/countermandref23.Block -/
def f_ref23_Block (D : HV → List HV → M HV) (args : List HV) : M HV :=
fin (
uA args fun x0l r =>
uL r fun x1 r_1 =>
uI .i64 r_1 fun x2 r_2 =>
uA r_2 fun x3l r_3 =>
uI .i64 x3l fun x3c0 r_4 =>
uI .i64 r_4 fun x3c1 r_5 =>
uI .i64 r_5 fun x3c2 r_6 =>
uI .i64 r_6 fun x3c3 r_7 =>
nl r_7 (
nl r_3 (
gxN x0l 0 33 fun x24l =>
gd (Nat.beq x24l.length 33) (gd (Nat.beq (putN (putN (putN [I 0, I 0, I 0, I 0, I 0, I 0, I 0, I 0, .bool false, .str (ByteArray.mk #[]), .bool false, .str (ByteArray.mk #[]), .bool false, .str (ByteArray.mk #[]), .bool false, .str (ByteArray.mk #[]), .bool false, .str (ByteArray.mk #[]), .bool false, .str (ByteArray.mk #[]), I 0, I 0, I 0, .str (ByteArray.mk #[]), .str (ByteArray.mk #[]), .str (ByteArray.mk #[]), .str (ByteArray.mk #[]), .str (ByteArray.mk #[]), .str (ByteArray.mk #[]), I 0, I 0, I 0, I 0, .str (ByteArray.mk #[]), .str (ByteArray.mk #[]), .str (ByteArray.mk #[]), I 0, I 0, I 0, I 0, I 0] 0 x24l) 36 [I x3c0, I x3c1, I x3c2, I x3c3]) 40 [I (wr (x2 + 1))]).length 41) (
gd (Nat.ble (0 + (putN (putN (putN [I 0, I 0, I 0, I 0, I 0, I 0, I 0, I 0, .bool false, .str (ByteArray.mk #[]), .bool false, .str (ByteArray.mk #[]), .bool false, .str (ByteArray.mk #[]), .bool false, .str (ByteArray.mk #[]), .bool false, .str (ByteArray.mk #[]), .bool false, .str (ByteArray.mk #[]), I 0, I 0, I 0, .str (ByteArray.mk #[]), .str (ByteArray.mk #[]), .str (ByteArray.mk #[]), .str (ByteArray.mk #[]), .str (ByteArray.mk #[]), .str (ByteArray.mk #[]), I 0, I 0, I 0, I 0, .str (ByteArray.mk #[]), .str (ByteArray.mk #[]), .str (ByteArray.mk #[]), I 0, I 0, I 0, I 0, I 0] 0 x24l) 36 [I x3c0, I x3c1, I x3c2, I x3c3]) 40 [I (wr (x2 + 1))]).length) (([I 0, I 0, I 0, I 0, I 0, I 0, I 0, I 0, .bool false, .str (ByteArray.mk #[]), .bool false, .str (ByteArray.mk #[]), .bool false, .str (ByteArray.mk #[]), .bool false, .str (ByteArray.mk #[]), .bool false, .str (ByteArray.mk #[]), .bool false, .str (ByteArray.mk #[]), I 0, I 0, I 0, .str (ByteArray.mk #[]), .str (ByteArray.mk #[]), .str (ByteArray.mk #[]), .str (ByteArray.mk #[]), .str (ByteArray.mk #[]), .str (ByteArray.mk #[]), I 0, I 0, I 0, I 0, .str (ByteArray.mk #[]), .str (ByteArray.mk #[]), .str (ByteArray.mk #[]), I 0, I 0, I 0, I 0, I 0]) : List HV).length) (
blk 0 (
loopD (fun vs_1 =>
uL vs_1 fun x13 r_8 =>
uA r_8 fun y12 r_9 =>
nl r_9 (
gx y12 40 fun v => asI .i64 v fun x31 =>
ix x1 x31 4 fun x32b x32o =>
ldC x32b x32o fun v_1 => asI .i64 v_1 fun x34 =>
cond (x34 != 5) (
blk 1 (
gx y12 40 fun v_2 => asI .i64 v_2 fun x38 =>
ix x1 x38 4 fun x39b x39o =>
ldN x39b x39o 4 fun x40l =>
uI .i64 x40l fun x40c0 r_10 =>
uI .i64 r_10 fun x40c1 r_11 =>
uI .i64 r_11 fun x40c2 r_12 =>
uI .i64 r_12 fun x40c3 r_13 =>
nl r_13 (
gx y12 40 fun v_3 => asI .i64 v_3 fun x44 =>
gxN y12 36 4 fun x46l =>
uI .i64 x46l fun x46c0 r_14 =>
uI .i64 r_14 fun x46c1 r_15 =>
uI .i64 r_15 fun x46c2 r_16 =>
uI .i64 r_16 fun x46c3 r_17 =>
nl r_17 (
bnd (f_ref23_Plain D [.agg [I x40c0, I x40c1, I x40c2, I x40c3], I x44, .agg [I x46c0, I x46c1, I x46c2, I x46c3]]) fun r_18 =>
asT r_18 fun x47l => uI .i64 x47l fun x47t0 r_19 =>
uA r_19 fun x47t1l r_20 =>
uI .i64 x47t1l fun x47t1c0 r_21 =>
uI .i64 r_21 fun x47t1c1 r_22 =>
uI .i64 r_22 fun x47t1c2 r_23 =>
uI .i64 r_23 fun x47t1c3 r_24 =>
nl r_24 (
uB r_20 fun x47t2 r_25 =>
nl r_25 (
gxN y12 36 4 fun x54l =>
uI .i64 x54l fun x54c0 r_26 =>
uI .i64 r_26 fun x54c1 r_27 =>
uI .i64 r_27 fun x54c2 r_28 =>
uI .i64 r_28 fun x54c3 r_29 =>
nl r_29 (
bnd (f_ref23_deed D [.agg [I x40c0, I x40c1, I x40c2, I x40c3], .agg [I x54c0, I x54c1, I x54c2, I x54c3]]) fun r_30 =>
asT r_30 fun x55l => uA x55l fun x55t0l r_31 =>
uI .i64 x55t0l fun x55t0c0 r_32 =>
uI .i64 r_32 fun x55t0c1 r_33 =>
uI .i64 r_33 fun x55t0c2 r_34 =>
uI .u8 r_34 fun x55t0c3 r_35 =>
nl r_35 (
uB r_31 fun x55t1 r_36 =>
uB r_36 fun x55t2 r_37 =>
nl r_37 (
blk 2 (
cond x47t2 (
gd (decide (40 < y12.length)) (
gd (Nat.ble (36 + (([I x47t1c0, I x47t1c1, I x47t1c2, I x47t1c3]) : List HV).length) (List.set y12 40 (I x47t0)).length) (
ret (.exit 1 [.sl x13, .agg (putN (List.set y12 40 (I x47t0)) 36 [I x47t1c0, I x47t1c1, I x47t1c2, I x47t1c3])])))) (
cond x55t1 (
gxN y12 0 23 fun x70l =>
gxN y12 23 3 fun x73l =>
uS x73l fun x73c0 r_38 =>
uS r_38 fun x73c1 r_39 =>
uS r_39 fun x73c2 r_40 =>
nl r_40 (
nw [I x55t0c0, I x55t0c1, I x55t0c2, .int .u8 x55t0c3] fun b75 =>
bnd (f_ref20_Do D [.agg x70l, .agg [.str x73c0, .str x73c1, .str x73c2], .sl (⟨some (b75, 0), 1, 1, none⟩)]) fun r_41 =>
asT r_41 fun x76l => uI .i64 x76l fun x76t0 r_42 =>
uA r_42 fun x76t1l r_43 =>
nl r_43 (
gd (Nat.beq x76t1l.length 23) (
gd (Nat.ble (0 + x76t1l.length) y12.length) (
jn (
cond (x40c0 == 14) (
ret (.norm [.bool (decide (x76t0 < 0))])) (
ret (.norm [.bool false]))) fun vs_4 =>
uB vs_4 fun x87 r_44 =>
nl r_44 (
cond x87 (
gxN x0l 0 33 fun x88l =>
gd (Nat.beq x88l.length 33) (
gd (Nat.ble (0 + x88l.length) (([I 0, I 0, I 0, I 0, I 0, I 0, I 0, I 0, .bool false, .str (ByteArray.mk #[]), .bool false, .str (ByteArray.mk #[]), .bool false, .str (ByteArray.mk #[]), .bool false, .str (ByteArray.mk #[]), .bool false, .str (ByteArray.mk #[]), .bool false, .str (ByteArray.mk #[]), I 0, I 0, I 0, .str (ByteArray.mk #[]), .str (ByteArray.mk #[]), .str (ByteArray.mk #[]), .str (ByteArray.mk #[]), .str (ByteArray.mk #[]), .str (ByteArray.mk #[]), I 0, I 0, I 0, I 0]) : List HV).length) (
gxN (putN [I 0, I 0, I 0, I 0, I 0, I 0, I 0, I 0, .bool false, .str (ByteArray.mk #[]), .bool false, .str (ByteArray.mk #[]), .bool false, .str (ByteArray.mk #[]), .bool false, .str (ByteArray.mk #[]), .bool false, .str (ByteArray.mk #[]), .bool false, .str (ByteArray.mk #[]), I 0, I 0, I 0, .str (ByteArray.mk #[]), .str (ByteArray.mk #[]), .str (ByteArray.mk #[]), .str (ByteArray.mk #[]), .str (ByteArray.mk #[]), .str (ByteArray.mk #[]), I 0, I 0, I 0, I 0] 0 x88l) 0 33 fun z0l =>
ret (.ret [.agg z0l, I x2, .agg [I x3c0, I x3c1, I x3c2, I x3c3], .bool false])))) (
cond x55t2 (
gd (decide (0 ≤ x40c1)) (gd (decide (x40c1 < (4 : Int))) (
gd (decide (36 + x40c1.toNat * 1 < (putN y12 0 x76t1l).length)) (
ret (.norm [.sl x13, .agg (List.set (putN y12 0 x76t1l) (36 + x40c1.toNat * 1) (I x76t0))]))))) (
ret (.norm [.sl x13, .agg (putN y12 0 x76t1l)]))))))))) (
cond (x40c0 == 15) (
gd (decide (0 ≤ x40c1)) (gd (decide (x40c1 < (3 : Int))) (
gx y12 (26 + x40c1.toNat * 1) fun v_4 => asS v_4 fun x108 =>
gd (decide (0 ≤ x40c2)) (gd (decide (x40c2 < (4 : Int))) (
gx y12 (36 + x40c2.toNat * 1) fun v_5 => asI .i64 v_5 fun x113 =>
gd (decide (x108.size + (strB [IntKind.wrap .u8 x113]).size ≤ 9223372036854775807)) (
gd (decide (0 ≤ x40c1)) (gd (decide (x40c1 < (3 : Int))) (
gd (decide (26 + x40c1.toNat * 1 < y12.length)) (
ret (.norm [.sl x13, .agg (List.set y12 (26 + x40c1.toNat * 1) (.str (x108 ++ (strB [IntKind.wrap .u8 x113]))))])))))))))) (
cond (x40c0 == 16) (
gd (decide (0 ≤ x40c1)) (gd (decide (x40c1 < (3 : Int))) (
gx y12 (33 + x40c1.toNat * 1) fun v_6 => asS v_6 fun x131 =>
gd (decide (x131.size + (strB [IntKind.wrap .u8 x40c2]).size ≤ 9223372036854775807)) (
gd (decide (0 ≤ x40c1)) (gd (decide (x40c1 < (3 : Int))) (
gd (decide (33 + x40c1.toNat * 1 < y12.length)) (
ret (.norm [.sl x13, .agg (List.set y12 (33 + x40c1.toNat * 1) (.str (x131 ++ (strB [IntKind.wrap .u8 x40c2]))))])))))))) (
cond (x40c0 == 18) (
gd (decide (0 ≤ x40c1)) (gd (decide (x40c1 < (4 : Int))) (
gx y12 (29 + x40c1.toNat * 1) fun v_7 => asI .i64 v_7 fun x151 =>
bnd (f_ref23_sum D [I x151, I x40c2]) fun r_45 =>
asI .i64 r_45 fun x154 =>
gd (decide (0 ≤ x40c1)) (gd (decide (x40c1 < (4 : Int))) (
gd (decide (29 + x40c1.toNat * 1 < y12.length)) (
ret (.norm [.sl x13, .agg (List.set y12 (29 + x40c1.toNat * 1) (I x154))]))))))) (
cond (x40c0 == 20) (
gxN y12 0 41 fun x162l =>
gd (Nat.beq x162l.length 41) (
gd (Nat.ble (0 + x162l.length) (([I 0, I 0, I 0, I 0, I 0, I 0, I 0, I 0, .bool false, .str (ByteArray.mk #[]), .bool false, .str (ByteArray.mk #[]), .bool false, .str (ByteArray.mk #[]), .bool false, .str (ByteArray.mk #[]), .bool false, .str (ByteArray.mk #[]), .bool false, .str (ByteArray.mk #[]), I 0, I 0, I 0, .str (ByteArray.mk #[]), .str (ByteArray.mk #[]), .str (ByteArray.mk #[]), .str (ByteArray.mk #[]), .str (ByteArray.mk #[]), .str (ByteArray.mk #[]), I 0, I 0, I 0, I 0, .str (ByteArray.mk #[]), .str (ByteArray.mk #[]), .str (ByteArray.mk #[]), I 0, I 0, I 0, I 0, I 0]) : List HV).length) (
gd (decide (40 < (putN [I 0, I 0, I 0, I 0, I 0, I 0, I 0, I 0, .bool false, .str (ByteArray.mk #[]), .bool false, .str (ByteArray.mk #[]), .bool false, .str (ByteArray.mk #[]), .bool false, .str (ByteArray.mk #[]), .bool false, .str (ByteArray.mk #[]), .bool false, .str (ByteArray.mk #[]), I 0, I 0, I 0, .str (ByteArray.mk #[]), .str (ByteArray.mk #[]), .str (ByteArray.mk #[]), .str (ByteArray.mk #[]), .str (ByteArray.mk #[]), .str (ByteArray.mk #[]), I 0, I 0, I 0, I 0, .str (ByteArray.mk #[]), .str (ByteArray.mk #[]), .str (ByteArray.mk #[]), I 0, I 0, I 0, I 0, I 0] 0 x162l).length)) (
gxN (List.set (putN [I 0, I 0, I 0, I 0, I 0, I 0, I 0, I 0, .bool false, .str (ByteArray.mk #[]), .bool false, .str (ByteArray.mk #[]), .bool false, .str (ByteArray.mk #[]), .bool false, .str (ByteArray.mk #[]), .bool false, .str (ByteArray.mk #[]), .bool false, .str (ByteArray.mk #[]), I 0, I 0, I 0, .str (ByteArray.mk #[]), .str (ByteArray.mk #[]), .str (ByteArray.mk #[]), .str (ByteArray.mk #[]), .str (ByteArray.mk #[]), .str (ByteArray.mk #[]), I 0, I 0, I 0, I 0, .str (ByteArray.mk #[]), .str (ByteArray.mk #[]), .str (ByteArray.mk #[]), I 0, I 0, I 0, I 0, I 0] 0 x162l) 40 (I x40c1)) 0 41 fun x167l =>
gd (Nat.beq x167l.length 41) (apd x13 41 448 1 (putN [I 0, I 0, I 0, I 0, I 0, I 0, I 0, I 0, .bool false, .str (ByteArray.mk #[]), .bool false, .str (ByteArray.mk #[]), .bool false, .str (ByteArray.mk #[]), .bool false, .str (ByteArray.mk #[]), .bool false, .str (ByteArray.mk #[]), .bool false, .str (ByteArray.mk #[]), I 0, I 0, I 0, .str (ByteArray.mk #[]), .str (ByteArray.mk #[]), .str (ByteArray.mk #[]), .str (ByteArray.mk #[]), .str (ByteArray.mk #[]), .str (ByteArray.mk #[]), I 0, I 0, I 0, I 0, .str (ByteArray.mk #[]), .str (ByteArray.mk #[]), .str (ByteArray.mk #[]), I 0, I 0, I 0, I 0, I 0] 0 x167l) fun x169 =>
ret (.norm [.sl x169, .agg y12])))))) (
cond (x40c0 == 19) (
cond ((x13.len : Int) == 0) (
gxN x0l 0 33 fun x177l =>
gd (Nat.beq x177l.length 33) (
gd (Nat.ble (0 + x177l.length) (([I 0, I 0, I 0, I 0, I 0, I 0, I 0, I 0, .bool false, .str (ByteArray.mk #[]), .bool false, .str (ByteArray.mk #[]), .bool false, .str (ByteArray.mk #[]), .bool false, .str (ByteArray.mk #[]), .bool false, .str (ByteArray.mk #[]), .bool false, .str (ByteArray.mk #[]), I 0, I 0, I 0, .str (ByteArray.mk #[]), .str (ByteArray.mk #[]), .str (ByteArray.mk #[]), .str (ByteArray.mk #[]), .str (ByteArray.mk #[]), .str (ByteArray.mk #[]), I 0, I 0, I 0, I 0]) : List HV).length) (
gxN (putN [I 0, I 0, I 0, I 0, I 0, I 0, I 0, I 0, .bool false, .str (ByteArray.mk #[]), .bool false, .str (ByteArray.mk #[]), .bool false, .str (ByteArray.mk #[]), .bool false, .str (ByteArray.mk #[]), .bool false, .str (ByteArray.mk #[]), .bool false, .str (ByteArray.mk #[]), I 0, I 0, I 0, .str (ByteArray.mk #[]), .str (ByteArray.mk #[]), .str (ByteArray.mk #[]), .str (ByteArray.mk #[]), .str (ByteArray.mk #[]), .str (ByteArray.mk #[]), I 0, I 0, I 0, I 0] 0 x177l) 0 33 fun z0l_1 =>
ret (.ret [.agg z0l_1, I x2, .agg [I x3c0, I x3c1, I x3c2, I x3c3], .bool false])))) (
ix x13 (wr ((x13.len : Int) - 1)) 41 fun x184b x184o =>
ldN x184b x184o 41 fun x185l =>
gd (Nat.beq x185l.length 41) (
gd (Nat.ble (0 + x185l.length) y12.length) (
gd (decide (0 ≤ 0)) (gd (decide (0 ≤ wr ((x13.len : Int) - 1))) (gd (decide (wr ((x13.len : Int) - 1) ≤ (x13.cap : Int))) (gd (decide ((x13.cap : Int) ≤ (x13.cap : Int))) (gd (slOk x13.opn 41 (decide (0 < (x13.cap : Int)))) (
ret (.exit 1 [.sl (⟨bif decide ((x13.cap : Int) = 0) then x13.p else x13.p.map (fun q => (q.1, q.2 + (0 : Int).toNat * 41)), (wr ((x13.len : Int) - 1) - 0 : Int).toNat, ((x13.cap : Int) - 0 : Int).toNat, x13.opn⟩), .agg (putN y12 0 x185l)])))))))))) (
cond (x40c0 == 21) (
ret (.norm [.sl (⟨none, 0, 0, none⟩), .agg y12])) (
ret (.norm [.sl x13, .agg y12])))))))))) fun vs_3 =>
uL vs_3 fun x13_1 r_46 =>
uA r_46 fun y12_1 r_47 =>
nl r_47 (
gx y12_1 40 fun v_8 => asI .i64 v_8 fun x196 =>
gd (decide (40 < y12_1.length)) (
ret (.norm [.sl x13_1, .agg (List.set y12_1 40 (I (wr (x196 + 1))))]))))))))))) fun vs_2 =>
uL vs_2 fun x13_2 r_48 =>
uA r_48 fun y12_2 r_49 =>
nl r_49 (
ret (.norm [.sl x13_2, .agg y12_2]))) (
ret (.exit 0 [.agg y12])))) [.sl (⟨none, 0, 0, none⟩), .agg (putN [I 0, I 0, I 0, I 0, I 0, I 0, I 0, I 0, .bool false, .str (ByteArray.mk #[]), .bool false, .str (ByteArray.mk #[]), .bool false, .str (ByteArray.mk #[]), .bool false, .str (ByteArray.mk #[]), .bool false, .str (ByteArray.mk #[]), .bool false, .str (ByteArray.mk #[]), I 0, I 0, I 0, .str (ByteArray.mk #[]), .str (ByteArray.mk #[]), .str (ByteArray.mk #[]), .str (ByteArray.mk #[]), .str (ByteArray.mk #[]), .str (ByteArray.mk #[]), I 0, I 0, I 0, I 0, .str (ByteArray.mk #[]), .str (ByteArray.mk #[]), .str (ByteArray.mk #[]), I 0, I 0, I 0, I 0, I 0] 0 (putN (putN (putN [I 0, I 0, I 0, I 0, I 0, I 0, I 0, I 0, .bool false, .str (ByteArray.mk #[]), .bool false, .str (ByteArray.mk #[]), .bool false, .str (ByteArray.mk #[]), .bool false, .str (ByteArray.mk #[]), .bool false, .str (ByteArray.mk #[]), .bool false, .str (ByteArray.mk #[]), I 0, I 0, I 0, .str (ByteArray.mk #[]), .str (ByteArray.mk #[]), .str (ByteArray.mk #[]), .str (ByteArray.mk #[]), .str (ByteArray.mk #[]), .str (ByteArray.mk #[]), I 0, I 0, I 0, I 0, .str (ByteArray.mk #[]), .str (ByteArray.mk #[]), .str (ByteArray.mk #[]), I 0, I 0, I 0, I 0, I 0] 0 x24l) 36 [I x3c0, I x3c1, I x3c2, I x3c3]) 40 [I (wr (x2 + 1))]))]) fun vs =>
uA vs fun y12_3 r_50 =>
nl r_50 (
blk 3 (
loopD (fun vs_6 =>
uI .i64 vs_6 fun x199 r_51 =>
uA r_51 fun y12_4 r_52 =>
nl r_52 (
cond (decide (x199 < 3)) (
gd (decide (0 ≤ x199)) (gd (decide (x199 < (3 : Int))) (
gx y12_4 (26 + x199.toNat * 1) fun v_9 => asS v_9 fun x207 =>
gd (decide (0 ≤ x199)) (gd (decide (x199 < (3 : Int))) (
gx y12_4 (33 + x199.toNat * 1) fun v_10 => asS v_10 fun x211 =>
gd (decide (x207.size + x211.size ≤ 9223372036854775807)) (
gd (decide (0 ≤ x199)) (gd (decide (x199 < (3 : Int))) (
gd (decide (26 + x199.toNat * 1 < y12_4.length)) (
ret (.norm [I (wr (x199 + 1)), .agg (List.set y12_4 (26 + x199.toNat * 1) (.str (x207 ++ x211)))])))))))))) (
ret (.exit 3 [.agg y12_4])))) [I 0, .agg y12_3]) fun vs_5 =>
uA vs_5 fun y12_5 r_53 =>
nl r_53 (
gxN y12_5 0 33 fun x218l =>
gx y12_5 40 fun v_11 => asI .i64 v_11 fun x220 =>
gxN y12_5 36 4 fun x223l =>
uI .i64 x223l fun x223c0 r_54 =>
uI .i64 r_54 fun x223c1 r_55 =>
uI .i64 r_55 fun x223c2 r_56 =>
uI .i64 r_56 fun x223c3 r_57 =>
nl r_57 (
gd (Nat.beq x218l.length 33) (
gd (Nat.ble (0 + x218l.length) (([I 0, I 0, I 0, I 0, I 0, I 0, I 0, I 0, .bool false, .str (ByteArray.mk #[]), .bool false, .str (ByteArray.mk #[]), .bool false, .str (ByteArray.mk #[]), .bool false, .str (ByteArray.mk #[]), .bool false, .str (ByteArray.mk #[]), .bool false, .str (ByteArray.mk #[]), I 0, I 0, I 0, .str (ByteArray.mk #[]), .str (ByteArray.mk #[]), .str (ByteArray.mk #[]), .str (ByteArray.mk #[]), .str (ByteArray.mk #[]), .str (ByteArray.mk #[]), I 0, I 0, I 0, I 0]) : List HV).length) (
gxN (putN [I 0, I 0, I 0, I 0, I 0, I 0, I 0, I 0, .bool false, .str (ByteArray.mk #[]), .bool false, .str (ByteArray.mk #[]), .bool false, .str (ByteArray.mk #[]), .bool false, .str (ByteArray.mk #[]), .bool false, .str (ByteArray.mk #[]), .bool false, .str (ByteArray.mk #[]), I 0, I 0, I 0, .str (ByteArray.mk #[]), .str (ByteArray.mk #[]), .str (ByteArray.mk #[]), .str (ByteArray.mk #[]), .str (ByteArray.mk #[]), .str (ByteArray.mk #[]), I 0, I 0, I 0, I 0] 0 x218l) 0 33 fun z0l_2 =>
ret (.ret [.agg z0l_2, I (wr (x220 + 1)), .agg [I x223c0, I x223c1, I x223c2, I x223c3], .bool true]))))))))))))

/-- countermand/scope.end -/
def f_scope_end (D : HV → List HV → M HV) (args : List HV) : M HV :=
fin (
uL args fun x0 r =>
uI .i64 r fun x1 r_1 =>
nl r_1 (
blk 0 (
loopD (fun vs_1 =>
uI .i64 vs_1 fun x1_1 r_2 =>
nl r_2 (
ix x0 x1_1 4 fun x7b x7o =>
ldC x7b x7o fun v => asI .i64 v fun x9 =>
cond (x9 != 5) (
ret (.norm [I (wr (x1_1 + 1))])) (
ret (.exit 0 [I x1_1])))) [I x1]) fun vs =>
uI .i64 vs fun x1_2 r_3 =>
nl r_3 (
ret (.ret [I x1_2]))))

/-- (countermand/scope.Things).with -/
def f_scope_Things_with (D : HV → List HV → M HV) (args : List HV) : M HV :=
fin (
uA args fun x0l r =>
uI .u8 x0l fun x0c0 r_1 =>
uI .u8 r_1 fun x0c1 r_2 =>
uI .u8 r_2 fun x0c2 r_3 =>
nl r_3 (
uI .i64 r fun x1 r_4 =>
uI .i64 r_4 fun x2 r_5 =>
nl r_5 (
gd (decide (0 ≤ x1)) (gd (decide (x1 < (3 : Int))) (
gx [.int .u8 x0c0, .int .u8 x0c1, .int .u8 x0c2] (0 + x1.toNat * 1) fun v => asI .u8 v fun x9 =>
gd (decide (0 ≤ x2)) (
gd (decide (0 ≤ x1)) (gd (decide (x1 < (3 : Int))) (
gd (decide (0 + x1.toNat * 1 < (([.int .u8 x0c0, .int .u8 x0c1, .int .u8 x0c2]) : List HV).length)) (
gxN (List.set ([.int .u8 x0c0, .int .u8 x0c1, .int .u8 x0c2]) (0 + x1.toNat * 1) (.int .u8 (IntKind.wrap .u8 ((BitVec.ofInt 8 x9 ||| BitVec.ofInt 8 (IntKind.wrap .u8 (1 * 2 ^ (min x2.toNat 8)))).toNat : Int)))) 0 3 fun x14l =>
uI .u8 x14l fun x14c0 r_6 =>
uI .u8 r_6 fun x14c1 r_7 =>
uI .u8 r_7 fun x14c2 r_8 =>
nl r_8 (
ret (.ret [.agg [.int .u8 x14c0, .int .u8 x14c1, .int .u8 x14c2]])))))))))))

/-- (*countermand/scope.Scope).read -/
def f_scope_Scope_read (D : HV → List HV → M HV) (args : List HV) : M HV :=
fin (
uP args fun x0 r =>
uI .i64 r fun x1 r_1 =>
uI .i64 r_1 fun x2 r_2 =>
nl r_2 (
mP x0 fun x8b x8o =>
ldN x8b x8o 3 fun x10l =>
uI .u8 x10l fun x10c0 r_3 =>
uI .u8 r_3 fun x10c1 r_4 =>
uI .u8 r_4 fun x10c2 r_5 =>
nl r_5 (
bnd (f_scope_Things_with D [.agg [.int .u8 x10c0, .int .u8 x10c1, .int .u8 x10c2], I x1, I x2]) fun r_6 =>
asA r_6 fun x13l => uI .u8 x13l fun x13c0 r_7 =>
uI .u8 r_7 fun x13c1 r_8 =>
uI .u8 r_8 fun x13c2 r_9 =>
nl r_9 (
mP x0 fun x14b x14o =>
stN x14b x14o [.int .u8 x13c0, .int .u8 x13c1, .int .u8 x13c2] (
ret (.ret []))))))

/-- (*countermand/scope.Scope).both -/
def f_scope_Scope_both (D : HV → List HV → M HV) (args : List HV) : M HV :=
fin (
uP args fun x0 r =>
uI .i64 r fun x1 r_1 =>
uI .i64 r_1 fun x2 r_2 =>
nl r_2 (
bnd (f_scope_Scope_read D [.ptr x0, I x1, I x2]) fun r_3 =>
asT r_3 fun x9l => nl x9l (
mP x0 fun x12b x12o =>
ldN x12b (x12o + 3) 3 fun x14l =>
uI .u8 x14l fun x14c0 r_4 =>
uI .u8 r_4 fun x14c1 r_5 =>
uI .u8 r_5 fun x14c2 r_6 =>
nl r_6 (
bnd (f_scope_Things_with D [.agg [.int .u8 x14c0, .int .u8 x14c1, .int .u8 x14c2], I x1, I x2]) fun r_7 =>
asA r_7 fun x17l => uI .u8 x17l fun x17c0 r_8 =>
uI .u8 r_8 fun x17c1 r_9 =>
uI .u8 r_9 fun x17c2 r_10 =>
nl r_10 (
mP x0 fun x18b x18o =>
stN x18b (x18o + 3) [.int .u8 x17c0, .int .u8 x17c1, .int .u8 x17c2] (
ret (.ret [])))))))

/-- (*countermand/scope.Scope).take -/
def f_scope_Scope_take (D : HV → List HV → M HV) (args : List HV) : M HV :=
fin (
uP args fun x0 r =>
uA r fun x1l r_1 =>
uI .i64 x1l fun x1c0 r_2 =>
uI .i64 r_2 fun x1c1 r_3 =>
uI .i64 r_3 fun x1c2 r_4 =>
uI .i64 r_4 fun x1c3 r_5 =>
nl r_5 (
nl r_1 (
cond (x1c0 == 6) (
bnd (f_scope_Scope_read D [.ptr x0, I 0, I x1c2]) fun r_6 =>
asT r_6 fun x11l => nl x11l (
ret (.ret []))) (
cond (x1c0 == 7) (
mP x0 fun x16b x16o =>
ldN x16b (x16o + 3) 3 fun x18l =>
uI .u8 x18l fun x18c0 r_7 =>
uI .u8 r_7 fun x18c1 r_8 =>
uI .u8 r_8 fun x18c2 r_9 =>
nl r_9 (
bnd (f_scope_Things_with D [.agg [.int .u8 x18c0, .int .u8 x18c1, .int .u8 x18c2], I 0, I x1c1]) fun r_10 =>
asA r_10 fun x21l => uI .u8 x21l fun x21c0 r_11 =>
uI .u8 r_11 fun x21c1 r_12 =>
uI .u8 r_12 fun x21c2 r_13 =>
nl r_13 (
mP x0 fun x22b x22o =>
stN x22b (x22o + 3) [.int .u8 x21c0, .int .u8 x21c1, .int .u8 x21c2] (
ret (.ret []))))) (
cond (x1c0 == 8) (
bnd (f_scope_Scope_read D [.ptr x0, I 1, I x1c2]) fun r_14 =>
asT r_14 fun x29l => nl x29l (
ret (.ret []))) (
jn (
cond (x1c0 == 9) (
ret (.norm [.bool (x1c0 == 9)])) (
cond (x1c0 == 13) (
ret (.norm [.bool (x1c0 == 13)])) (
cond (x1c0 == 10) (
ret (.norm [.bool (x1c0 == 10)])) (
ret (.norm [.bool (x1c0 == 11)]))))) fun vs =>
uB vs fun x30 r_15 =>
nl r_15 (
cond x30 (
bnd (f_scope_Scope_both D [.ptr x0, I 1, I x1c1]) fun r_16 =>
asT r_16 fun x38l => nl x38l (
ret (.ret []))) (
cond (x1c0 == 12) (
bnd (f_scope_Scope_both D [.ptr x0, I 1, I x1c1]) fun r_17 =>
asT r_17 fun x44l => nl x44l (
bnd (f_scope_Scope_both D [.ptr x0, I 1, I x1c2]) fun r_18 =>
asT r_18 fun x48l => nl x48l (
ret (.ret [])))) (
cond (x1c0 == 14) (
bnd (f_scope_Scope_both D [.ptr x0, I 2, I x1c2]) fun r_19 =>
asT r_19 fun x54l => nl x54l (
mP x0 fun x56b x56o =>
stC x56b (x56o + 14) (.bool true) (
ret (.ret [])))) (
cond (x1c0 == 19) (
mP x0 fun x61b x61o =>
stC x61b (x61o + 14) (.bool true) (
ret (.ret []))) (
jn (
cond (x1c0 == 15) (
ret (.norm [.bool (x1c0 == 15)])) (
ret (.norm [.bool (x1c0 == 16)]))) fun vs_1 =>
uB vs_1 fun x63 r_20 =>
nl r_20 (
cond x63 (
mP x0 fun x69b x69o =>
gd (decide (0 ≤ x1c1)) (gd (decide (x1c1 < (3 : Int))) (
stC x69b (x69o + 6 + x1c1.toNat * 1) (.bool true) (
ret (.ret []))))) (
cond (x1c0 == 18) (
mP x0 fun x77b x77o =>
gd (decide (0 ≤ x1c1)) (gd (decide (x1c1 < (4 : Int))) (
stC x77b (x77o + 9 + x1c1.toNat * 1) (.bool true) (
ret (.ret []))))) (
cond (x1c0 == 21) (
mP x0 fun x83b x83o =>
stC x83b (x83o + 13) (.bool true) (
ret (.ret []))) (
ret (.ret []))))))))))))))))

/-- countermand/scope.Of -/
def f_scope_Of (D : HV → List HV → M HV) (args : List HV) : M HV :=
fin (
uL args fun x0 r =>
uI .i64 r fun x1 r_1 =>
nl r_1 (
nw [.sl x0] fun b2 =>
nw [.int .u8 0, .int .u8 0, .int .u8 0, .int .u8 0, .int .u8 0, .int .u8 0, .bool false, .bool false, .bool false, .bool false, .bool false, .bool false, .bool false, .bool false, .bool false] fun b6 =>
jn (
cond (decide (x1 < 0)) (
ret (.norm [.bool true])) (
ldC b2 0 fun v => asSl v fun x13 =>
cond (decide (x1 ≥ (x13.len : Int))) (
ret (.norm [.bool true])) (
ldC b2 0 fun v_1 => asSl v_1 fun x18 =>
ix x18 x1 4 fun x20b x20o =>
ldC x20b x20o fun v_2 => asI .i64 v_2 fun x22 =>
cond (x22 != 4) (
ret (.norm [.bool true])) (
ldC b2 0 fun v_3 => asSl v_3 fun x26 =>
bnd (f_bound_Reach D [.sl x26]) fun r_2 =>
asSl r_2 fun x27 =>
ret (.norm [.bool ((x27.len : Int) == 0)]))))) fun vs =>
uB vs fun x30 r_3 =>
nl r_3 (
cond x30 (
ldN b6 0 15 fun x31l =>
gd (Nat.beq x31l.length 15) (
gd (Nat.ble (0 + x31l.length) (([.int .u8 0, .int .u8 0, .int .u8 0, .int .u8 0, .int .u8 0, .int .u8 0, .bool false, .bool false, .bool false, .bool false, .bool false, .bool false, .bool false, .bool false, .bool false]) : List HV).length) (
gxN (putN [.int .u8 0, .int .u8 0, .int .u8 0, .int .u8 0, .int .u8 0, .int .u8 0, .bool false, .bool false, .bool false, .bool false, .bool false, .bool false, .bool false, .bool false, .bool false] 0 x31l) 0 15 fun z0l =>
ret (.ret [.agg z0l, .bool false])))) (
ldC b2 0 fun v_4 => asSl v_4 fun x32 =>
bnd (f_scope_end D [.sl x32, I x1]) fun r_4 =>
asI .i64 r_4 fun x34 =>
nw [I 0] fun b7 =>
stC b7 0 (I x34) (
ldC b2 0 fun v_5 => asSl v_5 fun x35 =>
bnd (f_bound_From D [.sl x35, I x1]) fun r_5 =>
blk 0 (
ny r_5 (nwL 82468377 [(2, .ptr (some (b2, 0))), (6, .ptr (some (b6, 0))), (7, .ptr (some (b7, 0)))] fun l =>
bnd (D r_5 [.yld l]) fun q =>
endL l (
ret (.norm []))
(onX 0 (ret (.exit 0 [])) noX) (
ret (.ret [.agg [.int .u8 0, .int .u8 0, .int .u8 0, .int .u8 0, .int .u8 0, .int .u8 0, .bool false, .bool false, .bool false, .bool false, .bool false, .bool false, .bool false, .bool false, .bool false], .bool false])))) fun vs_1 =>
nl vs_1 (
ldN b6 0 15 fun x47l =>
gd (Nat.beq x47l.length 15) (
gd (Nat.ble (0 + x47l.length) (([.int .u8 0, .int .u8 0, .int .u8 0, .int .u8 0, .int .u8 0, .int .u8 0, .bool false, .bool false, .bool false, .bool false, .bool false, .bool false, .bool false, .bool false, .bool false]) : List HV).length) (
gxN (putN [.int .u8 0, .int .u8 0, .int .u8 0, .int .u8 0, .int .u8 0, .int .u8 0, .bool false, .bool false, .bool false, .bool false, .bool false, .bool false, .bool false, .bool false, .bool false] 0 x47l) 0 15 fun z0l_1 =>
ret (.ret [.agg z0l_1, .bool true])))))))))

/-- a round of countermand/scope.Of -/
def r0_scope_Of (D : HV → List HV → M HV) (l : Nat) (vs : List (Nat × HV)) (args : List HV) : M Leaf :=
gdS [2, 6, 7] vs fun vs' =>
uP vs' fun x2 r =>
uP r fun x6 r_1 =>
uP r_1 fun x7 r_2 =>
nl r_2 (
uI .i64 args fun x38 r_3 =>
nl r_3 (
busyL l (
mP x7 fun x40b x40o =>
ldC x40b x40o fun v => asI .i64 v fun x40 =>
cond (decide (x38 ≥ x40)) (
ret (.exit 0 [])) (
mP x2 fun x42b x42o =>
ldC x42b x42o fun v_1 => asSl v_1 fun x42 =>
ix x42 x38 4 fun x44b x44o =>
ldN x44b x44o 4 fun x45l =>
uI .i64 x45l fun x45c0 r_4 =>
uI .i64 r_4 fun x45c1 r_5 =>
uI .i64 r_5 fun x45c2 r_6 =>
uI .i64 r_6 fun x45c3 r_7 =>
nl r_7 (
bnd (f_scope_Scope_take D [.ptr x6, .agg [I x45c0, I x45c1, I x45c2, I x45c3]]) fun r_8 =>
asT r_8 fun x46l => nl x46l (
ret (.norm [])))))))

/-- countermand/scope.All$1 -/
def f_scope_All_1 (D : HV → List HV → M HV) (args : List HV) : M HV :=
fin (
uc args fun x0 r =>
uP r fun x1 r_1 =>
nl r_1 (
mP x1 fun x6b x6o =>
ldC x6b x6o fun v => asSl v fun x6 =>
blk 0 (
loopD (fun vs_1 =>
uI .i64 vs_1 fun x8 r_2 =>
nl r_2 (
cond (decide (x8 < (x6.len : Int))) (
mP x1 fun x12b x12o =>
ldC x12b x12o fun v_1 => asSl v_1 fun x12 =>
bnd (f_scope_Of D [.sl x12, I x8]) fun r_3 =>
asT r_3 fun x14l => uA x14l fun x14t0l r_4 =>
uB r_4 fun x14t1 r_5 =>
nl r_5 (
gd (Nat.beq x14t0l.length 15) (
gd (Nat.ble (0 + x14t0l.length) (([.int .u8 0, .int .u8 0, .int .u8 0, .int .u8 0, .int .u8 0, .int .u8 0, .bool false, .bool false, .bool false, .bool false, .bool false, .bool false, .bool false, .bool false, .bool false]) : List HV).length) (
jn (
cond x14t1 (
gxN (putN [.int .u8 0, .int .u8 0, .int .u8 0, .int .u8 0, .int .u8 0, .int .u8 0, .bool false, .bool false, .bool false, .bool false, .bool false, .bool false, .bool false, .bool false, .bool false] 0 x14t0l) 0 15 fun x21l =>
bnd (D x0 [I x8, .agg x21l]) fun r_6 =>
asB r_6 fun x22 =>
ret (.norm [.bool (!x22)])) (
ret (.norm [.bool false]))) fun vs_2 =>
uB vs_2 fun x24 r_7 =>
nl r_7 (
cond x24 (
ret (.ret [])) (
ret (.norm [I (wr (x8 + 1))]))))))) (
ret (.exit 0 [])))) [I 0]) fun vs =>
nl vs (
ret (.ret []))))

/-- countermand/scope.All -/
def f_scope_All (D : HV → List HV → M HV) (args : List HV) : M HV :=
fin (
uL args fun x0 r =>
nl r (
nw [.sl x0] fun b1 =>
ret (.ret [.func n_scope_All_1 [] [.ptr (some (b1, 0))]])))

/-- countermand/scope.good -/
def f_scope_good (D : HV → List HV → M HV) (args : List HV) : M HV :=
fin (
uI .i64 args fun x0 r =>
uI .i64 r fun x1 r_1 =>
nl r_1 (
jn (
cond (decide (x0 ≥ 0)) (
cond (decide (x0 ≤ 2)) (
cond (decide (x1 ≥ 0)) (
ret (.norm [.bool (decide (x1 < 8))])) (
ret (.norm [.bool false]))) (
ret (.norm [.bool false]))) (
ret (.norm [.bool false]))) fun vs =>
uB vs fun x4 r_2 =>
nl r_2 (
ret (.ret [.bool x4]))))

/-- (countermand/scope.Things).Has -/
def f_scope_Things_Has (D : HV → List HV → M HV) (args : List HV) : M HV :=
fin (
uA args fun x0l r =>
uI .u8 x0l fun x0c0 r_1 =>
uI .u8 r_1 fun x0c1 r_2 =>
uI .u8 r_2 fun x0c2 r_3 =>
nl r_3 (
uI .i64 r fun x1 r_4 =>
uI .i64 r_4 fun x2 r_5 =>
nl r_5 (
jn (
bnd (f_scope_good D [I x1, I x2]) fun r_6 =>
asB r_6 fun x9 =>
cond x9 (
gd (decide (0 ≤ x1)) (gd (decide (x1 < (3 : Int))) (
gx [.int .u8 x0c0, .int .u8 x0c1, .int .u8 x0c2] (0 + x1.toNat * 1) fun v => asI .u8 v fun x13 =>
gd (decide (0 ≤ x2)) (
ret (.norm [.bool ((IntKind.wrap .u8 ((BitVec.ofInt 8 (Int.fdiv x13 (2 ^ (min x2.toNat 8))) &&& BitVec.ofInt 8 1).toNat : Int)) == 1)]))))) (
ret (.norm [.bool false]))) fun vs =>
uB vs fun x6 r_7 =>
nl r_7 (
ret (.ret [.bool x6])))))

/-- countermand/countermandlaw28.alive -/
def f_law28_alive (D : HV → List HV → M HV) (args : List HV) : M HV :=
fin (
nl args (
nw [I 4, I 0, I 0, I 0, I 6, I 0, I 2, I 0, I 7, I 1, I 0, I 0, I 5, I 0, I 0, I 0] fun b8 =>
bnd (f_scope_Of D [.sl (⟨some (b8, 0), 4, 4, none⟩), I 0]) fun r =>
asT r fun x9l => uA x9l fun x9t0l r_1 =>
uB r_1 fun x9t1 r_2 =>
nl r_2 (
gd (Nat.beq x9t0l.length 15) (
gd (Nat.ble (0 + x9t0l.length) (([.int .u8 0, .int .u8 0, .int .u8 0, .int .u8 0, .int .u8 0, .int .u8 0, .bool false, .bool false, .bool false, .bool false, .bool false, .bool false, .bool false, .bool false, .bool false]) : List HV).length) (
jn (
cond x9t1 (
gxN (putN [.int .u8 0, .int .u8 0, .int .u8 0, .int .u8 0, .int .u8 0, .int .u8 0, .bool false, .bool false, .bool false, .bool false, .bool false, .bool false, .bool false, .bool false, .bool false] 0 x9t0l) 0 15 fun x14l =>
eqM [(.ki .u8), (.ki .u8), (.ki .u8), (.ki .u8), (.ki .u8), (.ki .u8), .kb, .kb, .kb, .kb, .kb, .kb, .kb, .kb, .kb] x14l [.int .u8 4, .int .u8 0, .int .u8 0, .int .u8 2, .int .u8 0, .int .u8 0, .bool false, .bool false, .bool false, .bool false, .bool false, .bool false, .bool false, .bool false, .bool false] fun x18e =>
cond x18e (
gxN (putN [.int .u8 0, .int .u8 0, .int .u8 0, .int .u8 0, .int .u8 0, .int .u8 0, .bool false, .bool false, .bool false, .bool false, .bool false, .bool false, .bool false, .bool false, .bool false] 0 x9t0l) 0 3 fun x22l =>
uI .u8 x22l fun x22c0 r_3 =>
uI .u8 r_3 fun x22c1 r_4 =>
uI .u8 r_4 fun x22c2 r_5 =>
nl r_5 (
bnd (f_scope_Things_Has D [.agg [.int .u8 x22c0, .int .u8 x22c1, .int .u8 x22c2], I 0, I 2]) fun r_6 =>
asB r_6 fun x23 =>
ret (.norm [.bool x23]))) (
ret (.norm [.bool false]))) (
ret (.norm [.bool false]))) fun vs =>
uB vs fun x0 r_7 =>
nl r_7 (
ret (.ret [.bool x0])))))))

/-- countermand/countermandref28.Reads -/
def f_ref28_Reads (D : HV → List HV → M HV) (args : List HV) : M HV :=
fin (
uA args fun x0l r =>
uI .i64 x0l fun x0c0 r_1 =>
uI .i64 r_1 fun x0c1 r_2 =>
uI .i64 r_2 fun x0c2 r_3 =>
uI .i64 r_3 fun x0c3 r_4 =>
nl r_4 (
uI .i64 r fun x1 r_5 =>
uI .i64 r_5 fun x2 r_6 =>
nl r_6 (
cond (x0c0 == 6) (
jn (
cond (x1 == 0) (
ret (.norm [.bool (x2 == x0c2)])) (
ret (.norm [.bool false]))) fun vs =>
uB vs fun x6 r_7 =>
nl r_7 (
ret (.ret [.bool x6]))) (
cond (x0c0 == 8) (
jn (
cond (x1 == 1) (
ret (.norm [.bool (x2 == x0c2)])) (
ret (.norm [.bool false]))) fun vs_1 =>
uB vs_1 fun x6_1 r_8 =>
nl r_8 (
ret (.ret [.bool x6_1]))) (
jn (
cond (x0c0 == 9) (
ret (.norm [.bool (x0c0 == 9)])) (
cond (x0c0 == 10) (
ret (.norm [.bool (x0c0 == 10)])) (
cond (x0c0 == 11) (
ret (.norm [.bool (x0c0 == 11)])) (
ret (.norm [.bool (x0c0 == 13)]))))) fun vs_2 =>
uB vs_2 fun x29 r_9 =>
nl r_9 (
cond x29 (
jn (
cond (x1 == 1) (
ret (.norm [.bool (x2 == x0c1)])) (
ret (.norm [.bool false]))) fun vs_3 =>
uB vs_3 fun x6_2 r_10 =>
nl r_10 (
ret (.ret [.bool x6_2]))) (
cond (x0c0 == 12) (
jn (
cond (x1 == 1) (
cond (x2 == x0c1) (
ret (.norm [.bool true])) (
ret (.norm [.bool (x2 == x0c2)]))) (
ret (.norm [.bool false]))) fun vs_4 =>
uB vs_4 fun x6_3 r_11 =>
nl r_11 (
ret (.ret [.bool x6_3]))) (
cond (x0c0 == 14) (
jn (
cond (x1 == 2) (
ret (.norm [.bool (x2 == x0c2)])) (
ret (.norm [.bool false]))) fun vs_5 =>
uB vs_5 fun x6_4 r_12 =>
nl r_12 (
ret (.ret [.bool x6_4]))) (
ret (.ret [.bool false]))))))))))

/-- countermand/countermandref28.Writes -/
def f_ref28_Writes (D : HV → List HV → M HV) (args : List HV) : M HV :=
fin (
uA args fun x0l r =>
uI .i64 x0l fun x0c0 r_1 =>
uI .i64 r_1 fun x0c1 r_2 =>
uI .i64 r_2 fun x0c2 r_3 =>
uI .i64 r_3 fun x0c3 r_4 =>
nl r_4 (
uI .i64 r fun x1 r_5 =>
uI .i64 r_5 fun x2 r_6 =>
nl r_6 (
cond (x0c0 == 7) (
jn (
cond (x1 == 0) (
ret (.norm [.bool (x2 == x0c1)])) (
ret (.norm [.bool false]))) fun vs =>
uB vs fun x6 r_7 =>
nl r_7 (
ret (.ret [.bool x6]))) (
jn (
cond (x0c0 != 6) (
cond (x0c0 != 8) (
bnd (f_ref28_Reads D [.agg [I x0c0, I x0c1, I x0c2, I x0c3], I x1, I x2]) fun r_8 =>
asB r_8 fun x30 =>
ret (.norm [.bool x30])) (
ret (.norm [.bool false]))) (
ret (.norm [.bool false]))) fun vs_1 =>
uB vs_1 fun x6_1 r_9 =>
nl r_9 (
ret (.ret [.bool x6_1]))))))

/-- countermand/countermandref28.Of -/
def f_ref28_Of (D : HV → List HV → M HV) (args : List HV) : M HV :=
fin (
uL args fun x0 r =>
uI .i64 r fun x1 r_1 =>
nl r_1 (
jn (
bnd (f_ref27_Can D [.sl x0]) fun r_2 =>
asB r_2 fun x14 =>
cond (!x14) (
ret (.norm [.bool true])) (
cond (decide (x1 < 0)) (
ret (.norm [.bool true])) (
cond (decide (x1 ≥ (x0.len : Int))) (
ret (.norm [.bool true])) (
ix x0 x1 4 fun x29b x29o =>
ldC x29b x29o fun v => asI .i64 v fun x31 =>
ret (.norm [.bool (x31 != 4)]))))) fun vs =>
uB vs fun x33 r_3 =>
nl r_3 (
cond x33 (
ret (.ret [.agg (List.replicate 57 (HV.bool false)), .bool false])) (
bnd (f_ref27_Seen D [.sl x0, I x1]) fun r_4 =>
asA r_4 fun x37l =>
gd (Nat.beq x37l.length 49) (
gd (Nat.ble (0 + x37l.length) (List.replicate 49 (HV.bool false)).length) (
blk 0 (
loopD (fun vs_2 =>
uI .i64 vs_2 fun x40 r_5 =>
uA r_5 fun y6 r_6 =>
nl r_6 (
cond (decide (x40 < (x0.len : Int))) (
blk 1 (
ix x0 x40 4 fun x43b x43o =>
ldN x43b x43o 4 fun x44l =>
uI .i64 x44l fun x44c0 r_7 =>
uI .i64 r_7 fun x44c1 r_8 =>
uI .i64 r_8 fun x44c2 r_9 =>
uI .i64 r_9 fun x44c3 r_10 =>
nl r_10 (
jn (
gd (decide (0 ≤ x40)) (gd (decide (x40 < (49 : Int))) (
gx (putN (List.replicate 49 (HV.bool false)) 0 x37l) (0 + x40.toNat * 1) fun v_1 => asB v_1 fun x47 =>
cond (!x47) (
ret (.norm [.bool true])) (
bnd (f_ref07_Block D [.sl x0, I x40]) fun r_11 =>
asI .i64 r_11 fun x52 =>
ret (.norm [.bool (x52 != x1)]))))) fun vs_4 =>
uB vs_4 fun x55 r_12 =>
nl r_12 (
cond x55 (
ret (.exit 1 [.agg y6])) (
blk 2 (
loopD (fun vs_6 =>
uI .i64 vs_6 fun x10 r_13 =>
uA r_13 fun y6_1 r_14 =>
nl r_14 (
cond (decide (x10 < 3)) (
blk 4 (
loopD (fun vs_8 =>
uI .i64 vs_8 fun x11 r_15 =>
uA r_15 fun y6_2 r_16 =>
nl r_16 (
cond (decide (x11 < 8)) (
blk 5 (
jn (
gd (decide (0 ≤ x10)) (gd (decide (x10 < (3 : Int))) (
gd (decide (0 ≤ x11)) (gd (decide (x11 < (8 : Int))) (
gx y6_2 (0 + x10.toNat * 8 + x11.toNat * 1) fun v_2 => asB v_2 fun x71 =>
cond x71 (
gd (decide (0 ≤ x10)) (gd (decide (x10 < (3 : Int))) (
gd (decide (0 ≤ x11)) (gd (decide (x11 < (8 : Int))) (
gd (decide (0 + x10.toNat * 8 + x11.toNat * 1 < y6_2.length)) (
ret (.norm [.agg (List.set y6_2 (0 + x10.toNat * 8 + x11.toNat * 1) (.bool true))]))))))) (
bnd (f_ref28_Reads D [.agg [I x44c0, I x44c1, I x44c2, I x44c3], I x10, I x11]) fun r_17 =>
asB r_17 fun x76 =>
gd (decide (0 ≤ x10)) (gd (decide (x10 < (3 : Int))) (
gd (decide (0 ≤ x11)) (gd (decide (x11 < (8 : Int))) (
gd (decide (0 + x10.toNat * 8 + x11.toNat * 1 < y6_2.length)) (
ret (.norm [.agg (List.set y6_2 (0 + x10.toNat * 8 + x11.toNat * 1) (.bool x76))])))))))))))) fun vs_10 =>
uA vs_10 fun y6_3 r_18 =>
nl r_18 (
gd (decide (0 ≤ x10)) (gd (decide (x10 < (3 : Int))) (
gd (decide (0 ≤ x11)) (gd (decide (x11 < (8 : Int))) (
gx y6_3 (24 + x10.toNat * 8 + x11.toNat * 1) fun v_3 => asB v_3 fun x88 =>
cond x88 (
gd (decide (0 ≤ x10)) (gd (decide (x10 < (3 : Int))) (
gd (decide (0 ≤ x11)) (gd (decide (x11 < (8 : Int))) (
gd (decide (24 + x10.toNat * 8 + x11.toNat * 1 < y6_3.length)) (
ret (.norm [.agg (List.set y6_3 (24 + x10.toNat * 8 + x11.toNat * 1) (.bool true))]))))))) (
bnd (f_ref28_Writes D [.agg [I x44c0, I x44c1, I x44c2, I x44c3], I x10, I x11]) fun r_19 =>
asB r_19 fun x93 =>
gd (decide (0 ≤ x10)) (gd (decide (x10 < (3 : Int))) (
gd (decide (0 ≤ x11)) (gd (decide (x11 < (8 : Int))) (
gd (decide (24 + x10.toNat * 8 + x11.toNat * 1 < y6_3.length)) (
ret (.norm [.agg (List.set y6_3 (24 + x10.toNat * 8 + x11.toNat * 1) (.bool x93))]))))))))))))) fun vs_9 =>
uA vs_9 fun y6_4 r_20 =>
nl r_20 (
ret (.norm [I (wr (x11 + 1)), .agg y6_4]))) (
ret (.exit 4 [.agg y6_2])))) [I 0, .agg y6_1]) fun vs_7 =>
uA vs_7 fun y6_5 r_21 =>
nl r_21 (
ret (.norm [I (wr (x10 + 1)), .agg y6_5]))) (
ret (.exit 2 [.agg y6_1])))) [I 0, .agg y6]) fun vs_5 =>
uA vs_5 fun y6_6 r_22 =>
nl r_22 (
blk 6 (
loopD (fun vs_12 =>
uI .i64 vs_12 fun x12 r_23 =>
uA r_23 fun y6_7 r_24 =>
nl r_24 (
cond (decide (x12 < 4)) (
blk 7 (
jn (
cond (decide (x12 < 3)) (
cond (x44c0 == 15) (
ret (.norm [.bool (x44c1 == x12)])) (
cond (x44c0 == 16) (
ret (.norm [.bool (x44c1 == x12)])) (
ret (.norm [.bool false])))) (
ret (.norm [.bool false]))) fun vs_14 =>
uB vs_14 fun x119 r_25 =>
nl r_25 (
jn (
cond x119 (
gd (decide (0 ≤ x12)) (gd (decide (x12 < (3 : Int))) (
gd (decide (48 + x12.toNat * 1 < y6_7.length)) (
ret (.norm [.agg (List.set y6_7 (48 + x12.toNat * 1) (.bool true))]))))) (
ret (.norm [.agg y6_7]))) fun vs_15 =>
uA vs_15 fun y6_8 r_26 =>
nl r_26 (
jn (
cond (x44c0 == 18) (
ret (.norm [.bool (x44c1 == x12)])) (
ret (.norm [.bool false]))) fun vs_16 =>
uB vs_16 fun x131 r_27 =>
nl r_27 (
cond x131 (
gd (decide (0 ≤ x12)) (gd (decide (x12 < (4 : Int))) (
gd (decide (51 + x12.toNat * 1 < y6_8.length)) (
ret (.norm [.agg (List.set y6_8 (51 + x12.toNat * 1) (.bool true))]))))) (
ret (.norm [.agg y6_8])))))) fun vs_13 =>
uA vs_13 fun y6_9 r_28 =>
nl r_28 (
ret (.norm [I (wr (x12 + 1)), .agg y6_9]))) (
ret (.exit 6 [.agg y6_7])))) [I 0, .agg y6_6]) fun vs_11 =>
uA vs_11 fun y6_10 r_29 =>
nl r_29 (
jn (
gx y6_10 55 fun v_4 => asB v_4 fun x136 =>
cond x136 (
gd (decide (55 < y6_10.length)) (
ret (.norm [.agg (List.set y6_10 55 (.bool true))]))) (
gd (decide (55 < y6_10.length)) (
ret (.norm [.agg (List.set y6_10 55 (.bool (x44c0 == 21)))])))) fun vs_17 =>
uA vs_17 fun y6_11 r_30 =>
nl r_30 (
gx y6_11 56 fun v_5 => asB v_5 fun x144 =>
cond x144 (
gd (decide (56 < y6_11.length)) (
ret (.norm [.agg (List.set y6_11 56 (.bool true))]))) (
cond (x44c0 == 14) (
gd (decide (56 < y6_11.length)) (
ret (.norm [.agg (List.set y6_11 56 (.bool true))]))) (
gd (decide (56 < y6_11.length)) (
ret (.norm [.agg (List.set y6_11 56 (.bool (x44c0 == 19)))]))))))))))) fun vs_3 =>
uA vs_3 fun y6_12 r_31 =>
nl r_31 (
ret (.norm [I (wr (x40 + 1)), .agg y6_12]))) (
ret (.exit 0 [.agg y6])))) [I 0, .agg (List.replicate 57 (HV.bool false))]) fun vs_1 =>
uA vs_1 fun y6_13 r_32 =>
nl r_32 (
gxN y6_13 0 57 fun x157l =>
gd (Nat.beq x157l.length 57) (
gd (Nat.ble (0 + x157l.length) (List.replicate 57 (HV.bool false)).length) (
gxN (putN (List.replicate 57 (HV.bool false)) 0 x157l) 0 57 fun z0l =>
ret (.ret [.agg z0l, .bool true]))))))))))

/-- countermand/countermandlaw28.are -/
def f_law28_are (D : HV → List HV → M HV) (args : List HV) : M HV :=
fin (
uA args fun x0l r =>
uI .u8 x0l fun x0c0 r_1 =>
uI .u8 r_1 fun x0c1 r_2 =>
uI .u8 r_2 fun x0c2 r_3 =>
nl r_3 (
uA r fun x1l r_4 =>
nl r_4 (
blk 0 (
loopD (fun vs_1 =>
uI .i64 vs_1 fun x7 r_5 =>
nl r_5 (
cond (decide (x7 < 3)) (
blk 2 (
loopD (fun vs_3 =>
uI .i64 vs_3 fun x10 r_6 =>
nl r_6 (
cond (decide (x10 < 8)) (
gd (decide (0 ≤ x7)) (gd (decide (x7 < (3 : Int))) (
gx [.int .u8 x0c0, .int .u8 x0c1, .int .u8 x0c2] (0 + x7.toNat * 1) fun v => asI .u8 v fun x15 =>
gd (decide (0 ≤ IntKind.wrap .u64 x10)) (
gd (decide (0 ≤ x7)) (gd (decide (x7 < (3 : Int))) (
gd (decide (0 ≤ x10)) (gd (decide (x10 < (8 : Int))) (
gx x1l (0 + x7.toNat * 8 + x10.toNat * 1) fun v_1 => asB v_1 fun x25 =>
cond (!(((IntKind.wrap .u8 ((BitVec.ofInt 8 (Int.fdiv x15 (2 ^ (min (IntKind.wrap .u64 x10).toNat 8))) &&& BitVec.ofInt 8 1).toNat : Int)) == 1) == x25)) (
ret (.ret [.bool false])) (
ret (.norm [I (wr (x10 + 1))])))))))))) (
ret (.exit 2 [])))) [I 0]) fun vs_2 =>
nl vs_2 (
ret (.norm [I (wr (x7 + 1))]))) (
ret (.exit 0 [])))) [I 0]) fun vs =>
nl vs (
ret (.ret [.bool true])))))

/-- countermand/countermandlaw28.same -/
def f_law28_same (D : HV → List HV → M HV) (args : List HV) : M HV :=
fin (
uA args fun x0l r =>
uA r fun x1l r_1 =>
nl r_1 (
jn (
gxN x0l 0 3 fun x6l =>
uI .u8 x6l fun x6c0 r_2 =>
uI .u8 r_2 fun x6c1 r_3 =>
uI .u8 r_3 fun x6c2 r_4 =>
nl r_4 (
gxN x1l 0 24 fun x8l =>
bnd (f_law28_are D [.agg [.int .u8 x6c0, .int .u8 x6c1, .int .u8 x6c2], .agg x8l]) fun r_5 =>
asB r_5 fun x9 =>
cond x9 (
gxN x0l 3 3 fun x12l =>
uI .u8 x12l fun x12c0 r_6 =>
uI .u8 r_6 fun x12c1 r_7 =>
uI .u8 r_7 fun x12c2 r_8 =>
nl r_8 (
gxN x1l 24 24 fun x14l =>
bnd (f_law28_are D [.agg [.int .u8 x12c0, .int .u8 x12c1, .int .u8 x12c2], .agg x14l]) fun r_9 =>
asB r_9 fun x15 =>
cond x15 (
gxN x0l 6 3 fun x19l =>
uB x19l fun x19c0 r_10 =>
uB r_10 fun x19c1 r_11 =>
uB r_11 fun x19c2 r_12 =>
nl r_12 (
gxN x1l 48 3 fun x21l =>
uB x21l fun x21c0 r_13 =>
uB r_13 fun x21c1 r_14 =>
uB r_14 fun x21c2 r_15 =>
nl r_15 (
eqM [.kb, .kb, .kb] [.bool x19c0, .bool x19c1, .bool x19c2] [.bool x21c0, .bool x21c1, .bool x21c2] fun x22e =>
cond x22e (
gxN x0l 9 4 fun x26l =>
uB x26l fun x26c0 r_16 =>
uB r_16 fun x26c1 r_17 =>
uB r_17 fun x26c2 r_18 =>
uB r_18 fun x26c3 r_19 =>
nl r_19 (
gxN x1l 51 4 fun x28l =>
uB x28l fun x28c0 r_20 =>
uB r_20 fun x28c1 r_21 =>
uB r_21 fun x28c2 r_22 =>
uB r_22 fun x28c3 r_23 =>
nl r_23 (
eqM [.kb, .kb, .kb, .kb] [.bool x26c0, .bool x26c1, .bool x26c2, .bool x26c3] [.bool x28c0, .bool x28c1, .bool x28c2, .bool x28c3] fun x29e =>
cond x29e (
gx x0l 13 fun v => asB v fun x33 =>
gx x1l 55 fun v_1 => asB v_1 fun x35 =>
cond (x33 == x35) (
gx x0l 14 fun v_2 => asB v_2 fun x40 =>
gx x1l 56 fun v_3 => asB v_3 fun x42 =>
ret (.norm [.bool (x40 == x42)])) (
ret (.norm [.bool false]))) (
ret (.norm [.bool false]))))) (
ret (.norm [.bool false]))))) (
ret (.norm [.bool false])))) (
ret (.norm [.bool false])))) fun vs =>
uB vs fun x4 r_24 =>
nl r_24 (
ret (.ret [.bool x4]))))

/-- countermand/countermandlaw28.ScopeOf -/
def f_law28_ScopeOf (D : HV → List HV → M HV) (args : List HV) : M HV :=
fin (
uL args fun x0 r =>
uI .i64 r fun x1 r_1 =>
nl r_1 (
bnd (f_law28_alive D []) fun r_2 =>
asB r_2 fun x9 =>
cond (!x9) (
ret (.ret [.bool false])) (
bnd (f_scope_Of D [.sl x0, I x1]) fun r_3 =>
asT r_3 fun x14l => uA x14l fun x14t0l r_4 =>
uB r_4 fun x14t1 r_5 =>
nl r_5 (
gd (Nat.beq x14t0l.length 15) (
gd (Nat.ble (0 + x14t0l.length) (([.int .u8 0, .int .u8 0, .int .u8 0, .int .u8 0, .int .u8 0, .int .u8 0, .bool false, .bool false, .bool false, .bool false, .bool false, .bool false, .bool false, .bool false, .bool false]) : List HV).length) (
bnd (f_ref28_Of D [.sl x0, I x1]) fun r_6 =>
asT r_6 fun x20l => uA x20l fun x20t0l r_7 =>
uB r_7 fun x20t1 r_8 =>
nl r_8 (
gd (Nat.beq x20t0l.length 57) (
gd (Nat.ble (0 + x20t0l.length) (List.replicate 57 (HV.bool false)).length) (
cond (!x20t1) (
jn (
cond (!x14t1) (
gxN (putN [.int .u8 0, .int .u8 0, .int .u8 0, .int .u8 0, .int .u8 0, .int .u8 0, .bool false, .bool false, .bool false, .bool false, .bool false, .bool false, .bool false, .bool false, .bool false] 0 x14t0l) 0 15 fun x28l =>
eqM [(.ki .u8), (.ki .u8), (.ki .u8), (.ki .u8), (.ki .u8), (.ki .u8), .kb, .kb, .kb, .kb, .kb, .kb, .kb, .kb, .kb] x28l [.int .u8 0, .int .u8 0, .int .u8 0, .int .u8 0, .int .u8 0, .int .u8 0, .bool false, .bool false, .bool false, .bool false, .bool false, .bool false, .bool false, .bool false, .bool false] fun x30e =>
ret (.norm [.bool x30e])) (
ret (.norm [.bool false]))) fun vs =>
uB vs fun x4 r_9 =>
nl r_9 (
ret (.ret [.bool x4]))) (
jn (
cond x14t1 (
gxN (putN [.int .u8 0, .int .u8 0, .int .u8 0, .int .u8 0, .int .u8 0, .int .u8 0, .bool false, .bool false, .bool false, .bool false, .bool false, .bool false, .bool false, .bool false, .bool false] 0 x14t0l) 0 15 fun x34l =>
gxN (putN (List.replicate 57 (HV.bool false)) 0 x20t0l) 0 57 fun x35l =>
bnd (f_law28_same D [.agg x34l, .agg x35l]) fun r_10 =>
asB r_10 fun x36 =>
ret (.norm [.bool x36])) (
ret (.norm [.bool false]))) fun vs_1 =>
uB vs_1 fun x4_1 r_11 =>
nl r_11 (
ret (.ret [.bool x4_1]))))))))))))

/-- countermand/countermandlaw28.good -/
def f_law28_good (D : HV → List HV → M HV) (args : List HV) : M HV :=
fin (
uA args fun x0l r =>
nl r (
gxN x0l 8 12 fun x9l =>
blk 0 (
loopD (fun vs_1 =>
uI .i64 vs_1 fun x10 r_1 =>
nl r_1 (
cond (decide (x10 < 6)) (
gd (decide (0 ≤ x10)) (gd (decide (x10 < (6 : Int))) (
gxN x9l (x10.toNat * 2) 2 fun x12l =>
uB x12l fun x12c0 r_2 =>
uS r_2 fun x12c1 r_3 =>
nl r_3 (
jn (
cond (decide ((x12c1.size : Int) > 32)) (
ret (.norm [.bool true])) (
cond (!x12c0) (
ret (.norm [.bool (!(x12c1.toList == (ByteArray.mk #[]).toList))])) (
ret (.norm [.bool false])))) fun vs_2 =>
uB vs_2 fun x26 r_4 =>
nl r_4 (
cond x26 (
ret (.ret [.bool false])) (
ret (.norm [I (wr (x10 + 1))]))))))) (
ret (.exit 0 [])))) [I 0]) fun vs =>
nl vs (
gxN x0l 20 3 fun x30l =>
uI .i64 x30l fun x30c0 r_5 =>
uI .i64 r_5 fun x30c1 r_6 =>
uI .i64 r_6 fun x30c2 r_7 =>
nl r_7 (
blk 2 (
loopD (fun vs_4 =>
uI .i64 vs_4 fun x31 r_8 =>
nl r_8 (
cond (decide (x31 < 3)) (
gd (decide (0 ≤ x31)) (gd (decide (x31 < (3 : Int))) (
gx [I x30c0, I x30c1, I x30c2] (x31.toNat * 1) fun v => asI .i64 v fun x34 =>
jn (
gd (decide (0 ≤ x31)) (gd (decide (x31 < (3 : Int))) (
gx x0l (23 + x31.toNat * 1) fun v_1 => asS v_1 fun x38 =>
cond (decide ((x38.size : Int) > 64)) (
ret (.norm [.bool true])) (
cond (decide (x34 < 0)) (
ret (.norm [.bool true])) (
gd (decide (0 ≤ x31)) (gd (decide (x31 < (3 : Int))) (
gx x0l (23 + x31.toNat * 1) fun v_2 => asS v_2 fun x50 =>
cond (decide (x34 > (x50.size : Int))) (
ret (.norm [.bool true])) (
gd (decide (0 ≤ x31)) (gd (decide (x31 < (3 : Int))) (
gx x0l (26 + x31.toNat * 1) fun v_3 => asS v_3 fun x58 =>
ret (.norm [.bool (decide ((x58.size : Int) > 1024))]))))))))))) fun vs_5 =>
uB vs_5 fun x61 r_9 =>
nl r_9 (
cond x61 (
ret (.ret [.bool false])) (
ret (.norm [I (wr (x31 + 1))])))))) (
ret (.exit 2 [])))) [I 0]) fun vs_3 =>
nl vs_3 (
ret (.ret [.bool true]))))))

/-- countermand/countermandlaw28.ScopeModel -/
def f_law28_ScopeModel (D : HV → List HV → M HV) (args : List HV) : M HV :=
fin (
uL args fun x0 r =>
uA r fun x1l r_1 =>
uA r_1 fun x2l r_2 =>
uI .i64 x2l fun x2c0 r_3 =>
uI .i64 r_3 fun x2c1 r_4 =>
uI .i64 r_4 fun x2c2 r_5 =>
uI .i64 r_5 fun x2c3 r_6 =>
nl r_6 (
uI .i64 r_2 fun x3 r_7 =>
uI .i64 r_7 fun x4 r_8 =>
uI .i64 r_8 fun x5 r_9 =>
nl r_9 (
bnd (f_law28_alive D []) fun r_10 =>
asB r_10 fun x30 =>
cond (!x30) (
ret (.ret [.bool false])) (
bnd (f_scope_Of D [.sl x0, I x3]) fun r_11 =>
asT r_11 fun x35l => uA x35l fun x35t0l r_12 =>
uB r_12 fun x35t1 r_13 =>
nl r_13 (
gd (Nat.beq x35t0l.length 15) (
gd (Nat.ble (0 + x35t0l.length) (([.int .u8 0, .int .u8 0, .int .u8 0, .int .u8 0, .int .u8 0, .int .u8 0, .bool false, .bool false, .bool false, .bool false, .bool false, .bool false, .bool false, .bool false, .bool false]) : List HV).length) (
bnd (f_ref28_Of D [.sl x0, I x3]) fun r_14 =>
asT r_14 fun x41l => uA x41l fun x41t0l r_15 =>
uB r_15 fun x41t1 r_16 =>
nl r_16 (
gd (Nat.beq x41t0l.length 57) (
gd (Nat.ble (0 + x41t0l.length) (List.replicate 57 (HV.bool false)).length) (
jn (
cond (!x41t1) (
ret (.norm [.bool true])) (
gxN x1l 0 33 fun x47l =>
bnd (f_law28_good D [.agg x47l]) fun r_17 =>
asB r_17 fun x48 =>
ret (.norm [.bool (!x48)]))) fun vs =>
uB vs fun x50 r_18 =>
nl r_18 (
cond x50 (
jn (
cond (!x41t1) (
ret (.norm [.bool true])) (
ret (.norm [.bool x35t1]))) fun vs_1 =>
uB vs_1 fun x12 r_19 =>
nl r_19 (
ret (.ret [.bool x12]))) (
gxN x1l 0 33 fun x57l =>
bnd (f_ref23_Block D [.agg x57l, .sl x0, I x3, .agg [I x2c0, I x2c1, I x2c2, I x2c3]]) fun r_20 =>
asT r_20 fun x61l => uA x61l fun x61t0l r_21 =>
uI .i64 r_21 fun x61t1 r_22 =>
uA r_22 fun x61t2l r_23 =>
uI .i64 x61t2l fun x61t2c0 r_24 =>
uI .i64 r_24 fun x61t2c1 r_25 =>
uI .i64 r_25 fun x61t2c2 r_26 =>
uI .i64 r_26 fun x61t2c3 r_27 =>
nl r_27 (
uB r_23 fun x61t3 r_28 =>
nl r_28 (
gd (Nat.beq x61t0l.length 33) (
gd (Nat.ble (0 + x61t0l.length) (([I 0, I 0, I 0, I 0, I 0, I 0, I 0, I 0, .bool false, .str (ByteArray.mk #[]), .bool false, .str (ByteArray.mk #[]), .bool false, .str (ByteArray.mk #[]), .bool false, .str (ByteArray.mk #[]), .bool false, .str (ByteArray.mk #[]), .bool false, .str (ByteArray.mk #[]), I 0, I 0, I 0, .str (ByteArray.mk #[]), .str (ByteArray.mk #[]), .str (ByteArray.mk #[]), .str (ByteArray.mk #[]), .str (ByteArray.mk #[]), .str (ByteArray.mk #[]), I 0, I 0, I 0, I 0]) : List HV).length) (
blk 0 (
loopD (fun vs_3 =>
uI .i64 vs_3 fun x66 r_29 =>
nl r_29 (
cond (decide (x66 < 8)) (
jn (
gd (decide (0 ≤ x66)) (gd (decide (x66 < (8 : Int))) (
gx (putN [I 0, I 0, I 0, I 0, I 0, I 0, I 0, I 0, .bool false, .str (ByteArray.mk #[]), .bool false, .str (ByteArray.mk #[]), .bool false, .str (ByteArray.mk #[]), .bool false, .str (ByteArray.mk #[]), .bool false, .str (ByteArray.mk #[]), .bool false, .str (ByteArray.mk #[]), I 0, I 0, I 0, .str (ByteArray.mk #[]), .str (ByteArray.mk #[]), .str (ByteArray.mk #[]), .str (ByteArray.mk #[]), .str (ByteArray.mk #[]), .str (ByteArray.mk #[]), I 0, I 0, I 0, I 0] 0 x61t0l) (0 + x66.toNat * 1) fun v => asI .i64 v fun x73 =>
gd (decide (0 ≤ x66)) (gd (decide (x66 < (8 : Int))) (
gx x1l (0 + x66.toNat * 1) fun v_1 => asI .i64 v_1 fun x78 =>
cond (x73 != x78) (
gxN (putN [.int .u8 0, .int .u8 0, .int .u8 0, .int .u8 0, .int .u8 0, .int .u8 0, .bool false, .bool false, .bool false, .bool false, .bool false, .bool false, .bool false, .bool false, .bool false] 0 x35t0l) 3 3 fun x82l =>
uI .u8 x82l fun x82c0 r_30 =>
uI .u8 r_30 fun x82c1 r_31 =>
uI .u8 r_31 fun x82c2 r_32 =>
nl r_32 (
bnd (f_scope_Things_Has D [.agg [.int .u8 x82c0, .int .u8 x82c1, .int .u8 x82c2], I 0, I x66]) fun r_33 =>
asB r_33 fun x84 =>
ret (.norm [.bool (!x84)]))) (
ret (.norm [.bool false]))))))) fun vs_4 =>
uB vs_4 fun x86 r_34 =>
nl r_34 (
cond x86 (
ret (.ret [.bool false])) (
ret (.norm [I (wr (x66 + 1))])))) (
ret (.exit 0 [])))) [I 0]) fun vs_2 =>
nl vs_2 (
blk 2 (
loopD (fun vs_6 =>
uI .i64 vs_6 fun x88 r_35 =>
nl r_35 (
cond (decide (x88 < 6)) (
jn (
gd (decide (0 ≤ x88)) (gd (decide (x88 < (6 : Int))) (
gxN (putN [I 0, I 0, I 0, I 0, I 0, I 0, I 0, I 0, .bool false, .str (ByteArray.mk #[]), .bool false, .str (ByteArray.mk #[]), .bool false, .str (ByteArray.mk #[]), .bool false, .str (ByteArray.mk #[]), .bool false, .str (ByteArray.mk #[]), .bool false, .str (ByteArray.mk #[]), I 0, I 0, I 0, .str (ByteArray.mk #[]), .str (ByteArray.mk #[]), .str (ByteArray.mk #[]), .str (ByteArray.mk #[]), .str (ByteArray.mk #[]), .str (ByteArray.mk #[]), I 0, I 0, I 0, I 0] 0 x61t0l) (8 + x88.toNat * 2) 2 fun x95l =>
uB x95l fun x95c0 r_36 =>
uS r_36 fun x95c1 r_37 =>
nl r_37 (
gd (decide (0 ≤ x88)) (gd (decide (x88 < (6 : Int))) (
gxN x1l (8 + x88.toNat * 2) 2 fun x100l =>
uB x100l fun x100c0 r_38 =>
uS r_38 fun x100c1 r_39 =>
nl r_39 (
cond (!(cond (x95c0 == x100c0) (cond (x95c1.toList == x100c1.toList) true false) false)) (
gxN (putN [.int .u8 0, .int .u8 0, .int .u8 0, .int .u8 0, .int .u8 0, .int .u8 0, .bool false, .bool false, .bool false, .bool false, .bool false, .bool false, .bool false, .bool false, .bool false] 0 x35t0l) 3 3 fun x104l =>
uI .u8 x104l fun x104c0 r_40 =>
uI .u8 r_40 fun x104c1 r_41 =>
uI .u8 r_41 fun x104c2 r_42 =>
nl r_42 (
bnd (f_scope_Things_Has D [.agg [.int .u8 x104c0, .int .u8 x104c1, .int .u8 x104c2], I 1, I x88]) fun r_43 =>
asB r_43 fun x106 =>
ret (.norm [.bool (!x106)]))) (
ret (.norm [.bool false]))))))))) fun vs_7 =>
uB vs_7 fun x108 r_44 =>
nl r_44 (
cond x108 (
ret (.ret [.bool false])) (
ret (.norm [I (wr (x88 + 1))])))) (
ret (.exit 2 [])))) [I 0]) fun vs_5 =>
nl vs_5 (
blk 4 (
loopD (fun vs_9 =>
uI .i64 vs_9 fun x110 r_45 =>
nl r_45 (
cond (decide (x110 < 3)) (
jn (
gd (decide (0 ≤ x110)) (gd (decide (x110 < (3 : Int))) (
gx (putN [I 0, I 0, I 0, I 0, I 0, I 0, I 0, I 0, .bool false, .str (ByteArray.mk #[]), .bool false, .str (ByteArray.mk #[]), .bool false, .str (ByteArray.mk #[]), .bool false, .str (ByteArray.mk #[]), .bool false, .str (ByteArray.mk #[]), .bool false, .str (ByteArray.mk #[]), I 0, I 0, I 0, .str (ByteArray.mk #[]), .str (ByteArray.mk #[]), .str (ByteArray.mk #[]), .str (ByteArray.mk #[]), .str (ByteArray.mk #[]), .str (ByteArray.mk #[]), I 0, I 0, I 0, I 0] 0 x61t0l) (20 + x110.toNat * 1) fun v_2 => asI .i64 v_2 fun x117 =>
gd (decide (0 ≤ x110)) (gd (decide (x110 < (3 : Int))) (
gx x1l (20 + x110.toNat * 1) fun v_3 => asI .i64 v_3 fun x122 =>
cond (x117 != x122) (
gxN (putN [.int .u8 0, .int .u8 0, .int .u8 0, .int .u8 0, .int .u8 0, .int .u8 0, .bool false, .bool false, .bool false, .bool false, .bool false, .bool false, .bool false, .bool false, .bool false] 0 x35t0l) 3 3 fun x126l =>
uI .u8 x126l fun x126c0 r_46 =>
uI .u8 r_46 fun x126c1 r_47 =>
uI .u8 r_47 fun x126c2 r_48 =>
nl r_48 (
bnd (f_scope_Things_Has D [.agg [.int .u8 x126c0, .int .u8 x126c1, .int .u8 x126c2], I 2, I x110]) fun r_49 =>
asB r_49 fun x128 =>
cond (!x128) (
ret (.norm [.bool true])) (
gd (decide (0 ≤ x110)) (gd (decide (x110 < (3 : Int))) (
gx (putN [I 0, I 0, I 0, I 0, I 0, I 0, I 0, I 0, .bool false, .str (ByteArray.mk #[]), .bool false, .str (ByteArray.mk #[]), .bool false, .str (ByteArray.mk #[]), .bool false, .str (ByteArray.mk #[]), .bool false, .str (ByteArray.mk #[]), .bool false, .str (ByteArray.mk #[]), I 0, I 0, I 0, .str (ByteArray.mk #[]), .str (ByteArray.mk #[]), .str (ByteArray.mk #[]), .str (ByteArray.mk #[]), .str (ByteArray.mk #[]), .str (ByteArray.mk #[]), I 0, I 0, I 0, I 0] 0 x61t0l) (26 + x110.toNat * 1) fun v_4 => asS v_4 fun x135 =>
gd (decide (0 ≤ x110)) (gd (decide (x110 < (3 : Int))) (
gx x1l (26 + x110.toNat * 1) fun v_5 => asS v_5 fun x139 =>
cond (!(x135.toList == x139.toList)) (
gd (decide (0 ≤ x110)) (gd (decide (x110 < (3 : Int))) (
gx (putN [.int .u8 0, .int .u8 0, .int .u8 0, .int .u8 0, .int .u8 0, .int .u8 0, .bool false, .bool false, .bool false, .bool false, .bool false, .bool false, .bool false, .bool false, .bool false] 0 x35t0l) (6 + x110.toNat * 1) fun v_6 => asB v_6 fun x145 =>
ret (.norm [.bool (!x145)])))) (
ret (.norm [.bool false]))))))))) (
gd (decide (0 ≤ x110)) (gd (decide (x110 < (3 : Int))) (
gx (putN [I 0, I 0, I 0, I 0, I 0, I 0, I 0, I 0, .bool false, .str (ByteArray.mk #[]), .bool false, .str (ByteArray.mk #[]), .bool false, .str (ByteArray.mk #[]), .bool false, .str (ByteArray.mk #[]), .bool false, .str (ByteArray.mk #[]), .bool false, .str (ByteArray.mk #[]), I 0, I 0, I 0, .str (ByteArray.mk #[]), .str (ByteArray.mk #[]), .str (ByteArray.mk #[]), .str (ByteArray.mk #[]), .str (ByteArray.mk #[]), .str (ByteArray.mk #[]), I 0, I 0, I 0, I 0] 0 x61t0l) (26 + x110.toNat * 1) fun v_7 => asS v_7 fun x135_1 =>
gd (decide (0 ≤ x110)) (gd (decide (x110 < (3 : Int))) (
gx x1l (26 + x110.toNat * 1) fun v_8 => asS v_8 fun x139_1 =>
cond (!(x135_1.toList == x139_1.toList)) (
gd (decide (0 ≤ x110)) (gd (decide (x110 < (3 : Int))) (
gx (putN [.int .u8 0, .int .u8 0, .int .u8 0, .int .u8 0, .int .u8 0, .int .u8 0, .bool false, .bool false, .bool false, .bool false, .bool false, .bool false, .bool false, .bool false, .bool false] 0 x35t0l) (6 + x110.toNat * 1) fun v_9 => asB v_9 fun x145_1 =>
ret (.norm [.bool (!x145_1)])))) (
ret (.norm [.bool false])))))))))))) fun vs_10 =>
uB vs_10 fun x148 r_50 =>
nl r_50 (
cond x148 (
ret (.ret [.bool false])) (
ret (.norm [I (wr (x110 + 1))])))) (
ret (.exit 4 [])))) [I 0]) fun vs_8 =>
nl vs_8 (
blk 6 (
loopD (fun vs_12 =>
uI .i64 vs_12 fun x150 r_51 =>
nl r_51 (
cond (decide (x150 < 4)) (
jn (
gd (decide (0 ≤ x150)) (gd (decide (x150 < (4 : Int))) (
gx (putN [I 0, I 0, I 0, I 0, I 0, I 0, I 0, I 0, .bool false, .str (ByteArray.mk #[]), .bool false, .str (ByteArray.mk #[]), .bool false, .str (ByteArray.mk #[]), .bool false, .str (ByteArray.mk #[]), .bool false, .str (ByteArray.mk #[]), .bool false, .str (ByteArray.mk #[]), I 0, I 0, I 0, .str (ByteArray.mk #[]), .str (ByteArray.mk #[]), .str (ByteArray.mk #[]), .str (ByteArray.mk #[]), .str (ByteArray.mk #[]), .str (ByteArray.mk #[]), I 0, I 0, I 0, I 0] 0 x61t0l) (29 + x150.toNat * 1) fun v_10 => asI .i64 v_10 fun x156 =>
gd (decide (0 ≤ x150)) (gd (decide (x150 < (4 : Int))) (
gx x1l (29 + x150.toNat * 1) fun v_11 => asI .i64 v_11 fun x160 =>
cond (x156 != x160) (
gd (decide (0 ≤ x150)) (gd (decide (x150 < (4 : Int))) (
gx (putN [.int .u8 0, .int .u8 0, .int .u8 0, .int .u8 0, .int .u8 0, .int .u8 0, .bool false, .bool false, .bool false, .bool false, .bool false, .bool false, .bool false, .bool false, .bool false] 0 x35t0l) (9 + x150.toNat * 1) fun v_12 => asB v_12 fun x166 =>
ret (.norm [.bool (!x166)])))) (
ret (.norm [.bool false]))))))) fun vs_13 =>
uB vs_13 fun x168 r_52 =>
nl r_52 (
cond x168 (
ret (.ret [.bool false])) (
ret (.norm [I (wr (x150 + 1))])))) (
ret (.exit 6 [])))) [I 0]) fun vs_11 =>
nl vs_11 (
jn (
cond (decide (x4 < 0)) (
ret (.norm [.bool true])) (
cond (decide (x4 > 7)) (
ret (.norm [.bool true])) (
gxN (putN [.int .u8 0, .int .u8 0, .int .u8 0, .int .u8 0, .int .u8 0, .int .u8 0, .bool false, .bool false, .bool false, .bool false, .bool false, .bool false, .bool false, .bool false, .bool false] 0 x35t0l) 0 3 fun x178l =>
uI .u8 x178l fun x178c0 r_53 =>
uI .u8 r_53 fun x178c1 r_54 =>
uI .u8 r_54 fun x178c2 r_55 =>
nl r_55 (
bnd (f_scope_Things_Has D [.agg [.int .u8 x178c0, .int .u8 x178c1, .int .u8 x178c2], I 0, I x4]) fun r_56 =>
asB r_56 fun x180 =>
ret (.norm [.bool x180]))))) fun vs_14 =>
uB vs_14 fun x181 r_57 =>
nl r_57 (
cond x181 (
ret (.ret [.bool true])) (
gxN x1l 0 33 fun x182l =>
gd (Nat.beq x182l.length 33) (
gd (Nat.ble (0 + x182l.length) (([I 0, I 0, I 0, I 0, I 0, I 0, I 0, I 0, .bool false, .str (ByteArray.mk #[]), .bool false, .str (ByteArray.mk #[]), .bool false, .str (ByteArray.mk #[]), .bool false, .str (ByteArray.mk #[]), .bool false, .str (ByteArray.mk #[]), .bool false, .str (ByteArray.mk #[]), I 0, I 0, I 0, .str (ByteArray.mk #[]), .str (ByteArray.mk #[]), .str (ByteArray.mk #[]), .str (ByteArray.mk #[]), .str (ByteArray.mk #[]), .str (ByteArray.mk #[]), I 0, I 0, I 0, I 0]) : List HV).length) (
gd (decide (0 ≤ x4)) (gd (decide (x4 < (8 : Int))) (
gd (decide (0 + x4.toNat * 1 < (putN [I 0, I 0, I 0, I 0, I 0, I 0, I 0, I 0, .bool false, .str (ByteArray.mk #[]), .bool false, .str (ByteArray.mk #[]), .bool false, .str (ByteArray.mk #[]), .bool false, .str (ByteArray.mk #[]), .bool false, .str (ByteArray.mk #[]), .bool false, .str (ByteArray.mk #[]), I 0, I 0, I 0, .str (ByteArray.mk #[]), .str (ByteArray.mk #[]), .str (ByteArray.mk #[]), .str (ByteArray.mk #[]), .str (ByteArray.mk #[]), .str (ByteArray.mk #[]), I 0, I 0, I 0, I 0] 0 x182l).length)) (
gxN (List.set (putN [I 0, I 0, I 0, I 0, I 0, I 0, I 0, I 0, .bool false, .str (ByteArray.mk #[]), .bool false, .str (ByteArray.mk #[]), .bool false, .str (ByteArray.mk #[]), .bool false, .str (ByteArray.mk #[]), .bool false, .str (ByteArray.mk #[]), .bool false, .str (ByteArray.mk #[]), I 0, I 0, I 0, .str (ByteArray.mk #[]), .str (ByteArray.mk #[]), .str (ByteArray.mk #[]), .str (ByteArray.mk #[]), .str (ByteArray.mk #[]), .str (ByteArray.mk #[]), I 0, I 0, I 0, I 0] 0 x182l) (0 + x4.toNat * 1) (I x5)) 0 33 fun x189l =>
bnd (f_ref23_Block D [.agg x189l, .sl x0, I x3, .agg [I x2c0, I x2c1, I x2c2, I x2c3]]) fun r_58 =>
asT r_58 fun x193l => uA x193l fun x193t0l r_59 =>
uI .i64 r_59 fun x193t1 r_60 =>
uA r_60 fun x193t2l r_61 =>
uI .i64 x193t2l fun x193t2c0 r_62 =>
uI .i64 r_62 fun x193t2c1 r_63 =>
uI .i64 r_63 fun x193t2c2 r_64 =>
uI .i64 r_64 fun x193t2c3 r_65 =>
nl r_65 (
uB r_61 fun x193t3 r_66 =>
nl r_66 (
gd (Nat.beq x193t0l.length 33) (
gd (Nat.ble (0 + x193t0l.length) (([I 0, I 0, I 0, I 0, I 0, I 0, I 0, I 0, .bool false, .str (ByteArray.mk #[]), .bool false, .str (ByteArray.mk #[]), .bool false, .str (ByteArray.mk #[]), .bool false, .str (ByteArray.mk #[]), .bool false, .str (ByteArray.mk #[]), .bool false, .str (ByteArray.mk #[]), I 0, I 0, I 0, .str (ByteArray.mk #[]), .str (ByteArray.mk #[]), .str (ByteArray.mk #[]), .str (ByteArray.mk #[]), .str (ByteArray.mk #[]), .str (ByteArray.mk #[]), I 0, I 0, I 0, I 0]) : List HV).length) (
jn (
cond (!(x61t3 == x193t3)) (
ret (.norm [.bool true])) (
cond (x193t1 != x61t1) (
ret (.norm [.bool true])) (
eqM [(.ki .i64), (.ki .i64), (.ki .i64), (.ki .i64)] [I x193t2c0, I x193t2c1, I x193t2c2, I x193t2c3] [I x61t2c0, I x61t2c1, I x61t2c2, I x61t2c3] fun x209e =>
ret (.norm [.bool (!x209e)])))) fun vs_15 =>
uB vs_15 fun x210 r_67 =>
nl r_67 (
cond x210 (
ret (.ret [.bool false])) (
cond (!x61t3) (
ret (.ret [.bool true])) (
jn (
gxN (putN [.int .u8 0, .int .u8 0, .int .u8 0, .int .u8 0, .int .u8 0, .int .u8 0, .bool false, .bool false, .bool false, .bool false, .bool false, .bool false, .bool false, .bool false, .bool false] 0 x35t0l) 3 3 fun x214l =>
uI .u8 x214l fun x214c0 r_68 =>
uI .u8 r_68 fun x214c1 r_69 =>
uI .u8 r_69 fun x214c2 r_70 =>
nl r_70 (
bnd (f_scope_Things_Has D [.agg [.int .u8 x214c0, .int .u8 x214c1, .int .u8 x214c2], I 0, I x4]) fun r_71 =>
asB r_71 fun x216 =>
cond (!x216) (
gd (decide (0 ≤ x4)) (gd (decide (x4 < (8 : Int))) (
gx (putN [I 0, I 0, I 0, I 0, I 0, I 0, I 0, I 0, .bool false, .str (ByteArray.mk #[]), .bool false, .str (ByteArray.mk #[]), .bool false, .str (ByteArray.mk #[]), .bool false, .str (ByteArray.mk #[]), .bool false, .str (ByteArray.mk #[]), .bool false, .str (ByteArray.mk #[]), I 0, I 0, I 0, .str (ByteArray.mk #[]), .str (ByteArray.mk #[]), .str (ByteArray.mk #[]), .str (ByteArray.mk #[]), .str (ByteArray.mk #[]), .str (ByteArray.mk #[]), I 0, I 0, I 0, I 0] 0 x193t0l) (0 + x4.toNat * 1) fun v_13 => asI .i64 v_13 fun x223 =>
ret (.norm [.bool (x223 != x5)])))) (
ret (.norm [.bool false])))) fun vs_16 =>
uB vs_16 fun x226 r_72 =>
nl r_72 (
cond x226 (
ret (.ret [.bool false])) (
gd (decide (0 ≤ x4)) (gd (decide (x4 < (8 : Int))) (
gx (putN [I 0, I 0, I 0, I 0, I 0, I 0, I 0, I 0, .bool false, .str (ByteArray.mk #[]), .bool false, .str (ByteArray.mk #[]), .bool false, .str (ByteArray.mk #[]), .bool false, .str (ByteArray.mk #[]), .bool false, .str (ByteArray.mk #[]), .bool false, .str (ByteArray.mk #[]), I 0, I 0, I 0, .str (ByteArray.mk #[]), .str (ByteArray.mk #[]), .str (ByteArray.mk #[]), .str (ByteArray.mk #[]), .str (ByteArray.mk #[]), .str (ByteArray.mk #[]), I 0, I 0, I 0, I 0] 0 x61t0l) (0 + x4.toNat * 1) fun v_14 => asI .i64 v_14 fun x232 =>
gd (decide (0 ≤ x4)) (gd (decide (x4 < (8 : Int))) (
gd (decide (0 + x4.toNat * 1 < (putN [I 0, I 0, I 0, I 0, I 0, I 0, I 0, I 0, .bool false, .str (ByteArray.mk #[]), .bool false, .str (ByteArray.mk #[]), .bool false, .str (ByteArray.mk #[]), .bool false, .str (ByteArray.mk #[]), .bool false, .str (ByteArray.mk #[]), .bool false, .str (ByteArray.mk #[]), I 0, I 0, I 0, .str (ByteArray.mk #[]), .str (ByteArray.mk #[]), .str (ByteArray.mk #[]), .str (ByteArray.mk #[]), .str (ByteArray.mk #[]), .str (ByteArray.mk #[]), I 0, I 0, I 0, I 0] 0 x193t0l).length)) (
gxN (List.set (putN [I 0, I 0, I 0, I 0, I 0, I 0, I 0, I 0, .bool false, .str (ByteArray.mk #[]), .bool false, .str (ByteArray.mk #[]), .bool false, .str (ByteArray.mk #[]), .bool false, .str (ByteArray.mk #[]), .bool false, .str (ByteArray.mk #[]), .bool false, .str (ByteArray.mk #[]), I 0, I 0, I 0, .str (ByteArray.mk #[]), .str (ByteArray.mk #[]), .str (ByteArray.mk #[]), .str (ByteArray.mk #[]), .str (ByteArray.mk #[]), .str (ByteArray.mk #[]), I 0, I 0, I 0, I 0] 0 x193t0l) (0 + x4.toNat * 1) (I x232)) 0 33 fun x236l =>
gxN (putN [I 0, I 0, I 0, I 0, I 0, I 0, I 0, I 0, .bool false, .str (ByteArray.mk #[]), .bool false, .str (ByteArray.mk #[]), .bool false, .str (ByteArray.mk #[]), .bool false, .str (ByteArray.mk #[]), .bool false, .str (ByteArray.mk #[]), .bool false, .str (ByteArray.mk #[]), I 0, I 0, I 0, .str (ByteArray.mk #[]), .str (ByteArray.mk #[]), .str (ByteArray.mk #[]), .str (ByteArray.mk #[]), .str (ByteArray.mk #[]), .str (ByteArray.mk #[]), I 0, I 0, I 0, I 0] 0 x61t0l) 0 33 fun x237l =>
eqM [(.ki .i64), (.ki .i64), (.ki .i64), (.ki .i64), (.ki .i64), (.ki .i64), (.ki .i64), (.ki .i64), .kb, .ks, .kb, .ks, .kb, .ks, .kb, .ks, .kb, .ks, .kb, .ks, (.ki .i64), (.ki .i64), (.ki .i64), .ks, .ks, .ks, .ks, .ks, .ks, (.ki .i64), (.ki .i64), (.ki .i64), (.ki .i64)] x236l x237l fun x238e =>
ret (.ret [.bool x238e]))))))))))))))))))))))))))))))))))))))))))

/-- a round of countermand/countermandlaw28.ScopeAll -/
def r0_law28_ScopeAll (D : HV → List HV → M HV) (l : Nat) (vs : List (Nat × HV)) (args : List HV) : M Leaf :=
gdS [2, 3, 4, 5, 6] vs fun vs' =>
uP vs' fun x2 r =>
uP r fun x3 r_1 =>
uP r_1 fun x4 r_2 =>
uP r_2 fun x5 r_3 =>
uP r_3 fun x6 r_4 =>
nl r_4 (
uI .i64 args fun x37 r_5 =>
uA r_5 fun x38l r_6 =>
nl r_6 (
gd (Nat.beq x38l.length 15) (
gd (Nat.ble (0 + x38l.length) (([.int .u8 0, .int .u8 0, .int .u8 0, .int .u8 0, .int .u8 0, .int .u8 0, .bool false, .bool false, .bool false, .bool false, .bool false, .bool false, .bool false, .bool false, .bool false]) : List HV).length) (
busyL l (
mP x2 fun x40b x40o =>
ldC x40b x40o fun v => asSl v fun x40 =>
bnd (f_ref28_Of D [.sl x40, I x37]) fun r_7 =>
asT r_7 fun x42l => uA x42l fun x42t0l r_8 =>
uB r_8 fun x42t1 r_9 =>
nl r_9 (
gd (Nat.beq x42t0l.length 57) (
gd (Nat.ble (0 + x42t0l.length) (List.replicate 57 (HV.bool false)).length) (
jn (
cond (!x42t1) (
ret (.norm [.bool true])) (
mP x6 fun x49b x49o =>
ldC x49b x49o fun v_1 => asI .i64 v_1 fun x49 =>
cond (decide (x37 ≤ x49)) (
ret (.norm [.bool true])) (
gxN (putN [.int .u8 0, .int .u8 0, .int .u8 0, .int .u8 0, .int .u8 0, .int .u8 0, .bool false, .bool false, .bool false, .bool false, .bool false, .bool false, .bool false, .bool false, .bool false] 0 x38l) 0 15 fun x53l =>
gxN (putN (List.replicate 57 (HV.bool false)) 0 x42t0l) 0 57 fun x54l =>
bnd (f_law28_same D [.agg x53l, .agg x54l]) fun r_10 =>
asB r_10 fun x55 =>
ret (.norm [.bool (!x55)])))) fun vs_1 =>
uB vs_1 fun x57 r_11 =>
nl r_11 (
cond x57 (
mP x4 fun qb qo =>
stC qb qo (.bool false) (
ret (.ret []))) (
mP x6 fun qb_1 qo_1 =>
stC qb_1 qo_1 (I x37) (
mP x5 fun x59b x59o =>
ldC x59b x59o fun v_2 => asI .i64 v_2 fun x59 =>
mP x5 fun qb_2 qo_2 =>
stC qb_2 qo_2 (I (wr (x59 + 1))) (
mP x5 fun x61b x61o =>
ldC x61b x61o fun v_3 => asI .i64 v_3 fun x61 =>
mP x3 fun x62b x62o =>
ldC x62b x62o fun v_4 => asI .i64 v_4 fun x62 =>
cond (x61 == x62) (
ret (.exit 2 [])) (
ret (.norm []))))))))))))))

/-- (countermand/scope.Things).Meets -/
def f_scope_Things_Meets (D : HV → List HV → M HV) (args : List HV) : M HV :=
fin (
uA args fun x0l r =>
uI .u8 x0l fun x0c0 r_1 =>
uI .u8 r_1 fun x0c1 r_2 =>
uI .u8 r_2 fun x0c2 r_3 =>
nl r_3 (
uA r fun x1l r_4 =>
uI .u8 x1l fun x1c0 r_5 =>
uI .u8 r_5 fun x1c1 r_6 =>
uI .u8 r_6 fun x1c2 r_7 =>
nl r_7 (
nl r_4 (
blk 0 (
loopD (fun vs_1 =>
uI .i64 vs_1 fun x6 r_8 =>
nl r_8 (
cond (decide (x6 < 3)) (
gd (decide (0 ≤ x6)) (gd (decide (x6 < (3 : Int))) (
gx [.int .u8 x0c0, .int .u8 x0c1, .int .u8 x0c2] (0 + x6.toNat * 1) fun v => asI .u8 v fun x11 =>
gd (decide (0 ≤ x6)) (gd (decide (x6 < (3 : Int))) (
gx [.int .u8 x1c0, .int .u8 x1c1, .int .u8 x1c2] (0 + x6.toNat * 1) fun v_1 => asI .u8 v_1 fun x14 =>
cond ((IntKind.wrap .u8 ((BitVec.ofInt 8 x11 &&& BitVec.ofInt 8 x14).toNat : Int)) != 0) (
ret (.ret [.bool true])) (
ret (.norm [I (wr (x6 + 1))]))))))) (
ret (.exit 0 [])))) [I 0]) fun vs =>
nl vs (
ret (.ret [.bool false]))))))

/-- countermand/scope.Clash -/
def f_scope_Clash (D : HV → List HV → M HV) (args : List HV) : M HV :=
fin (
uA args fun x0l r =>
uA r fun x1l r_1 =>
nl r_1 (
jn (
gxN x0l 3 3 fun x6l =>
uI .u8 x6l fun x6c0 r_2 =>
uI .u8 r_2 fun x6c1 r_3 =>
uI .u8 r_3 fun x6c2 r_4 =>
nl r_4 (
gxN x1l 3 3 fun x8l =>
uI .u8 x8l fun x8c0 r_5 =>
uI .u8 r_5 fun x8c1 r_6 =>
uI .u8 r_6 fun x8c2 r_7 =>
nl r_7 (
bnd (f_scope_Things_Meets D [.agg [.int .u8 x6c0, .int .u8 x6c1, .int .u8 x6c2], .agg [.int .u8 x8c0, .int .u8 x8c1, .int .u8 x8c2]]) fun r_8 =>
asB r_8 fun x9 =>
cond x9 (
ret (.norm [.bool true])) (
gxN x0l 3 3 fun x12l =>
uI .u8 x12l fun x12c0 r_9 =>
uI .u8 r_9 fun x12c1 r_10 =>
uI .u8 r_10 fun x12c2 r_11 =>
nl r_11 (
gxN x1l 0 3 fun x14l =>
uI .u8 x14l fun x14c0 r_12 =>
uI .u8 r_12 fun x14c1 r_13 =>
uI .u8 r_13 fun x14c2 r_14 =>
nl r_14 (
bnd (f_scope_Things_Meets D [.agg [.int .u8 x12c0, .int .u8 x12c1, .int .u8 x12c2], .agg [.int .u8 x14c0, .int .u8 x14c1, .int .u8 x14c2]]) fun r_15 =>
asB r_15 fun x15 =>
cond x15 (
ret (.norm [.bool true])) (
gxN x1l 3 3 fun x19l =>
uI .u8 x19l fun x19c0 r_16 =>
uI .u8 r_16 fun x19c1 r_17 =>
uI .u8 r_17 fun x19c2 r_18 =>
nl r_18 (
gxN x0l 0 3 fun x21l =>
uI .u8 x21l fun x21c0 r_19 =>
uI .u8 r_19 fun x21c1 r_20 =>
uI .u8 r_20 fun x21c2 r_21 =>
nl r_21 (
bnd (f_scope_Things_Meets D [.agg [.int .u8 x19c0, .int .u8 x19c1, .int .u8 x19c2], .agg [.int .u8 x21c0, .int .u8 x21c1, .int .u8 x21c2]]) fun r_22 =>
asB r_22 fun x22 =>
ret (.norm [.bool x22])))))))))) fun vs =>
uB vs fun x4 r_23 =>
nl r_23 (
ret (.ret [.bool x4]))))

/-- countermand/countermandref28.Clash -/
def f_ref28_Clash (D : HV → List HV → M HV) (args : List HV) : M HV :=
fin (
uA args fun x0l r =>
uA r fun x1l r_1 =>
nl r_1 (
blk 0 (
loopD (fun vs_1 =>
uI .i64 vs_1 fun x5 r_2 =>
nl r_2 (
cond (decide (x5 < 3)) (
blk 2 (
loopD (fun vs_3 =>
uI .i64 vs_3 fun x6 r_3 =>
nl r_3 (
cond (decide (x6 < 8)) (
jn (
gd (decide (0 ≤ x5)) (gd (decide (x5 < (3 : Int))) (
gd (decide (0 ≤ x6)) (gd (decide (x6 < (8 : Int))) (
gx x0l (24 + x5.toNat * 8 + x6.toNat * 1) fun v => asB v fun x20 =>
cond x20 (
gd (decide (0 ≤ x5)) (gd (decide (x5 < (3 : Int))) (
gd (decide (0 ≤ x6)) (gd (decide (x6 < (8 : Int))) (
gx x1l (0 + x5.toNat * 8 + x6.toNat * 1) fun v_1 => asB v_1 fun x27 =>
cond x27 (
ret (.norm [.bool true])) (
gd (decide (0 ≤ x5)) (gd (decide (x5 < (3 : Int))) (
gd (decide (0 ≤ x6)) (gd (decide (x6 < (8 : Int))) (
gx x1l (24 + x5.toNat * 8 + x6.toNat * 1) fun v_2 => asB v_2 fun x34 =>
cond x34 (
ret (.norm [.bool true])) (
gd (decide (0 ≤ x5)) (gd (decide (x5 < (3 : Int))) (
gd (decide (0 ≤ x6)) (gd (decide (x6 < (8 : Int))) (
gx x1l (24 + x5.toNat * 8 + x6.toNat * 1) fun v_3 => asB v_3 fun x43 =>
cond x43 (
gd (decide (0 ≤ x5)) (gd (decide (x5 < (3 : Int))) (
gd (decide (0 ≤ x6)) (gd (decide (x6 < (8 : Int))) (
gx x0l (0 + x5.toNat * 8 + x6.toNat * 1) fun v_4 => asB v_4 fun x50 =>
ret (.norm [.bool x50])))))) (
ret (.norm [.bool false]))))))))))))))))) (
gd (decide (0 ≤ x5)) (gd (decide (x5 < (3 : Int))) (
gd (decide (0 ≤ x6)) (gd (decide (x6 < (8 : Int))) (
gx x1l (24 + x5.toNat * 8 + x6.toNat * 1) fun v_5 => asB v_5 fun x43_1 =>
cond x43_1 (
gd (decide (0 ≤ x5)) (gd (decide (x5 < (3 : Int))) (
gd (decide (0 ≤ x6)) (gd (decide (x6 < (8 : Int))) (
gx x0l (0 + x5.toNat * 8 + x6.toNat * 1) fun v_6 => asB v_6 fun x50_1 =>
ret (.norm [.bool x50_1])))))) (
ret (.norm [.bool false])))))))))))) fun vs_4 =>
uB vs_4 fun x52 r_4 =>
nl r_4 (
cond x52 (
ret (.ret [.bool true])) (
ret (.norm [I (wr (x6 + 1))])))) (
ret (.exit 2 [])))) [I 0]) fun vs_2 =>
nl vs_2 (
ret (.norm [I (wr (x5 + 1))]))) (
ret (.exit 0 [])))) [I 0]) fun vs =>
nl vs (
ret (.ret [.bool false]))))

/-- countermand/countermandlaw28.bitsOf -/
def f_law28_bitsOf (D : HV → List HV → M HV) (args : List HV) : M HV :=
fin (
uA args fun x0l r =>
uI .u8 x0l fun x0c0 r_1 =>
uI .u8 r_1 fun x0c1 r_2 =>
uI .u8 r_2 fun x0c2 r_3 =>
nl r_3 (
nl r (
blk 0 (
loopD (fun vs_1 =>
uI .i64 vs_1 fun x6 r_4 =>
uA r_4 fun y3 r_5 =>
nl r_5 (
cond (decide (x6 < 3)) (
blk 2 (
loopD (fun vs_3 =>
uI .i64 vs_3 fun x9 r_6 =>
uA r_6 fun y3_1 r_7 =>
nl r_7 (
cond (decide (x9 < 8)) (
gd (decide (0 ≤ x6)) (gd (decide (x6 < (3 : Int))) (
gx [.int .u8 x0c0, .int .u8 x0c1, .int .u8 x0c2] (0 + x6.toNat * 1) fun v => asI .u8 v fun x16 =>
gd (decide (0 ≤ IntKind.wrap .u64 x9)) (
gd (decide (0 ≤ x6)) (gd (decide (x6 < (3 : Int))) (
gd (decide (0 ≤ x9)) (gd (decide (x9 < (8 : Int))) (
gd (decide (0 + x6.toNat * 8 + x9.toNat * 1 < y3_1.length)) (
ret (.norm [I (wr (x9 + 1)), .agg (List.set y3_1 (0 + x6.toNat * 8 + x9.toNat * 1) (.bool ((IntKind.wrap .u8 ((BitVec.ofInt 8 (Int.fdiv x16 (2 ^ (min (IntKind.wrap .u64 x9).toNat 8))) &&& BitVec.ofInt 8 1).toNat : Int)) == 1)))])))))))))) (
ret (.exit 2 [.agg y3_1])))) [I 0, .agg y3]) fun vs_2 =>
uA vs_2 fun y3_2 r_8 =>
nl r_8 (
ret (.norm [I (wr (x6 + 1)), .agg y3_2]))) (
ret (.exit 0 [.agg y3])))) [I 0, .agg (List.replicate 24 (HV.bool false))]) fun vs =>
uA vs fun y3_3 r_9 =>
nl r_9 (
gxN y3_3 0 24 fun x26l =>
gd (Nat.beq x26l.length 24) (
gd (Nat.ble (0 + x26l.length) (List.replicate 24 (HV.bool false)).length) (
gxN (putN (List.replicate 24 (HV.bool false)) 0 x26l) 0 24 fun z0l =>
ret (.ret [.agg z0l])))))))

/-- countermand/countermandlaw28.plain -/
def f_law28_plain (D : HV → List HV → M HV) (args : List HV) : M HV :=
fin (
uA args fun x0l r =>
nl r (
gxN x0l 0 3 fun x4l =>
uI .u8 x4l fun x4c0 r_1 =>
uI .u8 r_1 fun x4c1 r_2 =>
uI .u8 r_2 fun x4c2 r_3 =>
nl r_3 (
bnd (f_law28_bitsOf D [.agg [.int .u8 x4c0, .int .u8 x4c1, .int .u8 x4c2]]) fun r_4 =>
asA r_4 fun x5l =>
gxN x0l 3 3 fun x7l =>
uI .u8 x7l fun x7c0 r_5 =>
uI .u8 r_5 fun x7c1 r_6 =>
uI .u8 r_6 fun x7c2 r_7 =>
nl r_7 (
bnd (f_law28_bitsOf D [.agg [.int .u8 x7c0, .int .u8 x7c1, .int .u8 x7c2]]) fun r_8 =>
asA r_8 fun x8l =>
gxN x0l 6 3 fun x10l =>
uB x10l fun x10c0 r_9 =>
uB r_9 fun x10c1 r_10 =>
uB r_10 fun x10c2 r_11 =>
nl r_11 (
gxN x0l 9 4 fun x12l =>
uB x12l fun x12c0 r_12 =>
uB r_12 fun x12c1 r_13 =>
uB r_13 fun x12c2 r_14 =>
uB r_14 fun x12c3 r_15 =>
nl r_15 (
gx x0l 13 fun v => asB v fun x14 =>
gx x0l 14 fun v_1 => asB v_1 fun x16 =>
gd (Nat.beq x5l.length 24) (gd (Nat.beq x8l.length 24) (gd (Nat.beq (putN (putN (putN (putN (putN (putN (List.replicate 57 (HV.bool false)) 0 x5l) 24 x8l) 48 [.bool x10c0, .bool x10c1, .bool x10c2]) 51 [.bool x12c0, .bool x12c1, .bool x12c2, .bool x12c3]) 55 [.bool x14]) 56 [.bool x16]).length 57) (
gd (Nat.ble (0 + (putN (putN (putN (putN (putN (putN (List.replicate 57 (HV.bool false)) 0 x5l) 24 x8l) 48 [.bool x10c0, .bool x10c1, .bool x10c2]) 51 [.bool x12c0, .bool x12c1, .bool x12c2, .bool x12c3]) 55 [.bool x14]) 56 [.bool x16]).length) (List.replicate 57 (HV.bool false)).length) (
gxN (putN (List.replicate 57 (HV.bool false)) 0 (putN (putN (putN (putN (putN (putN (List.replicate 57 (HV.bool false)) 0 x5l) 24 x8l) 48 [.bool x10c0, .bool x10c1, .bool x10c2]) 51 [.bool x12c0, .bool x12c1, .bool x12c2, .bool x12c3]) 55 [.bool x14]) 56 [.bool x16])) 0 57 fun z0l =>
ret (.ret [.agg z0l])))))))))))

/-- (countermand/scope.Things).All$1 -/
def f_scope_Things_All_1 (D : HV → List HV → M HV) (args : List HV) : M HV :=
fin (
uc args fun x0 r =>
uP r fun x1 r_1 =>
nl r_1 (
blk 0 (
loopD (fun vs_1 =>
uI .i64 vs_1 fun x3 r_2 =>
nl r_2 (
cond (decide (x3 ≤ 2)) (
blk 2 (
loopD (fun vs_3 =>
uI .i64 vs_3 fun x9 r_3 =>
nl r_3 (
cond (decide (x9 < 8)) (
jn (
mP x1 fun x12b x12o =>
ldN x12b x12o 3 fun x12l =>
uI .u8 x12l fun x12c0 r_4 =>
uI .u8 r_4 fun x12c1 r_5 =>
uI .u8 r_5 fun x12c2 r_6 =>
nl r_6 (
bnd (f_scope_Things_Has D [.agg [.int .u8 x12c0, .int .u8 x12c1, .int .u8 x12c2], I x3, I x9]) fun r_7 =>
asB r_7 fun x15 =>
cond x15 (
bnd (D x0 [I x3, I x9]) fun r_8 =>
asB r_8 fun x20 =>
ret (.norm [.bool (!x20)])) (
ret (.norm [.bool false])))) fun vs_4 =>
uB vs_4 fun x22 r_9 =>
nl r_9 (
cond x22 (
ret (.ret [])) (
ret (.norm [I (wr (x9 + 1))])))) (
ret (.exit 2 [])))) [I 0]) fun vs_2 =>
nl vs_2 (
ret (.norm [I (wr (x3 + 1))]))) (
ret (.exit 0 [])))) [I 0]) fun vs =>
nl vs (
ret (.ret []))))

/-- (countermand/scope.Things).All -/
def f_scope_Things_All (D : HV → List HV → M HV) (args : List HV) : M HV :=
fin (
uA args fun x0l r =>
uI .u8 x0l fun x0c0 r_1 =>
uI .u8 r_1 fun x0c1 r_2 =>
uI .u8 r_2 fun x0c2 r_3 =>
nl r_3 (
nl r (
nw [.int .u8 x0c0, .int .u8 x0c1, .int .u8 x0c2] fun b1 =>
ret (.ret [.func n_scope_Things_All_1 [] [.ptr (some (b1, 0))]]))))

/-- math/bits.OnesCount8 -/
def f_math_bits_OnesCount8 (D : HV → List HV → M HV) (args : List HV) : M HV :=
fin (
uI .u8 args fun x0 r =>
nl r (
gd (decide (0 ≤ x0)) (gd (decide (x0 < ((ByteArray.mk #[0, 1, 1, 2, 1, 2, 2, 3, 1, 2, 2, 3, 2, 3, 3, 4, 1, 2, 2, 3, 2, 3, 3, 4, 2, 3, 3, 4, 3, 4, 4, 5, 1, 2, 2, 3, 2, 3, 3, 4, 2, 3, 3, 4, 3, 4, 4, 5, 2, 3, 3, 4, 3, 4, 4, 5, 3, 4, 4, 5, 4, 5, 5, 6, 1, 2, 2, 3, 2, 3, 3, 4, 2, 3, 3, 4, 3, 4, 4, 5, 2, 3, 3, 4, 3, 4, 4, 5, 3, 4, 4, 5, 4, 5, 5, 6, 2, 3, 3, 4, 3, 4, 4, 5, 3, 4, 4, 5, 4, 5, 5, 6, 3, 4, 4, 5, 4, 5, 5, 6, 4, 5, 5, 6, 5, 6, 6, 7, 1, 2, 2, 3, 2, 3, 3, 4, 2, 3, 3, 4, 3, 4, 4, 5, 2, 3, 3, 4, 3, 4, 4, 5, 3, 4, 4, 5, 4, 5, 5, 6, 2, 3, 3, 4, 3, 4, 4, 5, 3, 4, 4, 5, 4, 5, 5, 6, 3, 4, 4, 5, 4, 5, 5, 6, 4, 5, 5, 6, 5, 6, 6, 7, 2, 3, 3, 4, 3, 4, 4, 5, 3, 4, 4, 5, 4, 5, 5, 6, 3, 4, 4, 5, 4, 5, 5, 6, 4, 5, 5, 6, 5, 6, 6, 7, 3, 4, 4, 5, 4, 5, 5, 6, 4, 5, 5, 6, 5, 6, 6, 7, 4, 5, 5, 6, 5, 6, 6, 7, 5, 6, 6, 7, 6, 7, 7, 8]).size : Int))) (
ret (.ret [I (wr (((ByteArray.mk #[0, 1, 1, 2, 1, 2, 2, 3, 1, 2, 2, 3, 2, 3, 3, 4, 1, 2, 2, 3, 2, 3, 3, 4, 2, 3, 3, 4, 3, 4, 4, 5, 1, 2, 2, 3, 2, 3, 3, 4, 2, 3, 3, 4, 3, 4, 4, 5, 2, 3, 3, 4, 3, 4, 4, 5, 3, 4, 4, 5, 4, 5, 5, 6, 1, 2, 2, 3, 2, 3, 3, 4, 2, 3, 3, 4, 3, 4, 4, 5, 2, 3, 3, 4, 3, 4, 4, 5, 3, 4, 4, 5, 4, 5, 5, 6, 2, 3, 3, 4, 3, 4, 4, 5, 3, 4, 4, 5, 4, 5, 5, 6, 3, 4, 4, 5, 4, 5, 5, 6, 4, 5, 5, 6, 5, 6, 6, 7, 1, 2, 2, 3, 2, 3, 3, 4, 2, 3, 3, 4, 3, 4, 4, 5, 2, 3, 3, 4, 3, 4, 4, 5, 3, 4, 4, 5, 4, 5, 5, 6, 2, 3, 3, 4, 3, 4, 4, 5, 3, 4, 4, 5, 4, 5, 5, 6, 3, 4, 4, 5, 4, 5, 5, 6, 4, 5, 5, 6, 5, 6, 6, 7, 2, 3, 3, 4, 3, 4, 4, 5, 3, 4, 4, 5, 4, 5, 5, 6, 3, 4, 4, 5, 4, 5, 5, 6, 4, 5, 5, 6, 5, 6, 6, 7, 3, 4, 4, 5, 4, 5, 5, 6, 4, 5, 5, 6, 5, 6, 6, 7, 4, 5, 5, 6, 5, 6, 6, 7, 5, 6, 6, 7, 6, 7, 7, 8]).data[x0.toNat]?.getD 0).toNat : Int))])))))

/-- (countermand/scope.Things).Len -/
def f_scope_Things_Len (D : HV → List HV → M HV) (args : List HV) : M HV :=
fin (
uA args fun x0l r =>
uI .u8 x0l fun x0c0 r_1 =>
uI .u8 r_1 fun x0c1 r_2 =>
uI .u8 r_2 fun x0c2 r_3 =>
nl r_3 (
nl r (
blk 0 (
loopD (fun vs_1 =>
uI .i64 vs_1 fun x3 r_4 =>
uI .i64 r_4 fun x7 r_5 =>
nl r_5 (
cond (decide (x7 < 3)) (
gd (decide (0 ≤ x7)) (gd (decide (x7 < (3 : Int))) (
gx [.int .u8 x0c0, .int .u8 x0c1, .int .u8 x0c2] (x7.toNat * 1) fun v => asI .u8 v fun x9 =>
bnd (f_math_bits_OnesCount8 D [.int .u8 x9]) fun r_6 =>
asI .i64 r_6 fun x12 =>
ret (.norm [I (wr (x3 + x12)), I (wr (x7 + 1))])))) (
ret (.exit 0 [I x3])))) [I 0, I 0]) fun vs =>
uI .i64 vs fun x3_1 r_7 =>
nl r_7 (
ret (.ret [I x3_1])))))

/-- countermand/countermandlaw28.ScopeThings -/
noncomputable def f_law28_ScopeThings (D : HV → List HV → M HV) (args : List HV) : M HV :=
fin (
uA args fun x0l r =>
uI .u8 x0l fun x0c0 r_1 =>
uI .u8 r_1 fun x0c1 r_2 =>
uI .u8 r_2 fun x0c2 r_3 =>
nl r_3 (
uA r fun x1l r_4 =>
uI .u8 x1l fun x1c0 r_5 =>
uI .u8 r_5 fun x1c1 r_6 =>
uI .u8 r_6 fun x1c2 r_7 =>
nl r_7 (
uI .i64 r_4 fun x2 r_8 =>
uI .i64 r_8 fun x3 r_9 =>
uI .i64 r_9 fun x4 r_10 =>
nl r_10 (
nw [I x4] fun b9 =>
nw [.bool false] fun b10 =>
bnd (f_law28_alive D []) fun r_11 =>
asB r_11 fun x21 =>
cond (!x21) (
stC b10 0 (.bool false) (
ldC b10 0 fun v => asB v fun z0 =>
ret (.ret [.bool z0]))) (
bnd (f_law28_bitsOf D [.agg [.int .u8 x0c0, .int .u8 x0c1, .int .u8 x0c2]]) fun r_12 =>
asA r_12 fun x24l =>
bnd (f_law28_bitsOf D [.agg [.int .u8 x1c0, .int .u8 x1c1, .int .u8 x1c2]]) fun r_13 =>
asA r_13 fun x26l =>
gd (Nat.beq x24l.length 24) (
gd (Nat.ble (0 + x24l.length) (List.replicate 24 (HV.bool false)).length) (
gd (Nat.beq x26l.length 24) (
gd (Nat.ble (0 + x26l.length) (List.replicate 24 (HV.bool false)).length) (
nw (putN (List.replicate 24 (HV.bool false)) 0 x24l) fun b11 =>
nw [I 0] fun b15 =>
stC b15 0 (I 0) (
blk 0 (
loopD (fun vs_1 =>
uI .i64 vs_1 fun x13 r_14 =>
uB r_14 fun x14 r_15 =>
uI .i64 r_15 fun x27 r_16 =>
nl r_16 (
cond (decide (x27 < 3)) (
blk 2 (
loopD (fun vs_3 =>
uI .i64 vs_3 fun x13_1 r_17 =>
uB r_17 fun x14_1 r_18 =>
uI .i64 r_18 fun x30 r_19 =>
nl r_19 (
cond (decide (x30 < 8)) (
blk 3 (
snp true fun h =>
snp true fun h_1 =>
snp true fun h_2 =>
snp true fun h_3 =>
bnd (f_scope_Things_Has D [.agg [.int .u8 x0c0, .int .u8 x0c1, .int .u8 x0c2], I x27, I x30]) fun r_20 =>
asB r_20 fun x36 =>
snp true fun h_4 =>
snp true fun h_5 =>
snp true fun h_6 =>
gd (decide (0 ≤ x27)) (gd (decide (x27 < (3 : Int))) (
snp true fun h_7 =>
gd (decide (0 ≤ x30)) (gd (decide (x30 < (8 : Int))) (
snp true fun h_8 =>
ldC b11 (0 + x27.toNat * 8 + x30.toNat * 1) fun v_1 => asB v_1 fun x41 =>
snp true fun h_9 =>
snp true fun h_10 =>
gdP ((h_10.get b11 = h_9.get b11 ∧ h_9.get b11 = h_8.get b11 ∧ h_8.get b11 = h_7.get b11 ∧ h_7.get b11 = h_6.get b11 ∧ h_6.get b11 = h_5.get b11 ∧ h_5.get b11 = h_4.get b11 ∧ h_4.get b11 = h_3.get b11 ∧ h_3.get b11 = h_2.get b11 ∧ h_2.get b11 = h_1.get b11 ∧ h_1.get b11 = h.get b11 ∧ True) ∧ True) (
cond (!(x36 == x41)) (
stC b10 0 (.bool false) (
ldC b10 0 fun v_2 => asB v_2 fun z0_1 =>
ret (.ret [.bool z0_1]))) (
gd (decide (0 ≤ x27)) (gd (decide (x27 < (3 : Int))) (
gd (decide (0 ≤ x30)) (gd (decide (x30 < (8 : Int))) (
ldC b11 (0 + x27.toNat * 8 + x30.toNat * 1) fun v_3 => asB v_3 fun x47 =>
jn (
cond x47 (
ret (.norm [I (wr (x13_1 + 1))])) (
ret (.norm [I x13_1]))) fun vs_5 =>
uI .i64 vs_5 fun x13_2 r_21 =>
nl r_21 (
cond x14_1 (
ret (.norm [I x13_2, .bool true])) (
gd (decide (0 ≤ x27)) (gd (decide (x27 < (3 : Int))) (
gd (decide (0 ≤ x30)) (gd (decide (x30 < (8 : Int))) (
ldC b11 (0 + x27.toNat * 8 + x30.toNat * 1) fun v_4 => asB v_4 fun x56 =>
cond x56 (
gd (decide (0 ≤ x27)) (gd (decide (x27 < (3 : Int))) (
gd (decide (0 ≤ x30)) (gd (decide (x30 < (8 : Int))) (
gx (putN (List.replicate 24 (HV.bool false)) 0 x26l) (0 + x27.toNat * 8 + x30.toNat * 1) fun v_5 => asB v_5 fun x62 =>
ret (.norm [I x13_2, .bool x62])))))) (
ret (.norm [I x13_2, .bool false]))))))))))))))))))) fun vs_4 =>
uI .i64 vs_4 fun x13_3 r_22 =>
uB r_22 fun x14_2 r_23 =>
nl r_23 (
ret (.norm [I x13_3, .bool x14_2, I (wr (x30 + 1))]))) (
ret (.exit 2 [I x13_1, .bool x14_1])))) [I x13, .bool x14, I 0]) fun vs_2 =>
uI .i64 vs_2 fun x13_4 r_24 =>
uB r_24 fun x14_3 r_25 =>
nl r_25 (
ret (.norm [I x13_4, .bool x14_3, I (wr (x27 + 1))]))) (
ret (.exit 0 [I x13, .bool x14])))) [I 0, .bool false, I 0]) fun vs =>
uI .i64 vs fun x13_5 r_26 =>
uB r_26 fun x14_4 r_27 =>
nl r_27 (
nw [I 0] fun b18 =>
stC b18 0 (I (-1)) (
bnd (f_scope_Things_All D [.agg [.int .u8 x0c0, .int .u8 x0c1, .int .u8 x0c2]]) fun r_28 =>
blk 4 (
ny r_28 (nwL 42271286 [(9, .ptr (some (b9, 0))), (10, .ptr (some (b10, 0))), (11, .ptr (some (b11, 0))), (15, .ptr (some (b15, 0))), (18, .ptr (some (b18, 0)))] fun l =>
bnd (D r_28 [.yld l]) fun q =>
endL l (
ret (.norm []))
(onX 4 (ret (.exit 4 [])) noX) (
ldC b10 0 fun v_6 => asB v_6 fun z0_2 =>
ret (.ret [.bool z0_2])))) fun vs_6 =>
nl vs_6 (
jn (
cond (decide (x2 < 0)) (
bnd (f_scope_Things_Has D [.agg [.int .u8 x0c0, .int .u8 x0c1, .int .u8 x0c2], I x2, I x3]) fun r_29 =>
asB r_29 fun x128 =>
ret (.norm [.bool x128])) (
cond (decide (x2 > 2)) (
bnd (f_scope_Things_Has D [.agg [.int .u8 x0c0, .int .u8 x0c1, .int .u8 x0c2], I x2, I x3]) fun r_30 =>
asB r_30 fun x128_1 =>
ret (.norm [.bool x128_1])) (
cond (decide (x3 < 0)) (
bnd (f_scope_Things_Has D [.agg [.int .u8 x0c0, .int .u8 x0c1, .int .u8 x0c2], I x2, I x3]) fun r_31 =>
asB r_31 fun x128_2 =>
ret (.norm [.bool x128_2])) (
cond (decide (x3 > 7)) (
bnd (f_scope_Things_Has D [.agg [.int .u8 x0c0, .int .u8 x0c1, .int .u8 x0c2], I x2, I x3]) fun r_32 =>
asB r_32 fun x128_3 =>
ret (.norm [.bool x128_3])) (
ret (.norm [.bool false])))))) fun vs_7 =>
uB vs_7 fun x129 r_33 =>
nl r_33 (
cond x129 (
stC b10 0 (.bool false) (
ldC b10 0 fun v_7 => asB v_7 fun z0_3 =>
ret (.ret [.bool z0_3]))) (
jn (
bnd (f_scope_Things_Len D [.agg [.int .u8 x0c0, .int .u8 x0c1, .int .u8 x0c2]]) fun r_34 =>
asI .i64 r_34 fun x131 =>
cond (x131 == x13_5) (
bnd (f_scope_Things_Meets D [.agg [.int .u8 x0c0, .int .u8 x0c1, .int .u8 x0c2], .agg [.int .u8 x1c0, .int .u8 x1c1, .int .u8 x1c2]]) fun r_35 =>
asB r_35 fun x137 =>
cond (x137 == x14_4) (
bnd (f_scope_Things_Meets D [.agg [.int .u8 x1c0, .int .u8 x1c1, .int .u8 x1c2], .agg [.int .u8 x0c0, .int .u8 x0c1, .int .u8 x0c2]]) fun r_36 =>
asB r_36 fun x144 =>
cond (x144 == x14_4) (
ldC b15 0 fun v_8 => asI .i64 v_8 fun x149 =>
ldC b9 0 fun v_9 => asI .i64 v_9 fun x150 =>
cond (x149 == x150) (
stC b10 0 (.bool true) (
ret (.norm []))) (
ldC b15 0 fun v_10 => asI .i64 v_10 fun x153 =>
stC b10 0 (.bool (x153 == x13_5)) (
ret (.norm [])))) (
stC b10 0 (.bool false) (
ret (.norm [])))) (
stC b10 0 (.bool false) (
ret (.norm [])))) (
stC b10 0 (.bool false) (
ret (.norm [])))) fun vs_8 =>
nl vs_8 (
ldC b10 0 fun v_11 => asB v_11 fun z0_4 =>
ret (.ret [.bool z0_4])))))))))))))))))

/-- a round of countermand/countermandlaw28.ScopeThings -/
def r0_law28_ScopeThings (D : HV → List HV → M HV) (l : Nat) (vs : List (Nat × HV)) (args : List HV) : M Leaf :=
gdS [9, 10, 11, 15, 18] vs fun vs' =>
uP vs' fun x9 r =>
uP r fun x10 r_1 =>
uP r_1 fun x11 r_2 =>
uP r_2 fun x15 r_3 =>
uP r_3 fun x18 r_4 =>
nl r_4 (
uI .i64 args fun x69 r_5 =>
uI .i64 r_5 fun x70 r_6 =>
nl r_6 (
busyL l (
jn (
cond (decide (x69 < 0)) (
ret (.norm [.bool true])) (
cond (decide (x69 > 2)) (
ret (.norm [.bool true])) (
cond (decide (x70 < 0)) (
ret (.norm [.bool true])) (
cond (decide (x70 > 7)) (
ret (.norm [.bool true])) (
mP x18 fun x90b x90o =>
ldC x90b x90o fun v => asI .i64 v fun x90 =>
cond (decide ((wr ((wr (8 * x69)) + x70)) ≤ x90)) (
ret (.norm [.bool true])) (
mP x11 fun x96b x96o =>
gd (decide (0 ≤ x69)) (gd (decide (x69 < (3 : Int))) (
gd (decide (0 ≤ x70)) (gd (decide (x70 < (8 : Int))) (
ldC x96b (x96o + x69.toNat * 8 + x70.toNat * 1) fun v_1 => asB v_1 fun x98 =>
ret (.norm [.bool (!x98)]))))))))))) fun vs_1 =>
uB vs_1 fun x100 r_7 =>
nl r_7 (
cond x100 (
mP x10 fun qb qo =>
stC qb qo (.bool false) (
ret (.ret []))) (
mP x18 fun qb_1 qo_1 =>
stC qb_1 qo_1 (I (wr ((wr (8 * x69)) + x70))) (
mP x15 fun x105b x105o =>
ldC x105b x105o fun v_2 => asI .i64 v_2 fun x105 =>
mP x15 fun qb_2 qo_2 =>
stC qb_2 qo_2 (I (wr (x105 + 1))) (
mP x15 fun x107b x107o =>
ldC x107b x107o fun v_3 => asI .i64 v_3 fun x107 =>
mP x9 fun x108b x108o =>
ldC x108b x108o fun v_4 => asI .i64 v_4 fun x108 =>
cond (x107 == x108) (
ret (.exit 4 [])) (
ret (.norm [])))))))))

/-- countermand/scope.Apart -/
def f_scope_Apart (D : HV → List HV → M HV) (args : List HV) : M HV :=
fin (
uL args fun x0 r =>
uL r fun x1 r_1 =>
nl r_1 (
nw [.sl x1] fun b3 =>
nw [.bool false] fun b4 =>
jn (
bnd (f_bound_Most D [.sl x0]) fun r_2 =>
asSl r_2 fun x10 =>
cond ((x10.len : Int) == 0) (
ret (.norm [.bool true])) (
ldC b3 0 fun v => asSl v fun x14 =>
bnd (f_bound_Most D [.sl x14]) fun r_3 =>
asSl r_3 fun x15 =>
ret (.norm [.bool ((x15.len : Int) == 0)]))) fun vs =>
uB vs fun x18 r_4 =>
nl r_4 (
cond x18 (
stC b4 0 (.bool false) (
ldC b4 0 fun v_1 => asB v_1 fun z0 =>
ret (.ret [.bool z0]))) (
bnd (f_scope_All D [.sl x0]) fun r_5 =>
blk 0 (
ny r_5 (nwL 91524749 [(3, .ptr (some (b3, 0))), (4, .ptr (some (b4, 0)))] fun l =>
bnd (D r_5 [.yld l]) fun q =>
endL l (
ret (.norm []))
(onX 0 (ret (.exit 0 [])) noX) (
ldC b4 0 fun v_2 => asB v_2 fun z0_1 =>
ret (.ret [.bool z0_1])))) fun vs_1 =>
nl vs_1 (
stC b4 0 (.bool true) (
ldC b4 0 fun v_3 => asB v_3 fun z0_2 =>
ret (.ret [.bool z0_2])))))))

/-- a round of countermand/scope.Apart -/
def r0_scope_Apart (D : HV → List HV → M HV) (l : Nat) (vs : List (Nat × HV)) (args : List HV) : M Leaf :=
gdS [3, 4] vs fun vs' =>
uP vs' fun x3 r =>
uP r fun x4 r_1 =>
nl r_1 (
uI .i64 args fun x21 r_2 =>
uA r_2 fun x22l r_3 =>
nl r_3 (
nw [.int .u8 0, .int .u8 0, .int .u8 0, .int .u8 0, .int .u8 0, .int .u8 0, .bool false, .bool false, .bool false, .bool false, .bool false, .bool false, .bool false, .bool false, .bool false] fun b6 =>
gd (Nat.beq x22l.length 15) (
stN b6 0 x22l (
busyL l (
mP x3 fun x23b x23o =>
ldC x23b x23o fun v => asSl v fun x23 =>
bnd (f_scope_All D [.sl x23]) fun r_4 =>
ny r_4 (nwL 23525095 [(4, .ptr x4), (6, .ptr (some (b6, 0)))] fun l_1 =>
bnd (D r_4 [.yld l_1]) fun q =>
endL l_1 (
ret (.norm []))
(onX 2 (stk) (onX 1 (stk) noX)) (
ret (.ret []))))))))

/-- a round of countermand/scope.Apart -/
def r0_0_scope_Apart (D : HV → List HV → M HV) (l : Nat) (vs : List (Nat × HV)) (args : List HV) : M Leaf :=
gdS [4, 6] vs fun vs' =>
uP vs' fun x4 r =>
uP r fun x6 r_1 =>
nl r_1 (
uI .i64 args fun x25 r_2 =>
uA r_2 fun x26l r_3 =>
nl r_3 (
gd (Nat.beq x26l.length 15) (
gd (Nat.ble (0 + x26l.length) (([.int .u8 0, .int .u8 0, .int .u8 0, .int .u8 0, .int .u8 0, .int .u8 0, .bool false, .bool false, .bool false, .bool false, .bool false, .bool false, .bool false, .bool false, .bool false]) : List HV).length) (
busyL l (
mP x6 fun x27b x27o =>
ldN x27b x27o 15 fun x27l =>
gxN (putN [.int .u8 0, .int .u8 0, .int .u8 0, .int .u8 0, .int .u8 0, .int .u8 0, .bool false, .bool false, .bool false, .bool false, .bool false, .bool false, .bool false, .bool false, .bool false] 0 x26l) 0 15 fun x28l =>
bnd (f_scope_Clash D [.agg x27l, .agg x28l]) fun r_4 =>
asB r_4 fun x29 =>
cond x29 (
mP x4 fun qb qo =>
stC qb qo (.bool false) (
ret (.ret []))) (
ret (.norm [])))))))

/-- countermand/countermandref28.Apart -/
def f_ref28_Apart (D : HV → List HV → M HV) (args : List HV) : M HV :=
fin (
uL args fun x0 r =>
uL r fun x1 r_1 =>
nl r_1 (
jn (
bnd (f_ref27_Can D [.sl x0]) fun r_2 =>
asB r_2 fun x12 =>
cond (!x12) (
ret (.norm [.bool true])) (
bnd (f_ref27_Can D [.sl x1]) fun r_3 =>
asB r_3 fun x16 =>
ret (.norm [.bool (!x16)]))) fun vs =>
uB vs fun x18 r_4 =>
nl r_4 (
cond x18 (
ret (.ret [.bool false])) (
blk 0 (
loopD (fun vs_2 =>
uI .i64 vs_2 fun x21 r_5 =>
nl r_5 (
cond (decide (x21 < (x0.len : Int))) (
blk 1 (
bnd (f_ref28_Of D [.sl x0, I x21]) fun r_6 =>
asT r_6 fun x27l => uA x27l fun x27t0l r_7 =>
uB r_7 fun x27t1 r_8 =>
nl r_8 (
gd (Nat.beq x27t0l.length 57) (
gd (Nat.ble (0 + x27t0l.length) (List.replicate 57 (HV.bool false)).length) (
cond (!x27t1) (
ret (.exit 1 [])) (
blk 2 (
loopD (fun vs_5 =>
uI .i64 vs_5 fun x34 r_9 =>
nl r_9 (
cond (decide (x34 < (x1.len : Int))) (
bnd (f_ref28_Of D [.sl x1, I x34]) fun r_10 =>
asT r_10 fun x40l => uA x40l fun x40t0l r_11 =>
uB r_11 fun x40t1 r_12 =>
nl r_12 (
gd (Nat.beq x40t0l.length 57) (
gd (Nat.ble (0 + x40t0l.length) (List.replicate 57 (HV.bool false)).length) (
jn (
cond x40t1 (
gxN (putN (List.replicate 57 (HV.bool false)) 0 x27t0l) 0 57 fun x45l =>
gxN (putN (List.replicate 57 (HV.bool false)) 0 x40t0l) 0 57 fun x46l =>
bnd (f_ref28_Clash D [.agg x45l, .agg x46l]) fun r_13 =>
asB r_13 fun x47 =>
ret (.norm [.bool x47])) (
ret (.norm [.bool false]))) fun vs_6 =>
uB vs_6 fun x48 r_14 =>
nl r_14 (
cond x48 (
ret (.ret [.bool false])) (
ret (.norm [I (wr (x34 + 1))]))))))) (
ret (.exit 2 [])))) [I 0]) fun vs_4 =>
nl vs_4 (
ret (.norm []))))))) fun vs_3 =>
nl vs_3 (
ret (.norm [I (wr (x21 + 1))]))) (
ret (.exit 0 [])))) [I 0]) fun vs_1 =>
nl vs_1 (
ret (.ret [.bool true]))))))

/-- countermand/countermandlaw28.ScopeClash -/
def f_law28_ScopeClash (D : HV → List HV → M HV) (args : List HV) : M HV :=
fin (
uA args fun x0l r =>
uA r fun x1l r_1 =>
uL r_1 fun x2 r_2 =>
uL r_2 fun x3 r_3 =>
nl r_3 (
bnd (f_law28_alive D []) fun r_4 =>
asB r_4 fun x10 =>
cond (!x10) (
ret (.ret [.bool false])) (
gxN x0l 0 15 fun x12l =>
bnd (f_law28_plain D [.agg x12l]) fun r_5 =>
asA r_5 fun x13l =>
gxN x1l 0 15 fun x14l =>
bnd (f_law28_plain D [.agg x14l]) fun r_6 =>
asA r_6 fun x15l =>
bnd (f_ref28_Clash D [.agg x13l, .agg x15l]) fun r_7 =>
asB r_7 fun x16 =>
jn (
gxN x0l 0 15 fun x17l =>
gxN x1l 0 15 fun x18l =>
bnd (f_scope_Clash D [.agg x17l, .agg x18l]) fun r_8 =>
asB r_8 fun x19 =>
cond (x19 == x16) (
gxN x1l 0 15 fun x23l =>
gxN x0l 0 15 fun x24l =>
bnd (f_scope_Clash D [.agg x23l, .agg x24l]) fun r_9 =>
asB r_9 fun x25 =>
cond (x25 == x16) (
bnd (f_scope_Apart D [.sl x2, .sl x3]) fun r_10 =>
asB r_10 fun x32 =>
bnd (f_ref28_Apart D [.sl x2, .sl x3]) fun r_11 =>
asB r_11 fun x35 =>
cond (x32 == x35) (
bnd (f_scope_Apart D [.sl x2, .sl x3]) fun r_12 =>
asB r_12 fun x41 =>
bnd (f_scope_Apart D [.sl x3, .sl x2]) fun r_13 =>
asB r_13 fun x44 =>
ret (.norm [.bool (x41 == x44)])) (
ret (.norm [.bool false]))) (
ret (.norm [.bool false]))) (
ret (.norm [.bool false]))) fun vs =>
uB vs fun x8 r_14 =>
nl r_14 (
ret (.ret [.bool x8])))))

end Go.Proofs.Ytijppadieomnjaa.HT
