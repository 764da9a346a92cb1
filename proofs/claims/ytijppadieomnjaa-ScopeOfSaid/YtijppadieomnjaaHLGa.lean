/- The texts of functions, printed out of the dump by hlgen3.py. Conditions: none (definitions). -/
import Derived.Test.YtijppadieomnjaaHLZd
import Derived.Test.YtijppadieomnjaaHLGn
namespace Go.Proofs.Ytijppadieomnjaa.HL
open Go
set_option maxRecDepth 100000
set_option linter.unusedVariables false

/-- countermand/code.spans -/
def f_code_spans (D : HV → List HV → M HV) (args : List HV) : M HV :=
fin (
uL args fun x0 r =>
nl r (
gd (decide (0 ≤ (x0.len : Int))) (gd (decide ((x0.len : Int) ≤ (x0.len : Int))) (gd (decide ((x0.len : Int).toNat * 8 ≤ room)) (
nw (repL (x0.len : Int).toNat [I 0]) fun b10 =>
blk 0 (
loopD (fun vs_1 =>
uI .i64 vs_1 fun x5 r_1 =>
uI .i64 r_1 fun x13 r_2 =>
nl r_2 (
cond (decide (x13 < (x0.len : Int))) (
blk 1 (
ix x0 x13 4 fun x16b x16o =>
ldN x16b x16o 4 fun x17l =>
uI .i64 x17l fun x17c0 r_3 =>
uI .i64 r_3 fun x17c1 r_4 =>
uI .i64 r_4 fun x17c2 r_5 =>
uI .i64 r_5 fun x17c3 r_6 =>
nl r_6 (
ix (⟨some (b10, 0), (x0.len : Int).toNat, (x0.len : Int).toNat, none⟩) x13 1 fun x21b x21o =>
stC x21b x21o (I x5) (
cond (x17c0 == 4) (
cond (decide (x5 ≥ 0)) (
ret (.ret [.sl (⟨none, 0, 0, none⟩), .bool false])) (
ret (.norm [I x13]))) (
cond (x17c0 == 5) (
cond (decide (x5 < 0)) (
ret (.ret [.sl (⟨none, 0, 0, none⟩), .bool false])) (
ret (.norm [I (-1)]))) (
ret (.norm [I x5])))))) fun vs_2 =>
uI .i64 vs_2 fun x5_1 r_7 =>
nl r_7 (
ret (.norm [I x5_1, I (wr (x13 + 1))]))) (
ret (.exit 0 [I x5])))) [I (-1), I 0]) fun vs =>
uI .i64 vs fun x5_2 r_8 =>
nl r_8 (
ret (.ret [.sl (⟨some (b10, 0), (x0.len : Int).toNat, (x0.len : Int).toNat, none⟩), .bool (decide (x5_2 < 0))])))))))

/-- countermand/code.in -/
def f_code_in (D : HV → List HV → M HV) (args : List HV) : M HV :=
fin (
uI .i64 args fun x0 r =>
uI .i64 r fun x1 r_1 =>
nl r_1 (
jn (
cond (decide (x0 ≥ 0)) (
ret (.norm [.bool (decide (x0 < x1))])) (
ret (.norm [.bool false]))) fun vs =>
uB vs fun x4 r_2 =>
nl r_2 (
ret (.ret [.bool x4]))))

/-- countermand/code.things -/
def f_code_things (D : HV → List HV → M HV) (args : List HV) : M HV :=
fin (
uA args fun x0l r =>
uI .i64 x0l fun x0c0 r_1 =>
uI .i64 r_1 fun x0c1 r_2 =>
uI .i64 r_2 fun x0c2 r_3 =>
uI .i64 r_3 fun x0c3 r_4 =>
nl r_4 (
nl r (
cond (x0c0 == 8) (
jn (
bnd (f_code_in D [I x0c1, I 4]) fun r_5 =>
asB r_5 fun x9 =>
cond x9 (
bnd (f_code_in D [I x0c2, I 6]) fun r_6 =>
asB r_6 fun x13 =>
cond x13 (
bnd (f_code_in D [I x0c3, I 32]) fun r_7 =>
asB r_7 fun x18 =>
ret (.norm [.bool x18])) (
ret (.norm [.bool false]))) (
ret (.norm [.bool false]))) fun vs =>
uB vs fun x2 r_8 =>
nl r_8 (
ret (.ret [.bool x2]))) (
cond (x0c0 == 9) (
jn (
bnd (f_code_in D [I x0c1, I 6]) fun r_9 =>
asB r_9 fun x24 =>
cond x24 (
bnd (f_code_in D [I x0c2, I 32]) fun r_10 =>
asB r_10 fun x28 =>
cond x28 (
bnd (f_code_in D [I x0c3, I 4]) fun r_11 =>
asB r_11 fun x33 =>
ret (.norm [.bool x33])) (
ret (.norm [.bool false]))) (
ret (.norm [.bool false]))) fun vs_1 =>
uB vs_1 fun x2_1 r_12 =>
nl r_12 (
ret (.ret [.bool x2_1]))) (
jn (
cond (x0c0 == 10) (
ret (.norm [.bool (x0c0 == 10)])) (
ret (.norm [.bool (x0c0 == 11)]))) fun vs_2 =>
uB vs_2 fun x35 r_13 =>
nl r_13 (
cond x35 (
jn (
bnd (f_code_in D [I x0c1, I 6]) fun r_14 =>
asB r_14 fun x40 =>
cond x40 (
cond (x0c2 == 0) (
ret (.norm [.bool (x0c3 == 0)])) (
ret (.norm [.bool false]))) (
ret (.norm [.bool false]))) fun vs_3 =>
uB vs_3 fun x2_2 r_15 =>
nl r_15 (
ret (.ret [.bool x2_2]))) (
cond (x0c0 == 12) (
jn (
bnd (f_code_in D [I x0c1, I 6]) fun r_16 =>
asB r_16 fun x55 =>
cond x55 (
bnd (f_code_in D [I x0c2, I 6]) fun r_17 =>
asB r_17 fun x59 =>
cond x59 (
cond (x0c1 != x0c2) (
ret (.norm [.bool (x0c3 == 0)])) (
ret (.norm [.bool false]))) (
ret (.norm [.bool false]))) (
ret (.norm [.bool false]))) fun vs_4 =>
uB vs_4 fun x2_3 r_18 =>
nl r_18 (
ret (.ret [.bool x2_3]))) (
cond (x0c0 == 13) (
jn (
bnd (f_code_in D [I x0c1, I 6]) fun r_19 =>
asB r_19 fun x77 =>
cond x77 (
bnd (f_code_in D [I x0c2, I 33]) fun r_20 =>
asB r_20 fun x81 =>
cond x81 (
ret (.norm [.bool (x0c3 == 0)])) (
ret (.norm [.bool false]))) (
ret (.norm [.bool false]))) fun vs_5 =>
uB vs_5 fun x2_4 r_21 =>
nl r_21 (
ret (.ret [.bool x2_4]))) (
cond (x0c0 == 14) (
jn (
bnd (f_code_in D [I x0c1, I 4]) fun r_22 =>
asB r_22 fun x92 =>
cond x92 (
bnd (f_code_in D [I x0c2, I 3]) fun r_23 =>
asB r_23 fun x96 =>
cond x96 (
ret (.norm [.bool (x0c3 == 0)])) (
ret (.norm [.bool false]))) (
ret (.norm [.bool false]))) fun vs_6 =>
uB vs_6 fun x2_5 r_24 =>
nl r_24 (
ret (.ret [.bool x2_5]))) (
cond (x0c0 == 15) (
jn (
bnd (f_code_in D [I x0c1, I 3]) fun r_25 =>
asB r_25 fun x107 =>
cond x107 (
bnd (f_code_in D [I x0c2, I 4]) fun r_26 =>
asB r_26 fun x111 =>
cond x111 (
ret (.norm [.bool (x0c3 == 0)])) (
ret (.norm [.bool false]))) (
ret (.norm [.bool false]))) fun vs_7 =>
uB vs_7 fun x2_6 r_27 =>
nl r_27 (
ret (.ret [.bool x2_6]))) (
cond (x0c0 == 16) (
jn (
bnd (f_code_in D [I x0c1, I 3]) fun r_28 =>
asB r_28 fun x122 =>
cond x122 (
bnd (f_code_in D [I x0c2, I 256]) fun r_29 =>
asB r_29 fun x126 =>
cond x126 (
ret (.norm [.bool (x0c3 == 0)])) (
ret (.norm [.bool false]))) (
ret (.norm [.bool false]))) fun vs_8 =>
uB vs_8 fun x2_7 r_30 =>
nl r_30 (
ret (.ret [.bool x2_7]))) (
cond (x0c0 == 17) (
jn (
bnd (f_code_in D [I x0c1, I 256]) fun r_31 =>
asB r_31 fun x137 =>
cond x137 (
cond (x0c2 == 0) (
ret (.norm [.bool (x0c3 == 0)])) (
ret (.norm [.bool false]))) (
ret (.norm [.bool false]))) fun vs_9 =>
uB vs_9 fun x2_8 r_32 =>
nl r_32 (
ret (.ret [.bool x2_8]))) (
cond (x0c0 == 18) (
jn (
bnd (f_code_in D [I x0c1, I 4]) fun r_33 =>
asB r_33 fun x152 =>
cond x152 (
cond (decide (x0c2 ≥ (-100))) (
cond (decide (x0c2 ≤ 100)) (
ret (.norm [.bool (x0c3 == 0)])) (
ret (.norm [.bool false]))) (
ret (.norm [.bool false]))) (
ret (.norm [.bool false]))) fun vs_10 =>
uB vs_10 fun x2_9 r_34 =>
nl r_34 (
ret (.ret [.bool x2_9]))) (
ret (.ret [.bool false])))))))))))))))

/-- countermand/code.fields -/
def f_code_fields (D : HV → List HV → M HV) (args : List HV) : M HV :=
fin (
uA args fun x0l r =>
uI .i64 x0l fun x0c0 r_1 =>
uI .i64 r_1 fun x0c1 r_2 =>
uI .i64 r_2 fun x0c2 r_3 =>
uI .i64 r_3 fun x0c3 r_4 =>
nl r_4 (
nl r (
jn (
cond (x0c0 == 0) (
ret (.norm [.bool (x0c0 == 0)])) (
cond (x0c0 == 4) (
ret (.norm [.bool (x0c0 == 4)])) (
cond (x0c0 == 5) (
ret (.norm [.bool (x0c0 == 5)])) (
cond (x0c0 == 19) (
ret (.norm [.bool (x0c0 == 19)])) (
ret (.norm [.bool (x0c0 == 21)])))))) fun vs =>
uB vs fun x5 r_5 =>
nl r_5 (
cond x5 (
ret (.ret [.bool (cond (x0c0 == x0c0) (cond (x0c1 == 0) (cond (x0c2 == 0) (cond (x0c3 == 0) true false) false) false) false)])) (
cond (x0c0 == 1) (
jn (
bnd (f_code_in D [I x0c1, I 4]) fun r_6 =>
asB r_6 fun x20 =>
cond x20 (
ret (.norm [.bool (x0c3 == 0)])) (
ret (.norm [.bool false]))) fun vs_1 =>
uB vs_1 fun x2 r_7 =>
nl r_7 (
ret (.ret [.bool x2]))) (
cond (x0c0 == 2) (
jn (
bnd (f_code_in D [I x0c1, I 4]) fun r_8 =>
asB r_8 fun x30 =>
cond x30 (
bnd (f_code_in D [I x0c2, I 4]) fun r_9 =>
asB r_9 fun x34 =>
cond x34 (
ret (.norm [.bool (x0c3 == 0)])) (
ret (.norm [.bool false]))) (
ret (.norm [.bool false]))) fun vs_2 =>
uB vs_2 fun x2_1 r_10 =>
nl r_10 (
ret (.ret [.bool x2_1]))) (
cond (x0c0 == 3) (
jn (
bnd (f_code_in D [I x0c2, I 4]) fun r_11 =>
asB r_11 fun x45 =>
cond x45 (
bnd (f_code_in D [I x0c3, I 3]) fun r_12 =>
asB r_12 fun x49 =>
ret (.norm [.bool x49])) (
ret (.norm [.bool false]))) fun vs_3 =>
uB vs_3 fun x2_2 r_13 =>
nl r_13 (
ret (.ret [.bool x2_2]))) (
cond (x0c0 == 6) (
jn (
bnd (f_code_in D [I x0c1, I 4]) fun r_14 =>
asB r_14 fun x55 =>
cond x55 (
bnd (f_code_in D [I x0c2, I 8]) fun r_15 =>
asB r_15 fun x59 =>
cond x59 (
ret (.norm [.bool (x0c3 == 0)])) (
ret (.norm [.bool false]))) (
ret (.norm [.bool false]))) fun vs_4 =>
uB vs_4 fun x2_3 r_16 =>
nl r_16 (
ret (.ret [.bool x2_3]))) (
cond (x0c0 == 7) (
jn (
bnd (f_code_in D [I x0c1, I 8]) fun r_17 =>
asB r_17 fun x70 =>
cond x70 (
bnd (f_code_in D [I x0c2, I 4]) fun r_18 =>
asB r_18 fun x74 =>
cond x74 (
ret (.norm [.bool (x0c3 == 0)])) (
ret (.norm [.bool false]))) (
ret (.norm [.bool false]))) fun vs_5 =>
uB vs_5 fun x2_4 r_19 =>
nl r_19 (
ret (.ret [.bool x2_4]))) (
cond (x0c0 == 20) (
jn (
cond (x0c2 == 0) (
ret (.norm [.bool (x0c3 == 0)])) (
ret (.norm [.bool false]))) fun vs_6 =>
uB vs_6 fun x2_5 r_20 =>
nl r_20 (
ret (.ret [.bool x2_5]))) (
bnd (f_code_things D [.agg [I x0c0, I x0c1, I x0c2, I x0c3]]) fun r_21 =>
asB r_21 fun x92 =>
ret (.ret [.bool x92]))))))))))))

/-- countermand/code.placed -/
def f_code_placed (D : HV → List HV → M HV) (args : List HV) : M HV :=
fin (
uI .i64 args fun x0 r =>
uB r fun x1 r_1 =>
nl r_1 (
jn (
cond (x0 == 1) (
ret (.norm [.bool (x0 == 1)])) (
cond (x0 == 2) (
ret (.norm [.bool (x0 == 2)])) (
ret (.norm [.bool (x0 == 3)])))) fun vs =>
uB vs fun x6 r_2 =>
nl r_2 (
cond x6 (
ret (.ret [.bool true])) (
jn (
cond (x0 == 0) (
ret (.norm [.bool (x0 == 0)])) (
ret (.norm [.bool (x0 == 4)]))) fun vs_1 =>
uB vs_1 fun x10 r_3 =>
nl r_3 (
cond x10 (
ret (.ret [.bool (!x1)])) (
ret (.ret [.bool x1])))))))

/-- countermand/code.lands -/
def f_code_lands (D : HV → List HV → M HV) (args : List HV) : M HV :=
fin (
uL args fun x0 r =>
uL r fun x1 r_1 =>
uI .i64 r_1 fun x2 r_2 =>
nl r_2 (
ix x0 x2 4 fun x10b x10o =>
ldC x10b (x10o + 1) fun v => asI .i64 v fun x12 =>
jn (
cond (decide (x12 ≤ x2)) (
ret (.norm [.bool true])) (
ret (.norm [.bool (decide (x12 > (x0.len : Int)))]))) fun vs =>
uB vs fun x21 r_3 =>
nl r_3 (
cond x21 (
ret (.ret [.bool false])) (
cond (x12 == (x0.len : Int)) (
ix x1 x2 1 fun x28b x28o =>
ldC x28b x28o fun v_1 => asI .i64 v_1 fun x29 =>
ret (.ret [.bool (decide (x29 < 0))])) (
ix x1 x12 1 fun x33b x33o =>
ldC x33b x33o fun v_2 => asI .i64 v_2 fun x34 =>
ix x1 x2 1 fun x37b x37o =>
ldC x37b x37o fun v_3 => asI .i64 v_3 fun x38 =>
ret (.ret [.bool (x34 == x38)]))))))

/-- countermand/code.Check -/
def f_code_Check (D : HV → List HV → M HV) (args : List HV) : M HV :=
fin (
uL args fun x0 r =>
nl r (
cond (decide ((x0.len : Int) > 48)) (
ret (.ret [I 0, I 3])) (
bnd (f_code_spans D [.sl x0]) fun r_1 =>
asT r_1 fun x15l => uL x15l fun x15t0 r_2 =>
uB r_2 fun x15t1 r_3 =>
nl r_3 (
cond (!x15t1) (
ret (.ret [I 0, I 11])) (
blk 0 (
loopD (fun vs_1 =>
uB vs_1 fun x6 r_4 =>
uI .i64 r_4 fun x7 r_5 =>
uI .i64 r_5 fun x22 r_6 =>
nl r_6 (
cond (decide (x22 < (x0.len : Int))) (
blk 1 (
ix x0 x22 4 fun x25b x25o =>
ldN x25b x25o 4 fun x26l =>
uI .i64 x26l fun x26c0 r_7 =>
uI .i64 r_7 fun x26c1 r_8 =>
uI .i64 r_8 fun x26c2 r_9 =>
uI .i64 r_9 fun x26c3 r_10 =>
nl r_10 (
jn (
bnd (f_code_fields D [.agg [I x26c0, I x26c1, I x26c2, I x26c3]]) fun r_11 =>
asB r_11 fun x28 =>
cond (!x28) (
ret (.norm [.bool true])) (
ix x15t0 x22 1 fun x35b x35o =>
ldC x35b x35o fun v => asI .i64 v fun x36 =>
bnd (f_code_placed D [I x26c0, .bool (decide (x36 ≥ 0))]) fun r_12 =>
asB r_12 fun x38 =>
ret (.norm [.bool (!x38)]))) fun vs_3 =>
uB vs_3 fun x40 r_13 =>
nl r_13 (
cond x40 (
ret (.ret [I x22, I 11])) (
blk 2 (
jn (
cond (x26c0 == 3) (
ret (.norm [.bool (x26c0 == 3)])) (
ret (.norm [.bool (x26c0 == 20)]))) fun vs_5 =>
uB vs_5 fun x44 r_14 =>
nl r_14 (
cond x44 (
bnd (f_code_lands D [.sl x0, .sl x15t0, I x22]) fun r_15 =>
asB r_15 fun x50 =>
cond (!x50) (
ret (.ret [I x22, I 11])) (
ret (.norm [.bool x6, I x7]))) (
cond (x26c0 == 4) (
ret (.norm [.bool false, I 0])) (
ret (.norm [.bool x6, I x7]))))) fun vs_4 =>
uB vs_4 fun x6_1 r_16 =>
uI .i64 r_16 fun x7_1 r_17 =>
nl r_17 (
jn (
cond (x26c0 == 20) (
ret (.norm [I (wr (x7_1 + 1))])) (
ret (.norm [I x7_1]))) fun vs_6 =>
uI .i64 vs_6 fun x7_2 r_18 =>
nl r_18 (
cond (decide (x7_2 > 3)) (
ret (.ret [I x22, I 11])) (
jn (
cond x6_1 (
cond (x26c0 == 14) (
ret (.norm [.bool true])) (
cond (x26c0 == 19) (
ret (.norm [.bool true])) (
cond (x26c0 == 20) (
ret (.norm [.bool true])) (
ret (.norm [.bool (x26c0 == 21)]))))) (
ret (.norm [.bool false]))) fun vs_7 =>
uB vs_7 fun x83 r_19 =>
nl r_19 (
cond x83 (
ret (.ret [I x22, I 11])) (
cond x6_1 (
ret (.norm [.bool true, I x7_2])) (
ret (.norm [.bool (x26c0 == 21), I x7_2]))))))))))) fun vs_2 =>
uB vs_2 fun x6_2 r_20 =>
uI .i64 r_20 fun x7_3 r_21 =>
nl r_21 (
ret (.norm [.bool x6_2, I x7_3, I (wr (x22 + 1))]))) (
ret (.exit 0 [])))) [.bool false, I 0, I 0]) fun vs =>
nl vs (
ret (.ret [I 0, I 0])))))))

/-- countermand/bound.can -/
def f_bound_can (D : HV → List HV → M HV) (args : List HV) : M HV :=
fin (
uL args fun x0 r =>
nl r (
bnd (f_code_Check D [.sl x0]) fun r_1 =>
asT r_1 fun x7l => uI .i64 x7l fun x7t0 r_2 =>
uI .i64 r_2 fun x7t1 r_3 =>
nl r_3 (
ret (.ret [.bool (x7t1 == 0)]))))

/-- countermand/countermandref07.Shaped -/
def f_ref07_Shaped (D : HV → List HV → M HV) (args : List HV) : M HV :=
fin (
uL args fun x0 r =>
nl r (
blk 0 (
loopD (fun vs_1 =>
uI .i64 vs_1 fun x3 r_1 =>
uI .i64 r_1 fun x8 r_2 =>
nl r_2 (
cond (decide (x8 < (x0.len : Int))) (
ix x0 x8 4 fun x10b x10o =>
ldN x10b x10o 4 fun x11l =>
uI .i64 x11l fun x11c0 r_3 =>
uI .i64 r_3 fun x11c1 r_4 =>
uI .i64 r_4 fun x11c2 r_5 =>
uI .i64 r_5 fun x11c3 r_6 =>
nl r_6 (
jn (
cond (x11c0 == 4) (
ret (.norm [I (wr (x3 + 1))])) (
ret (.norm [I x3]))) fun vs_2 =>
uI .i64 vs_2 fun x3_1 r_7 =>
nl r_7 (
jn (
cond (x11c0 == 5) (
ret (.norm [I (wr (x3_1 - 1))])) (
ret (.norm [I x3_1]))) fun vs_3 =>
uI .i64 vs_3 fun x3_2 r_8 =>
nl r_8 (
jn (
cond (decide (x3_2 < 0)) (
ret (.norm [.bool true])) (
ret (.norm [.bool (decide (x3_2 > 1))]))) fun vs_4 =>
uB vs_4 fun x27 r_9 =>
nl r_9 (
cond x27 (
ret (.ret [.bool false])) (
ret (.norm [I x3_2, I (wr (x8 + 1))]))))))) (
ret (.exit 0 [I x3])))) [I 0, I 0]) fun vs =>
uI .i64 vs fun x3_3 r_10 =>
nl r_10 (
ret (.ret [.bool (x3_3 == 0)]))))

/-- countermand/countermandref07.Block -/
def f_ref07_Block (D : HV → List HV → M HV) (args : List HV) : M HV :=
fin (
uL args fun x0 r =>
uI .i64 r fun x1 r_1 =>
nl r_1 (
ix x0 x1 4 fun x8b x8o =>
ldC x8b x8o fun v => asI .i64 v fun x10 =>
cond (x10 == 4) (
ret (.ret [I (-1)])) (
blk 0 (
loopD (fun vs_1 =>
uI .i64 vs_1 fun x5 r_2 =>
nl r_2 (
cond (decide (x5 ≥ 0)) (
ix x0 x5 4 fun x20b x20o =>
ldC x20b x20o fun v_1 => asI .i64 v_1 fun x22 =>
cond (x22 == 5) (
ret (.ret [I (-1)])) (
ix x0 x5 4 fun x26b x26o =>
ldC x26b x26o fun v_2 => asI .i64 v_2 fun x28 =>
cond (x28 == 4) (
ret (.ret [I x5])) (
ret (.norm [I (wr (x5 - 1))])))) (
ret (.exit 0 [])))) [I (wr (x1 - 1))]) fun vs =>
nl vs (
ret (.ret [I (-1)])))))

/-- countermand/countermandref07.limits -/
def f_ref07_limits (D : HV → List HV → M HV) (args : List HV) : M HV :=
fin (
uI .i64 args fun x0 r =>
nl r (
jn (
cond (x0 == 0) (
ret (.norm [.bool (x0 == 0)])) (
cond (x0 == 4) (
ret (.norm [.bool (x0 == 4)])) (
cond (x0 == 5) (
ret (.norm [.bool (x0 == 5)])) (
cond (x0 == 19) (
ret (.norm [.bool (x0 == 19)])) (
ret (.norm [.bool (x0 == 21)])))))) fun vs =>
uB vs fun x17 r_1 =>
nl r_1 (
cond x17 (
ret (.ret [.agg [I 0, I 0, I 0, I 0, I 0, I 0], .bool true])) (
cond (x0 == 1) (
ret (.ret [.agg [I 0, I 3, I (-9223372036854775808), I 9223372036854775807, I 0, I 0], .bool true])) (
cond (x0 == 2) (
ret (.ret [.agg [I 0, I 3, I 0, I 3, I 0, I 0], .bool true])) (
cond (x0 == 3) (
ret (.ret [.agg [I (-9223372036854775808), I 9223372036854775807, I 0, I 3, I 0, I 2], .bool true])) (
cond (x0 == 6) (
ret (.ret [.agg [I 0, I 3, I 0, I 7, I 0, I 0], .bool true])) (
cond (x0 == 7) (
ret (.ret [.agg [I 0, I 7, I 0, I 3, I 0, I 0], .bool true])) (
cond (x0 == 8) (
ret (.ret [.agg [I 0, I 3, I 0, I 5, I 0, I 31], .bool true])) (
cond (x0 == 9) (
ret (.ret [.agg [I 0, I 5, I 0, I 31, I 0, I 3], .bool true])) (
jn (
cond (x0 == 10) (
ret (.norm [.bool (x0 == 10)])) (
ret (.norm [.bool (x0 == 11)]))) fun vs_1 =>
uB vs_1 fun x62 r_2 =>
nl r_2 (
cond x62 (
ret (.ret [.agg [I 0, I 5, I 0, I 0, I 0, I 0], .bool true])) (
cond (x0 == 12) (
ret (.ret [.agg [I 0, I 5, I 0, I 5, I 0, I 0], .bool true])) (
cond (x0 == 13) (
ret (.ret [.agg [I 0, I 5, I 0, I 32, I 0, I 0], .bool true])) (
cond (x0 == 14) (
ret (.ret [.agg [I 0, I 3, I 0, I 2, I 0, I 0], .bool true])) (
cond (x0 == 15) (
ret (.ret [.agg [I 0, I 2, I 0, I 3, I 0, I 0], .bool true])) (
cond (x0 == 16) (
ret (.ret [.agg [I 0, I 2, I 0, I 255, I 0, I 0], .bool true])) (
cond (x0 == 17) (
ret (.ret [.agg [I 0, I 255, I 0, I 0, I 0, I 0], .bool true])) (
cond (x0 == 18) (
ret (.ret [.agg [I 0, I 3, I (-100), I 100, I 0, I 0], .bool true])) (
cond (x0 == 20) (
ret (.ret [.agg [I (-9223372036854775808), I 9223372036854775807, I 0, I 0, I 0, I 0], .bool true])) (
ret (.ret [.agg [I 0, I 0, I 0, I 0, I 0, I 0], .bool false]))))))))))))))))))))))

/-- countermand/countermandref07.One -/
def f_ref07_One (D : HV → List HV → M HV) (args : List HV) : M HV :=
fin (
uL args fun x0 r =>
uI .i64 r fun x1 r_1 =>
nl r_1 (
ix x0 x1 4 fun x13b x13o =>
ldN x13b x13o 4 fun x14l =>
uI .i64 x14l fun x14c0 r_2 =>
uI .i64 r_2 fun x14c1 r_3 =>
uI .i64 r_3 fun x14c2 r_4 =>
uI .i64 r_4 fun x14c3 r_5 =>
nl r_5 (
bnd (f_ref07_limits D [I x14c0]) fun r_6 =>
asT r_6 fun x18l => uA x18l fun x18t0l r_7 =>
uI .i64 x18t0l fun x18t0c0 r_8 =>
uI .i64 r_8 fun x18t0c1 r_9 =>
uI .i64 r_9 fun x18t0c2 r_10 =>
uI .i64 r_10 fun x18t0c3 r_11 =>
uI .i64 r_11 fun x18t0c4 r_12 =>
uI .i64 r_12 fun x18t0c5 r_13 =>
nl r_13 (
uB r_7 fun x18t1 r_14 =>
nl r_14 (
jn (
cond (!x18t1) (
ret (.norm [.bool true])) (
cond (decide (x14c1 < x18t0c0)) (
ret (.norm [.bool true])) (
cond (decide (x14c1 > x18t0c1)) (
ret (.norm [.bool true])) (
cond (decide (x14c2 < x18t0c2)) (
ret (.norm [.bool true])) (
cond (decide (x14c2 > x18t0c3)) (
ret (.norm [.bool true])) (
cond (decide (x14c3 < x18t0c4)) (
ret (.norm [.bool true])) (
cond (decide (x14c3 > x18t0c5)) (
ret (.norm [.bool true])) (
cond (x14c0 == 12) (
ret (.norm [.bool (x14c1 == x14c2)])) (
ret (.norm [.bool false])))))))))) fun vs =>
uB vs fun x82 r_15 =>
nl r_15 (
cond x82 (
ret (.ret [.bool false])) (
bnd (f_ref07_Block D [.sl x0, I x1]) fun r_16 =>
asI .i64 r_16 fun x85 =>
jn (
cond (x14c0 == 0) (
cond (decide (x85 ≥ 0)) (
ret (.norm [.bool true])) (
cond (decide (x14c0 > 4)) (
ret (.norm [.bool (decide (x85 < 0))])) (
ret (.norm [.bool false])))) (
cond (x14c0 == 4) (
cond (decide (x85 ≥ 0)) (
ret (.norm [.bool true])) (
cond (decide (x14c0 > 4)) (
ret (.norm [.bool (decide (x85 < 0))])) (
ret (.norm [.bool false])))) (
cond (decide (x14c0 > 4)) (
ret (.norm [.bool (decide (x85 < 0))])) (
ret (.norm [.bool false]))))) fun vs_1 =>
uB vs_1 fun x106 r_17 =>
nl r_17 (
cond x106 (
ret (.ret [.bool false])) (
jn (
cond (x14c0 == 3) (
ret (.norm [.bool true])) (
ret (.norm [.bool (x14c0 == 20)]))) fun vs_2 =>
uB vs_2 fun x114 r_18 =>
nl r_18 (
jn (
cond x114 (
jn (
cond (decide (x14c1 ≤ x1)) (
ret (.norm [.bool true])) (
cond (decide (x14c1 > (x0.len : Int))) (
ret (.norm [.bool true])) (
cond (x14c1 == (x0.len : Int)) (
cond (decide (x85 ≥ 0)) (
ret (.norm [.bool true])) (
cond (decide (x14c1 < (x0.len : Int))) (
bnd (f_ref07_Block D [.sl x0, I x14c1]) fun r_19 =>
asI .i64 r_19 fun x147 =>
ret (.norm [.bool (x147 != x85)])) (
ret (.norm [.bool false])))) (
cond (decide (x14c1 < (x0.len : Int))) (
bnd (f_ref07_Block D [.sl x0, I x14c1]) fun r_20 =>
asI .i64 r_20 fun x147_1 =>
ret (.norm [.bool (x147_1 != x85)])) (
ret (.norm [.bool false])))))) fun vs_4 =>
uB vs_4 fun x151 r_21 =>
nl r_21 (
cond x151 (
ret (.ret [.bool false])) (
ret (.norm [])))) (
ret (.norm []))) fun vs_3 =>
nl vs_3 (
blk 0 (
loopD (fun vs_6 =>
uI .i64 vs_6 fun x9 r_22 =>
uI .i64 r_22 fun x10 r_23 =>
nl r_23 (
cond (decide (x10 < x1)) (
blk 1 (
jn (
ix x0 x10 4 fun x161b x161o =>
ldC x161b x161o fun v => asI .i64 v fun x163 =>
cond (x163 == 21) (
cond (x14c0 == 14) (
ret (.norm [.bool true])) (
cond (x14c0 == 19) (
ret (.norm [.bool true])) (
cond (x14c0 == 20) (
ret (.norm [.bool true])) (
ret (.norm [.bool (x14c0 == 21)]))))) (
ret (.norm [.bool false]))) fun vs_8 =>
uB vs_8 fun x184 r_24 =>
nl r_24 (
cond x184 (
ret (.ret [.bool false])) (
ix x0 x10 4 fun x187b x187o =>
ldC x187b x187o fun v_1 => asI .i64 v_1 fun x189 =>
cond (x189 == 20) (
ret (.norm [I (wr (x9 + 1))])) (
ret (.norm [I x9]))))) fun vs_7 =>
uI .i64 vs_7 fun x9_1 r_25 =>
nl r_25 (
ret (.norm [I x9_1, I (wr (x10 + 1))]))) (
ret (.exit 0 [I x9])))) [I 0, I (wr (x85 + 1))]) fun vs_5 =>
uI .i64 vs_5 fun x9_2 r_26 =>
nl r_26 (
jn (
cond (x14c0 != 20) (
ret (.norm [.bool true])) (
ret (.norm [.bool (decide (x9_2 < 3))]))) fun vs_9 =>
uB vs_9 fun x4 r_27 =>
nl r_27 (
ret (.ret [.bool x4]))))))))))))))

/-- countermand/countermandref07.Check -/
def f_ref07_Check (D : HV → List HV → M HV) (args : List HV) : M HV :=
fin (
uL args fun x0 r =>
nl r (
cond (decide ((x0.len : Int) > 48)) (
ret (.ret [I 0, I 3])) (
bnd (f_ref07_Shaped D [.sl x0]) fun r_1 =>
asB r_1 fun x9 =>
cond (!x9) (
ret (.ret [I 0, I 11])) (
blk 0 (
loopD (fun vs_1 =>
uI .i64 vs_1 fun x13 r_2 =>
nl r_2 (
cond (decide (x13 < (x0.len : Int))) (
bnd (f_ref07_One D [.sl x0, I x13]) fun r_3 =>
asB r_3 fun x18 =>
cond (!x18) (
ret (.ret [I x13, I 11])) (
ret (.norm [I (wr (x13 + 1))]))) (
ret (.exit 0 [])))) [I 0]) fun vs =>
nl vs (
ret (.ret [I 0, I 0]))))))

/-- countermand/countermandref27.Can -/
def f_ref27_Can (D : HV → List HV → M HV) (args : List HV) : M HV :=
fin (
uL args fun x0 r =>
nl r (
bnd (f_ref07_Check D [.sl x0]) fun r_1 =>
asT r_1 fun x7l => uI .i64 x7l fun x7t0 r_2 =>
uI .i64 r_2 fun x7t1 r_3 =>
nl r_3 (
ret (.ret [.bool (x7t1 == 0)]))))

/-- countermand/bound.next -/
def f_bound_next (D : HV → List HV → M HV) (args : List HV) : M HV :=
fin (
uL args fun x0 r =>
uI .i64 r fun x1 r_1 =>
nl r_1 (
ix x0 x1 4 fun x8b x8o =>
ldN x8b x8o 4 fun x9l =>
uI .i64 x9l fun x9c0 r_2 =>
uI .i64 r_2 fun x9c1 r_3 =>
uI .i64 r_3 fun x9c2 r_4 =>
uI .i64 r_4 fun x9c3 r_5 =>
nl r_5 (
jn (
cond (x9c0 == 0) (
ret (.norm [.bool true])) (
ret (.norm [.bool (x9c0 == 19)]))) fun vs =>
uB vs fun x10 r_6 =>
nl r_6 (
cond x10 (
ret (.ret [.sl (⟨none, 0, 0, none⟩)])) (
jn (
cond (x9c0 == 3) (
ret (.norm [.bool (x9c3 == 2)])) (
ret (.norm [.bool false]))) fun vs_1 =>
uB vs_1 fun x19 r_7 =>
nl r_7 (
cond x19 (
nw [I x9c1] fun b30 =>
ret (.ret [.sl (⟨some (b30, 0), 1, 1, none⟩)])) (
jn (
cond (x9c0 == 3) (
ret (.norm [.bool (decide (x9c1 > (wr (x1 + 1))))])) (
cond (x9c0 == 20) (
ret (.norm [.bool (decide (x9c1 > (wr (x1 + 1))))])) (
ret (.norm [.bool false])))) fun vs_2 =>
uB vs_2 fun x31 r_8 =>
nl r_8 (
cond x31 (
nw [I (wr (x1 + 1)), I x9c1] fun b51 =>
ret (.ret [.sl (⟨some (b51, 0), 2, 2, none⟩)])) (
nw [I (wr (x1 + 1))] fun b54 =>
ret (.ret [.sl (⟨some (b54, 0), 1, 1, none⟩)]))))))))))

/-- countermand/countermandref27.Leads -/
def f_ref27_Leads (D : HV → List HV → M HV) (args : List HV) : M HV :=
fin (
uL args fun x0 r =>
uI .i64 r fun x1 r_1 =>
uI .i64 r_1 fun x2 r_2 =>
nl r_2 (
ix x0 x1 4 fun x10b x10o =>
ldN x10b x10o 4 fun x11l =>
uI .i64 x11l fun x11c0 r_3 =>
uI .i64 r_3 fun x11c1 r_4 =>
uI .i64 r_4 fun x11c2 r_5 =>
uI .i64 r_5 fun x11c3 r_6 =>
nl r_6 (
jn (
cond (x11c0 == 0) (
ret (.norm [.bool (x11c0 == 0)])) (
ret (.norm [.bool (x11c0 == 19)]))) fun vs =>
uB vs fun x14 r_7 =>
nl r_7 (
cond x14 (
ret (.ret [.bool false])) (
cond (x11c0 == 3) (
jn (
cond (x2 == x11c1) (
ret (.norm [.bool true])) (
cond (decide (x11c3 < 2)) (
ret (.norm [.bool (x2 == (wr (x1 + 1)))])) (
ret (.norm [.bool false])))) fun vs_1 =>
uB vs_1 fun x6 r_8 =>
nl r_8 (
ret (.ret [.bool x6]))) (
cond (x11c0 == 20) (
jn (
cond (x2 == x11c1) (
ret (.norm [.bool true])) (
ret (.norm [.bool (x2 == (wr (x1 + 1)))]))) fun vs_2 =>
uB vs_2 fun x6_1 r_9 =>
nl r_9 (
ret (.ret [.bool x6_1]))) (
ret (.ret [.bool (x2 == (wr (x1 + 1)))]))))))))

/-- countermand/bound.seen -/
def f_bound_seen (D : HV → List HV → M HV) (args : List HV) : M HV :=
fin (
uL args fun x0 r =>
uI .i64 r fun x1 r_1 =>
nl r_1 (
gd (decide (0 ≤ wr ((x0.len : Int) + 1))) (gd (decide (wr ((x0.len : Int) + 1) ≤ wr ((x0.len : Int) + 1))) (gd (decide ((wr ((x0.len : Int) + 1)).toNat * 1 ≤ room)) (
nw (repL (wr ((x0.len : Int) + 1)).toNat [.bool false]) fun b12 =>
ix (⟨some (b12, 0), (wr ((x0.len : Int) + 1)).toNat, (wr ((x0.len : Int) + 1)).toNat, none⟩) x1 1 fun x15b x15o =>
stC x15b x15o (.bool true) (
blk 0 (
loopD (fun vs_1 =>
uI .i64 vs_1 fun x18 r_2 =>
nl r_2 (
cond (decide (x18 < (x0.len : Int))) (
blk 1 (
ix (⟨some (b12, 0), (wr ((x0.len : Int) + 1)).toNat, (wr ((x0.len : Int) + 1)).toNat, none⟩) x18 1 fun x23b x23o =>
ldC x23b x23o fun v => asB v fun x24 =>
cond (!x24) (
ret (.exit 1 [])) (
bnd (f_bound_next D [.sl x0, I x18]) fun r_3 =>
asSl r_3 fun x28 =>
blk 2 (
loopD (fun vs_4 =>
uI .i64 vs_4 fun x30 r_4 =>
nl r_4 (
cond (decide (x30 < (x28.len : Int))) (
ix x28 x30 1 fun x32b x32o =>
ldC x32b x32o fun v_1 => asI .i64 v_1 fun x33 =>
ix (⟨some (b12, 0), (wr ((x0.len : Int) + 1)).toNat, (wr ((x0.len : Int) + 1)).toNat, none⟩) x33 1 fun x36b x36o =>
stC x36b x36o (.bool true) (
ret (.norm [I (wr (x30 + 1))]))) (
ret (.exit 2 [])))) [I 0]) fun vs_3 =>
nl vs_3 (
ret (.norm [])))) fun vs_2 =>
nl vs_2 (
ret (.norm [I (wr (x18 + 1))]))) (
ret (.exit 0 [])))) [I 0]) fun vs =>
nl vs (
ret (.ret [.sl (⟨some (b12, 0), (wr ((x0.len : Int) + 1)).toNat, (wr ((x0.len : Int) + 1)).toNat, none⟩)]))))))))

/-- countermand/bound.From$1 -/
def f_bound_From_1 (D : HV → List HV → M HV) (args : List HV) : M HV :=
fin (
uc args fun x0 r =>
uP r fun x1 r_1 =>
uP r_1 fun x2 r_2 =>
nl r_2 (
jn (
mP x1 fun x6b x6o =>
ldC x6b x6o fun v => asSl v fun x6 =>
bnd (f_bound_can D [.sl x6]) fun r_3 =>
asB r_3 fun x7 =>
cond (!x7) (
ret (.norm [.bool true])) (
mP x2 fun x10b x10o =>
ldC x10b x10o fun v_1 => asI .i64 v_1 fun x10 =>
cond (decide (x10 < 0)) (
ret (.norm [.bool true])) (
mP x2 fun x14b x14o =>
ldC x14b x14o fun v_2 => asI .i64 v_2 fun x14 =>
mP x1 fun x15b x15o =>
ldC x15b x15o fun v_3 => asSl v_3 fun x15 =>
ret (.norm [.bool (decide (x14 > (x15.len : Int)))])))) fun vs =>
uB vs fun x18 r_4 =>
nl r_4 (
cond x18 (
ret (.ret [])) (
mP x1 fun x19b x19o =>
ldC x19b x19o fun v_4 => asSl v_4 fun x19 =>
mP x2 fun x20b x20o =>
ldC x20b x20o fun v_5 => asI .i64 v_5 fun x20 =>
bnd (f_bound_seen D [.sl x19, I x20]) fun r_5 =>
asSl r_5 fun x21 =>
blk 0 (
loopD (fun vs_2 =>
uI .i64 vs_2 fun x23 r_6 =>
nl r_6 (
cond (decide (x23 < (x21.len : Int))) (
ix x21 x23 1 fun x26b x26o =>
ldC x26b x26o fun v_6 => asB v_6 fun x27 =>
jn (
cond x27 (
bnd (D x0 [I x23]) fun r_7 =>
asB r_7 fun x32 =>
ret (.norm [.bool (!x32)])) (
ret (.norm [.bool false]))) fun vs_3 =>
uB vs_3 fun x34 r_8 =>
nl r_8 (
cond x34 (
ret (.ret [])) (
ret (.norm [I (wr (x23 + 1))])))) (
ret (.exit 0 [])))) [I 0]) fun vs_1 =>
nl vs_1 (
ret (.ret []))))))

/-- countermand/bound.From -/
def f_bound_From (D : HV → List HV → M HV) (args : List HV) : M HV :=
fin (
uL args fun x0 r =>
uI .i64 r fun x1 r_1 =>
nl r_1 (
nw [.sl x0] fun b2 =>
nw [I x1] fun b3 =>
ret (.ret [.func n_bound_From_1 [] [.ptr (some (b2, 0)), .ptr (some (b3, 0))]])))

/-- countermand/bound.Reach -/
def f_bound_Reach (D : HV → List HV → M HV) (args : List HV) : M HV :=
fin (
uL args fun x0 r =>
nl r (
bnd (f_bound_can D [.sl x0]) fun r_1 =>
asB r_1 fun x4 =>
cond (!x4) (
ret (.ret [.sl (⟨none, 0, 0, none⟩)])) (
bnd (f_bound_seen D [.sl x0, I 0]) fun r_2 =>
asSl r_2 fun x7 =>
gd (decide (0 ≤ 0)) (gd (decide (0 ≤ (x0.len : Int))) (gd (decide ((x0.len : Int) ≤ (x7.cap : Int))) (gd (decide ((x7.cap : Int) ≤ (x7.cap : Int))) (gd (slOk x7.opn 1 (decide (0 < (x7.cap : Int)))) (
ret (.ret [.sl (⟨bif decide ((x7.cap : Int) = 0) then x7.p else x7.p.map (fun q => (q.1, q.2 + (0 : Int).toNat * 1)), ((x0.len : Int) - 0 : Int).toNat, ((x7.cap : Int) - 0 : Int).toNat, x7.opn⟩)])))))))))

/-- countermand/countermandref27.Seen -/
def f_ref27_Seen (D : HV → List HV → M HV) (args : List HV) : M HV :=
fin (
uL args fun x0 r =>
uI .i64 r fun x1 r_1 =>
nl r_1 (
gd (decide (0 ≤ x1)) (gd (decide (x1 < (49 : Int))) (
gd (decide (0 + x1.toNat * 1 < (List.replicate 49 (HV.bool false)).length)) (
blk 0 (
loopD (fun vs_1 =>
uB vs_1 fun x6 r_2 =>
uA r_2 fun y5 r_3 =>
nl r_3 (
cond x6 (
blk 2 (
loopD (fun vs_3 =>
uB vs_3 fun x6_1 r_4 =>
uI .i64 r_4 fun x14 r_5 =>
uA r_5 fun y5_1 r_6 =>
nl r_6 (
cond (decide (x14 < (x0.len : Int))) (
blk 4 (
loopD (fun vs_5 =>
uB vs_5 fun x6_2 r_7 =>
uI .i64 r_7 fun x8 r_8 =>
uA r_8 fun y5_2 r_9 =>
nl r_9 (
cond (decide (x8 ≤ (x0.len : Int))) (
blk 5 (
jn (
gd (decide (0 ≤ x14)) (gd (decide (x14 < (49 : Int))) (
gx y5_2 (0 + x14.toNat * 1) fun v => asB v fun x25 =>
cond x25 (
gd (decide (0 ≤ x8)) (gd (decide (x8 < (49 : Int))) (
gx y5_2 (0 + x8.toNat * 1) fun v_1 => asB v_1 fun x29 =>
cond (!x29) (
bnd (f_ref27_Leads D [.sl x0, I x14, I x8]) fun r_10 =>
asB r_10 fun x36 =>
ret (.norm [.bool x36])) (
ret (.norm [.bool false]))))) (
ret (.norm [.bool false]))))) fun vs_7 =>
uB vs_7 fun x37 r_11 =>
nl r_11 (
cond x37 (
gd (decide (0 ≤ x8)) (gd (decide (x8 < (49 : Int))) (
gd (decide (0 + x8.toNat * 1 < y5_2.length)) (
ret (.norm [.bool true, .agg (List.set y5_2 (0 + x8.toNat * 1) (.bool true))]))))) (
ret (.norm [.bool x6_2, .agg y5_2])))) fun vs_6 =>
uB vs_6 fun x6_3 r_12 =>
uA r_12 fun y5_3 r_13 =>
nl r_13 (
ret (.norm [.bool x6_3, I (wr (x8 + 1)), .agg y5_3]))) (
ret (.exit 4 [.bool x6_2, .agg y5_2])))) [.bool x6_1, I 0, .agg y5_1]) fun vs_4 =>
uB vs_4 fun x6_4 r_14 =>
uA r_14 fun y5_4 r_15 =>
nl r_15 (
ret (.norm [.bool x6_4, I (wr (x14 + 1)), .agg y5_4]))) (
ret (.exit 2 [.bool x6_1, .agg y5_1])))) [.bool false, I 0, .agg y5]) fun vs_2 =>
uB vs_2 fun x6_5 r_16 =>
uA r_16 fun y5_5 r_17 =>
nl r_17 (
ret (.norm [.bool x6_5, .agg y5_5]))) (
ret (.exit 0 [.agg y5])))) [.bool true, .agg (List.set (List.replicate 49 (HV.bool false)) (0 + x1.toNat * 1) (.bool true))]) fun vs =>
uA vs fun y5_6 r_18 =>
nl r_18 (
gxN y5_6 0 49 fun x41l =>
gd (Nat.beq x41l.length 49) (
gd (Nat.ble (0 + x41l.length) (List.replicate 49 (HV.bool false)).length) (
gxN (putN (List.replicate 49 (HV.bool false)) 0 x41l) 0 49 fun z0l =>
ret (.ret [.agg z0l])))))))))

/-- countermand/scope.end -/
def f_scope_end (D : HV → List HV → M HV) (args : List HV) : M HV :=
fin (
uL args fun x0 r =>
uI .i64 r fun x1 r_1 =>
nl r_1 (
blk 0 (
loopD (fun vs_1 =>
uI .i64 vs_1 fun x1_1 r_2 =>
nl r_2 (
ix x0 x1_1 4 fun x7b x7o =>
ldC x7b x7o fun v => asI .i64 v fun x9 =>
cond (x9 != 5) (
ret (.norm [I (wr (x1_1 + 1))])) (
ret (.exit 0 [I x1_1])))) [I x1]) fun vs =>
uI .i64 vs fun x1_2 r_3 =>
nl r_3 (
ret (.ret [I x1_2]))))

/-- (countermand/scope.Things).with -/
def f_scope_Things_with (D : HV → List HV → M HV) (args : List HV) : M HV :=
fin (
uA args fun x0l r =>
uI .u8 x0l fun x0c0 r_1 =>
uI .u8 r_1 fun x0c1 r_2 =>
uI .u8 r_2 fun x0c2 r_3 =>
nl r_3 (
uI .i64 r fun x1 r_4 =>
uI .i64 r_4 fun x2 r_5 =>
nl r_5 (
gd (decide (0 ≤ x1)) (gd (decide (x1 < (3 : Int))) (
gx [.int .u8 x0c0, .int .u8 x0c1, .int .u8 x0c2] (0 + x1.toNat * 1) fun v => asI .u8 v fun x9 =>
gd (decide (0 ≤ x2)) (
gd (decide (0 ≤ x1)) (gd (decide (x1 < (3 : Int))) (
gd (decide (0 + x1.toNat * 1 < (([.int .u8 x0c0, .int .u8 x0c1, .int .u8 x0c2]) : List HV).length)) (
gxN (List.set ([.int .u8 x0c0, .int .u8 x0c1, .int .u8 x0c2]) (0 + x1.toNat * 1) (.int .u8 (IntKind.wrap .u8 ((BitVec.ofInt 8 x9 ||| BitVec.ofInt 8 (IntKind.wrap .u8 (1 * 2 ^ (min x2.toNat 8)))).toNat : Int)))) 0 3 fun x14l =>
uI .u8 x14l fun x14c0 r_6 =>
uI .u8 r_6 fun x14c1 r_7 =>
uI .u8 r_7 fun x14c2 r_8 =>
nl r_8 (
ret (.ret [.agg [.int .u8 x14c0, .int .u8 x14c1, .int .u8 x14c2]])))))))))))

/-- (*countermand/scope.Scope).read -/
def f_scope_Scope_read (D : HV → List HV → M HV) (args : List HV) : M HV :=
fin (
uP args fun x0 r =>
uI .i64 r fun x1 r_1 =>
uI .i64 r_1 fun x2 r_2 =>
nl r_2 (
mP x0 fun x8b x8o =>
ldN x8b x8o 3 fun x10l =>
uI .u8 x10l fun x10c0 r_3 =>
uI .u8 r_3 fun x10c1 r_4 =>
uI .u8 r_4 fun x10c2 r_5 =>
nl r_5 (
bnd (f_scope_Things_with D [.agg [.int .u8 x10c0, .int .u8 x10c1, .int .u8 x10c2], I x1, I x2]) fun r_6 =>
asA r_6 fun x13l => uI .u8 x13l fun x13c0 r_7 =>
uI .u8 r_7 fun x13c1 r_8 =>
uI .u8 r_8 fun x13c2 r_9 =>
nl r_9 (
mP x0 fun x14b x14o =>
stN x14b x14o [.int .u8 x13c0, .int .u8 x13c1, .int .u8 x13c2] (
ret (.ret []))))))

/-- (*countermand/scope.Scope).both -/
def f_scope_Scope_both (D : HV → List HV → M HV) (args : List HV) : M HV :=
fin (
uP args fun x0 r =>
uI .i64 r fun x1 r_1 =>
uI .i64 r_1 fun x2 r_2 =>
nl r_2 (
bnd (f_scope_Scope_read D [.ptr x0, I x1, I x2]) fun r_3 =>
asT r_3 fun x9l => nl x9l (
mP x0 fun x12b x12o =>
ldN x12b (x12o + 3) 3 fun x14l =>
uI .u8 x14l fun x14c0 r_4 =>
uI .u8 r_4 fun x14c1 r_5 =>
uI .u8 r_5 fun x14c2 r_6 =>
nl r_6 (
bnd (f_scope_Things_with D [.agg [.int .u8 x14c0, .int .u8 x14c1, .int .u8 x14c2], I x1, I x2]) fun r_7 =>
asA r_7 fun x17l => uI .u8 x17l fun x17c0 r_8 =>
uI .u8 r_8 fun x17c1 r_9 =>
uI .u8 r_9 fun x17c2 r_10 =>
nl r_10 (
mP x0 fun x18b x18o =>
stN x18b (x18o + 3) [.int .u8 x17c0, .int .u8 x17c1, .int .u8 x17c2] (
ret (.ret [])))))))

/-- (*countermand/scope.Scope).take -/
def f_scope_Scope_take (D : HV → List HV → M HV) (args : List HV) : M HV :=
fin (
uP args fun x0 r =>
uA r fun x1l r_1 =>
uI .i64 x1l fun x1c0 r_2 =>
uI .i64 r_2 fun x1c1 r_3 =>
uI .i64 r_3 fun x1c2 r_4 =>
uI .i64 r_4 fun x1c3 r_5 =>
nl r_5 (
nl r_1 (
cond (x1c0 == 6) (
bnd (f_scope_Scope_read D [.ptr x0, I 0, I x1c2]) fun r_6 =>
asT r_6 fun x11l => nl x11l (
ret (.ret []))) (
cond (x1c0 == 7) (
mP x0 fun x16b x16o =>
ldN x16b (x16o + 3) 3 fun x18l =>
uI .u8 x18l fun x18c0 r_7 =>
uI .u8 r_7 fun x18c1 r_8 =>
uI .u8 r_8 fun x18c2 r_9 =>
nl r_9 (
bnd (f_scope_Things_with D [.agg [.int .u8 x18c0, .int .u8 x18c1, .int .u8 x18c2], I 0, I x1c1]) fun r_10 =>
asA r_10 fun x21l => uI .u8 x21l fun x21c0 r_11 =>
uI .u8 r_11 fun x21c1 r_12 =>
uI .u8 r_12 fun x21c2 r_13 =>
nl r_13 (
mP x0 fun x22b x22o =>
stN x22b (x22o + 3) [.int .u8 x21c0, .int .u8 x21c1, .int .u8 x21c2] (
ret (.ret []))))) (
cond (x1c0 == 8) (
bnd (f_scope_Scope_read D [.ptr x0, I 1, I x1c2]) fun r_14 =>
asT r_14 fun x29l => nl x29l (
ret (.ret []))) (
jn (
cond (x1c0 == 9) (
ret (.norm [.bool (x1c0 == 9)])) (
cond (x1c0 == 13) (
ret (.norm [.bool (x1c0 == 13)])) (
cond (x1c0 == 10) (
ret (.norm [.bool (x1c0 == 10)])) (
ret (.norm [.bool (x1c0 == 11)]))))) fun vs =>
uB vs fun x30 r_15 =>
nl r_15 (
cond x30 (
bnd (f_scope_Scope_both D [.ptr x0, I 1, I x1c1]) fun r_16 =>
asT r_16 fun x38l => nl x38l (
ret (.ret []))) (
cond (x1c0 == 12) (
bnd (f_scope_Scope_both D [.ptr x0, I 1, I x1c1]) fun r_17 =>
asT r_17 fun x44l => nl x44l (
bnd (f_scope_Scope_both D [.ptr x0, I 1, I x1c2]) fun r_18 =>
asT r_18 fun x48l => nl x48l (
ret (.ret [])))) (
cond (x1c0 == 14) (
bnd (f_scope_Scope_both D [.ptr x0, I 2, I x1c2]) fun r_19 =>
asT r_19 fun x54l => nl x54l (
mP x0 fun x56b x56o =>
stC x56b (x56o + 14) (.bool true) (
ret (.ret [])))) (
cond (x1c0 == 19) (
mP x0 fun x61b x61o =>
stC x61b (x61o + 14) (.bool true) (
ret (.ret []))) (
jn (
cond (x1c0 == 15) (
ret (.norm [.bool (x1c0 == 15)])) (
ret (.norm [.bool (x1c0 == 16)]))) fun vs_1 =>
uB vs_1 fun x63 r_20 =>
nl r_20 (
cond x63 (
mP x0 fun x69b x69o =>
gd (decide (0 ≤ x1c1)) (gd (decide (x1c1 < (3 : Int))) (
stC x69b (x69o + 6 + x1c1.toNat * 1) (.bool true) (
ret (.ret []))))) (
cond (x1c0 == 18) (
mP x0 fun x77b x77o =>
gd (decide (0 ≤ x1c1)) (gd (decide (x1c1 < (4 : Int))) (
stC x77b (x77o + 9 + x1c1.toNat * 1) (.bool true) (
ret (.ret []))))) (
cond (x1c0 == 21) (
mP x0 fun x83b x83o =>
stC x83b (x83o + 13) (.bool true) (
ret (.ret []))) (
ret (.ret []))))))))))))))))

/-- countermand/scope.Of -/
def f_scope_Of (D : HV → List HV → M HV) (args : List HV) : M HV :=
fin (
uL args fun x0 r =>
uI .i64 r fun x1 r_1 =>
nl r_1 (
nw [.sl x0] fun b2 =>
nw [.int .u8 0, .int .u8 0, .int .u8 0, .int .u8 0, .int .u8 0, .int .u8 0, .bool false, .bool false, .bool false, .bool false, .bool false, .bool false, .bool false, .bool false, .bool false] fun b6 =>
jn (
cond (decide (x1 < 0)) (
ret (.norm [.bool true])) (
ldC b2 0 fun v => asSl v fun x13 =>
cond (decide (x1 ≥ (x13.len : Int))) (
ret (.norm [.bool true])) (
ldC b2 0 fun v_1 => asSl v_1 fun x18 =>
ix x18 x1 4 fun x20b x20o =>
ldC x20b x20o fun v_2 => asI .i64 v_2 fun x22 =>
cond (x22 != 4) (
ret (.norm [.bool true])) (
ldC b2 0 fun v_3 => asSl v_3 fun x26 =>
bnd (f_bound_Reach D [.sl x26]) fun r_2 =>
asSl r_2 fun x27 =>
ret (.norm [.bool ((x27.len : Int) == 0)]))))) fun vs =>
uB vs fun x30 r_3 =>
nl r_3 (
cond x30 (
ldN b6 0 15 fun x31l =>
gd (Nat.beq x31l.length 15) (
gd (Nat.ble (0 + x31l.length) (([.int .u8 0, .int .u8 0, .int .u8 0, .int .u8 0, .int .u8 0, .int .u8 0, .bool false, .bool false, .bool false, .bool false, .bool false, .bool false, .bool false, .bool false, .bool false]) : List HV).length) (
gxN (putN [.int .u8 0, .int .u8 0, .int .u8 0, .int .u8 0, .int .u8 0, .int .u8 0, .bool false, .bool false, .bool false, .bool false, .bool false, .bool false, .bool false, .bool false, .bool false] 0 x31l) 0 15 fun z0l =>
ret (.ret [.agg z0l, .bool false])))) (
ldC b2 0 fun v_4 => asSl v_4 fun x32 =>
bnd (f_scope_end D [.sl x32, I x1]) fun r_4 =>
asI .i64 r_4 fun x34 =>
nw [I 0] fun b7 =>
stC b7 0 (I x34) (
ldC b2 0 fun v_5 => asSl v_5 fun x35 =>
bnd (f_bound_From D [.sl x35, I x1]) fun r_5 =>
blk 0 (
ny r_5 (nwL 82468377 [(2, .ptr (some (b2, 0))), (6, .ptr (some (b6, 0))), (7, .ptr (some (b7, 0)))] fun l =>
bnd (D r_5 [.yld l]) fun q =>
endL l (
ret (.norm []))
(onX 0 (ret (.exit 0 [])) noX) (
ret (.ret [.agg [.int .u8 0, .int .u8 0, .int .u8 0, .int .u8 0, .int .u8 0, .int .u8 0, .bool false, .bool false, .bool false, .bool false, .bool false, .bool false, .bool false, .bool false, .bool false], .bool false])))) fun vs_1 =>
nl vs_1 (
ldN b6 0 15 fun x47l =>
gd (Nat.beq x47l.length 15) (
gd (Nat.ble (0 + x47l.length) (([.int .u8 0, .int .u8 0, .int .u8 0, .int .u8 0, .int .u8 0, .int .u8 0, .bool false, .bool false, .bool false, .bool false, .bool false, .bool false, .bool false, .bool false, .bool false]) : List HV).length) (
gxN (putN [.int .u8 0, .int .u8 0, .int .u8 0, .int .u8 0, .int .u8 0, .int .u8 0, .bool false, .bool false, .bool false, .bool false, .bool false, .bool false, .bool false, .bool false, .bool false] 0 x47l) 0 15 fun z0l_1 =>
ret (.ret [.agg z0l_1, .bool true])))))))))

/-- a round of countermand/scope.Of -/
def r0_scope_Of (D : HV → List HV → M HV) (l : Nat) (vs : List (Nat × HV)) (args : List HV) : M Leaf :=
gdS [2, 6, 7] vs fun vs' =>
uP vs' fun x2 r =>
uP r fun x6 r_1 =>
uP r_1 fun x7 r_2 =>
nl r_2 (
uI .i64 args fun x38 r_3 =>
nl r_3 (
busyL l (
mP x7 fun x40b x40o =>
ldC x40b x40o fun v => asI .i64 v fun x40 =>
cond (decide (x38 ≥ x40)) (
ret (.exit 0 [])) (
mP x2 fun x42b x42o =>
ldC x42b x42o fun v_1 => asSl v_1 fun x42 =>
ix x42 x38 4 fun x44b x44o =>
ldN x44b x44o 4 fun x45l =>
uI .i64 x45l fun x45c0 r_4 =>
uI .i64 r_4 fun x45c1 r_5 =>
uI .i64 r_5 fun x45c2 r_6 =>
uI .i64 r_6 fun x45c3 r_7 =>
nl r_7 (
bnd (f_scope_Scope_take D [.ptr x6, .agg [I x45c0, I x45c1, I x45c2, I x45c3]]) fun r_8 =>
asT r_8 fun x46l => nl x46l (
ret (.norm [])))))))

/-- countermand/scope.All$1 -/
def f_scope_All_1 (D : HV → List HV → M HV) (args : List HV) : M HV :=
fin (
uc args fun x0 r =>
uP r fun x1 r_1 =>
nl r_1 (
mP x1 fun x6b x6o =>
ldC x6b x6o fun v => asSl v fun x6 =>
blk 0 (
loopD (fun vs_1 =>
uI .i64 vs_1 fun x8 r_2 =>
nl r_2 (
cond (decide (x8 < (x6.len : Int))) (
mP x1 fun x12b x12o =>
ldC x12b x12o fun v_1 => asSl v_1 fun x12 =>
bnd (f_scope_Of D [.sl x12, I x8]) fun r_3 =>
asT r_3 fun x14l => uA x14l fun x14t0l r_4 =>
uB r_4 fun x14t1 r_5 =>
nl r_5 (
gd (Nat.beq x14t0l.length 15) (
gd (Nat.ble (0 + x14t0l.length) (([.int .u8 0, .int .u8 0, .int .u8 0, .int .u8 0, .int .u8 0, .int .u8 0, .bool false, .bool false, .bool false, .bool false, .bool false, .bool false, .bool false, .bool false, .bool false]) : List HV).length) (
jn (
cond x14t1 (
gxN (putN [.int .u8 0, .int .u8 0, .int .u8 0, .int .u8 0, .int .u8 0, .int .u8 0, .bool false, .bool false, .bool false, .bool false, .bool false, .bool false, .bool false, .bool false, .bool false] 0 x14t0l) 0 15 fun x21l =>
bnd (D x0 [I x8, .agg x21l]) fun r_6 =>
asB r_6 fun x22 =>
ret (.norm [.bool (!x22)])) (
ret (.norm [.bool false]))) fun vs_2 =>
uB vs_2 fun x24 r_7 =>
nl r_7 (
cond x24 (
ret (.ret [])) (
ret (.norm [I (wr (x8 + 1))]))))))) (
ret (.exit 0 [])))) [I 0]) fun vs =>
nl vs (
ret (.ret []))))

/-- countermand/scope.All -/
def f_scope_All (D : HV → List HV → M HV) (args : List HV) : M HV :=
fin (
uL args fun x0 r =>
nl r (
nw [.sl x0] fun b1 =>
ret (.ret [.func n_scope_All_1 [] [.ptr (some (b1, 0))]])))

/-- countermand/scope.good -/
def f_scope_good (D : HV → List HV → M HV) (args : List HV) : M HV :=
fin (
uI .i64 args fun x0 r =>
uI .i64 r fun x1 r_1 =>
nl r_1 (
jn (
cond (decide (x0 ≥ 0)) (
cond (decide (x0 ≤ 2)) (
cond (decide (x1 ≥ 0)) (
ret (.norm [.bool (decide (x1 < 8))])) (
ret (.norm [.bool false]))) (
ret (.norm [.bool false]))) (
ret (.norm [.bool false]))) fun vs =>
uB vs fun x4 r_2 =>
nl r_2 (
ret (.ret [.bool x4]))))

/-- (countermand/scope.Things).Has -/
def f_scope_Things_Has (D : HV → List HV → M HV) (args : List HV) : M HV :=
fin (
uA args fun x0l r =>
uI .u8 x0l fun x0c0 r_1 =>
uI .u8 r_1 fun x0c1 r_2 =>
uI .u8 r_2 fun x0c2 r_3 =>
nl r_3 (
uI .i64 r fun x1 r_4 =>
uI .i64 r_4 fun x2 r_5 =>
nl r_5 (
jn (
bnd (f_scope_good D [I x1, I x2]) fun r_6 =>
asB r_6 fun x9 =>
cond x9 (
gd (decide (0 ≤ x1)) (gd (decide (x1 < (3 : Int))) (
gx [.int .u8 x0c0, .int .u8 x0c1, .int .u8 x0c2] (0 + x1.toNat * 1) fun v => asI .u8 v fun x13 =>
gd (decide (0 ≤ x2)) (
ret (.norm [.bool ((IntKind.wrap .u8 ((BitVec.ofInt 8 (Int.fdiv x13 (2 ^ (min x2.toNat 8))) &&& BitVec.ofInt 8 1).toNat : Int)) == 1)]))))) (
ret (.norm [.bool false]))) fun vs =>
uB vs fun x6 r_7 =>
nl r_7 (
ret (.ret [.bool x6])))))

/-- countermand/countermandlaw28.alive -/
def f_law28_alive (D : HV → List HV → M HV) (args : List HV) : M HV :=
fin (
nl args (
nw [I 4, I 0, I 0, I 0, I 6, I 0, I 2, I 0, I 7, I 1, I 0, I 0, I 5, I 0, I 0, I 0] fun b8 =>
bnd (f_scope_Of D [.sl (⟨some (b8, 0), 4, 4, none⟩), I 0]) fun r =>
asT r fun x9l => uA x9l fun x9t0l r_1 =>
uB r_1 fun x9t1 r_2 =>
nl r_2 (
gd (Nat.beq x9t0l.length 15) (
gd (Nat.ble (0 + x9t0l.length) (([.int .u8 0, .int .u8 0, .int .u8 0, .int .u8 0, .int .u8 0, .int .u8 0, .bool false, .bool false, .bool false, .bool false, .bool false, .bool false, .bool false, .bool false, .bool false]) : List HV).length) (
jn (
cond x9t1 (
gxN (putN [.int .u8 0, .int .u8 0, .int .u8 0, .int .u8 0, .int .u8 0, .int .u8 0, .bool false, .bool false, .bool false, .bool false, .bool false, .bool false, .bool false, .bool false, .bool false] 0 x9t0l) 0 15 fun x14l =>
eqM [(.ki .u8), (.ki .u8), (.ki .u8), (.ki .u8), (.ki .u8), (.ki .u8), .kb, .kb, .kb, .kb, .kb, .kb, .kb, .kb, .kb] x14l [.int .u8 4, .int .u8 0, .int .u8 0, .int .u8 2, .int .u8 0, .int .u8 0, .bool false, .bool false, .bool false, .bool false, .bool false, .bool false, .bool false, .bool false, .bool false] fun x18e =>
cond x18e (
gxN (putN [.int .u8 0, .int .u8 0, .int .u8 0, .int .u8 0, .int .u8 0, .int .u8 0, .bool false, .bool false, .bool false, .bool false, .bool false, .bool false, .bool false, .bool false, .bool false] 0 x9t0l) 0 3 fun x22l =>
uI .u8 x22l fun x22c0 r_3 =>
uI .u8 r_3 fun x22c1 r_4 =>
uI .u8 r_4 fun x22c2 r_5 =>
nl r_5 (
bnd (f_scope_Things_Has D [.agg [.int .u8 x22c0, .int .u8 x22c1, .int .u8 x22c2], I 0, I 2]) fun r_6 =>
asB r_6 fun x23 =>
ret (.norm [.bool x23]))) (
ret (.norm [.bool false]))) (
ret (.norm [.bool false]))) fun vs =>
uB vs fun x0 r_7 =>
nl r_7 (
ret (.ret [.bool x0])))))))

/-- countermand/countermandref28.Reads -/
def f_ref28_Reads (D : HV → List HV → M HV) (args : List HV) : M HV :=
fin (
uA args fun x0l r =>
uI .i64 x0l fun x0c0 r_1 =>
uI .i64 r_1 fun x0c1 r_2 =>
uI .i64 r_2 fun x0c2 r_3 =>
uI .i64 r_3 fun x0c3 r_4 =>
nl r_4 (
uI .i64 r fun x1 r_5 =>
uI .i64 r_5 fun x2 r_6 =>
nl r_6 (
cond (x0c0 == 6) (
jn (
cond (x1 == 0) (
ret (.norm [.bool (x2 == x0c2)])) (
ret (.norm [.bool false]))) fun vs =>
uB vs fun x6 r_7 =>
nl r_7 (
ret (.ret [.bool x6]))) (
cond (x0c0 == 8) (
jn (
cond (x1 == 1) (
ret (.norm [.bool (x2 == x0c2)])) (
ret (.norm [.bool false]))) fun vs_1 =>
uB vs_1 fun x6_1 r_8 =>
nl r_8 (
ret (.ret [.bool x6_1]))) (
jn (
cond (x0c0 == 9) (
ret (.norm [.bool (x0c0 == 9)])) (
cond (x0c0 == 10) (
ret (.norm [.bool (x0c0 == 10)])) (
cond (x0c0 == 11) (
ret (.norm [.bool (x0c0 == 11)])) (
ret (.norm [.bool (x0c0 == 13)]))))) fun vs_2 =>
uB vs_2 fun x29 r_9 =>
nl r_9 (
cond x29 (
jn (
cond (x1 == 1) (
ret (.norm [.bool (x2 == x0c1)])) (
ret (.norm [.bool false]))) fun vs_3 =>
uB vs_3 fun x6_2 r_10 =>
nl r_10 (
ret (.ret [.bool x6_2]))) (
cond (x0c0 == 12) (
jn (
cond (x1 == 1) (
cond (x2 == x0c1) (
ret (.norm [.bool true])) (
ret (.norm [.bool (x2 == x0c2)]))) (
ret (.norm [.bool false]))) fun vs_4 =>
uB vs_4 fun x6_3 r_11 =>
nl r_11 (
ret (.ret [.bool x6_3]))) (
cond (x0c0 == 14) (
jn (
cond (x1 == 2) (
ret (.norm [.bool (x2 == x0c2)])) (
ret (.norm [.bool false]))) fun vs_5 =>
uB vs_5 fun x6_4 r_12 =>
nl r_12 (
ret (.ret [.bool x6_4]))) (
ret (.ret [.bool false]))))))))))

/-- countermand/countermandref28.Writes -/
def f_ref28_Writes (D : HV → List HV → M HV) (args : List HV) : M HV :=
fin (
uA args fun x0l r =>
uI .i64 x0l fun x0c0 r_1 =>
uI .i64 r_1 fun x0c1 r_2 =>
uI .i64 r_2 fun x0c2 r_3 =>
uI .i64 r_3 fun x0c3 r_4 =>
nl r_4 (
uI .i64 r fun x1 r_5 =>
uI .i64 r_5 fun x2 r_6 =>
nl r_6 (
cond (x0c0 == 7) (
jn (
cond (x1 == 0) (
ret (.norm [.bool (x2 == x0c1)])) (
ret (.norm [.bool false]))) fun vs =>
uB vs fun x6 r_7 =>
nl r_7 (
ret (.ret [.bool x6]))) (
jn (
cond (x0c0 != 6) (
cond (x0c0 != 8) (
bnd (f_ref28_Reads D [.agg [I x0c0, I x0c1, I x0c2, I x0c3], I x1, I x2]) fun r_8 =>
asB r_8 fun x30 =>
ret (.norm [.bool x30])) (
ret (.norm [.bool false]))) (
ret (.norm [.bool false]))) fun vs_1 =>
uB vs_1 fun x6_1 r_9 =>
nl r_9 (
ret (.ret [.bool x6_1]))))))

/-- countermand/countermandref28.Of -/
def f_ref28_Of (D : HV → List HV → M HV) (args : List HV) : M HV :=
fin (
uL args fun x0 r =>
uI .i64 r fun x1 r_1 =>
nl r_1 (
jn (
bnd (f_ref27_Can D [.sl x0]) fun r_2 =>
asB r_2 fun x14 =>
cond (!x14) (
ret (.norm [.bool true])) (
cond (decide (x1 < 0)) (
ret (.norm [.bool true])) (
cond (decide (x1 ≥ (x0.len : Int))) (
ret (.norm [.bool true])) (
ix x0 x1 4 fun x29b x29o =>
ldC x29b x29o fun v => asI .i64 v fun x31 =>
ret (.norm [.bool (x31 != 4)]))))) fun vs =>
uB vs fun x33 r_3 =>
nl r_3 (
cond x33 (
ret (.ret [.agg (List.replicate 57 (HV.bool false)), .bool false])) (
bnd (f_ref27_Seen D [.sl x0, I x1]) fun r_4 =>
asA r_4 fun x37l =>
gd (Nat.beq x37l.length 49) (
gd (Nat.ble (0 + x37l.length) (List.replicate 49 (HV.bool false)).length) (
blk 0 (
loopD (fun vs_2 =>
uI .i64 vs_2 fun x40 r_5 =>
uA r_5 fun y6 r_6 =>
nl r_6 (
cond (decide (x40 < (x0.len : Int))) (
blk 1 (
ix x0 x40 4 fun x43b x43o =>
ldN x43b x43o 4 fun x44l =>
uI .i64 x44l fun x44c0 r_7 =>
uI .i64 r_7 fun x44c1 r_8 =>
uI .i64 r_8 fun x44c2 r_9 =>
uI .i64 r_9 fun x44c3 r_10 =>
nl r_10 (
jn (
gd (decide (0 ≤ x40)) (gd (decide (x40 < (49 : Int))) (
gx (putN (List.replicate 49 (HV.bool false)) 0 x37l) (0 + x40.toNat * 1) fun v_1 => asB v_1 fun x47 =>
cond (!x47) (
ret (.norm [.bool true])) (
bnd (f_ref07_Block D [.sl x0, I x40]) fun r_11 =>
asI .i64 r_11 fun x52 =>
ret (.norm [.bool (x52 != x1)]))))) fun vs_4 =>
uB vs_4 fun x55 r_12 =>
nl r_12 (
cond x55 (
ret (.exit 1 [.agg y6])) (
blk 2 (
loopD (fun vs_6 =>
uI .i64 vs_6 fun x10 r_13 =>
uA r_13 fun y6_1 r_14 =>
nl r_14 (
cond (decide (x10 < 3)) (
blk 4 (
loopD (fun vs_8 =>
uI .i64 vs_8 fun x11 r_15 =>
uA r_15 fun y6_2 r_16 =>
nl r_16 (
cond (decide (x11 < 8)) (
blk 5 (
jn (
gd (decide (0 ≤ x10)) (gd (decide (x10 < (3 : Int))) (
gd (decide (0 ≤ x11)) (gd (decide (x11 < (8 : Int))) (
gx y6_2 (0 + x10.toNat * 8 + x11.toNat * 1) fun v_2 => asB v_2 fun x71 =>
cond x71 (
gd (decide (0 ≤ x10)) (gd (decide (x10 < (3 : Int))) (
gd (decide (0 ≤ x11)) (gd (decide (x11 < (8 : Int))) (
gd (decide (0 + x10.toNat * 8 + x11.toNat * 1 < y6_2.length)) (
ret (.norm [.agg (List.set y6_2 (0 + x10.toNat * 8 + x11.toNat * 1) (.bool true))]))))))) (
bnd (f_ref28_Reads D [.agg [I x44c0, I x44c1, I x44c2, I x44c3], I x10, I x11]) fun r_17 =>
asB r_17 fun x76 =>
gd (decide (0 ≤ x10)) (gd (decide (x10 < (3 : Int))) (
gd (decide (0 ≤ x11)) (gd (decide (x11 < (8 : Int))) (
gd (decide (0 + x10.toNat * 8 + x11.toNat * 1 < y6_2.length)) (
ret (.norm [.agg (List.set y6_2 (0 + x10.toNat * 8 + x11.toNat * 1) (.bool x76))])))))))))))) fun vs_10 =>
uA vs_10 fun y6_3 r_18 =>
nl r_18 (
gd (decide (0 ≤ x10)) (gd (decide (x10 < (3 : Int))) (
gd (decide (0 ≤ x11)) (gd (decide (x11 < (8 : Int))) (
gx y6_3 (24 + x10.toNat * 8 + x11.toNat * 1) fun v_3 => asB v_3 fun x88 =>
cond x88 (
gd (decide (0 ≤ x10)) (gd (decide (x10 < (3 : Int))) (
gd (decide (0 ≤ x11)) (gd (decide (x11 < (8 : Int))) (
gd (decide (24 + x10.toNat * 8 + x11.toNat * 1 < y6_3.length)) (
ret (.norm [.agg (List.set y6_3 (24 + x10.toNat * 8 + x11.toNat * 1) (.bool true))]))))))) (
bnd (f_ref28_Writes D [.agg [I x44c0, I x44c1, I x44c2, I x44c3], I x10, I x11]) fun r_19 =>
asB r_19 fun x93 =>
gd (decide (0 ≤ x10)) (gd (decide (x10 < (3 : Int))) (
gd (decide (0 ≤ x11)) (gd (decide (x11 < (8 : Int))) (
gd (decide (24 + x10.toNat * 8 + x11.toNat * 1 < y6_3.length)) (
ret (.norm [.agg (List.set y6_3 (24 + x10.toNat * 8 + x11.toNat * 1) (.bool x93))]))))))))))))) fun vs_9 =>
uA vs_9 fun y6_4 r_20 =>
nl r_20 (
ret (.norm [I (wr (x11 + 1)), .agg y6_4]))) (
ret (.exit 4 [.agg y6_2])))) [I 0, .agg y6_1]) fun vs_7 =>
uA vs_7 fun y6_5 r_21 =>
nl r_21 (
ret (.norm [I (wr (x10 + 1)), .agg y6_5]))) (
ret (.exit 2 [.agg y6_1])))) [I 0, .agg y6]) fun vs_5 =>
uA vs_5 fun y6_6 r_22 =>
nl r_22 (
blk 6 (
loopD (fun vs_12 =>
uI .i64 vs_12 fun x12 r_23 =>
uA r_23 fun y6_7 r_24 =>
nl r_24 (
cond (decide (x12 < 4)) (
blk 7 (
jn (
cond (decide (x12 < 3)) (
cond (x44c0 == 15) (
ret (.norm [.bool (x44c1 == x12)])) (
cond (x44c0 == 16) (
ret (.norm [.bool (x44c1 == x12)])) (
ret (.norm [.bool false])))) (
ret (.norm [.bool false]))) fun vs_14 =>
uB vs_14 fun x119 r_25 =>
nl r_25 (
jn (
cond x119 (
gd (decide (0 ≤ x12)) (gd (decide (x12 < (3 : Int))) (
gd (decide (48 + x12.toNat * 1 < y6_7.length)) (
ret (.norm [.agg (List.set y6_7 (48 + x12.toNat * 1) (.bool true))]))))) (
ret (.norm [.agg y6_7]))) fun vs_15 =>
uA vs_15 fun y6_8 r_26 =>
nl r_26 (
jn (
cond (x44c0 == 18) (
ret (.norm [.bool (x44c1 == x12)])) (
ret (.norm [.bool false]))) fun vs_16 =>
uB vs_16 fun x131 r_27 =>
nl r_27 (
cond x131 (
gd (decide (0 ≤ x12)) (gd (decide (x12 < (4 : Int))) (
gd (decide (51 + x12.toNat * 1 < y6_8.length)) (
ret (.norm [.agg (List.set y6_8 (51 + x12.toNat * 1) (.bool true))]))))) (
ret (.norm [.agg y6_8])))))) fun vs_13 =>
uA vs_13 fun y6_9 r_28 =>
nl r_28 (
ret (.norm [I (wr (x12 + 1)), .agg y6_9]))) (
ret (.exit 6 [.agg y6_7])))) [I 0, .agg y6_6]) fun vs_11 =>
uA vs_11 fun y6_10 r_29 =>
nl r_29 (
jn (
gx y6_10 55 fun v_4 => asB v_4 fun x136 =>
cond x136 (
gd (decide (55 < y6_10.length)) (
ret (.norm [.agg (List.set y6_10 55 (.bool true))]))) (
gd (decide (55 < y6_10.length)) (
ret (.norm [.agg (List.set y6_10 55 (.bool (x44c0 == 21)))])))) fun vs_17 =>
uA vs_17 fun y6_11 r_30 =>
nl r_30 (
gx y6_11 56 fun v_5 => asB v_5 fun x144 =>
cond x144 (
gd (decide (56 < y6_11.length)) (
ret (.norm [.agg (List.set y6_11 56 (.bool true))]))) (
cond (x44c0 == 14) (
gd (decide (56 < y6_11.length)) (
ret (.norm [.agg (List.set y6_11 56 (.bool true))]))) (
gd (decide (56 < y6_11.length)) (
ret (.norm [.agg (List.set y6_11 56 (.bool (x44c0 == 19)))]))))))))))) fun vs_3 =>
uA vs_3 fun y6_12 r_31 =>
nl r_31 (
ret (.norm [I (wr (x40 + 1)), .agg y6_12]))) (
ret (.exit 0 [.agg y6])))) [I 0, .agg (List.replicate 57 (HV.bool false))]) fun vs_1 =>
uA vs_1 fun y6_13 r_32 =>
nl r_32 (
gxN y6_13 0 57 fun x157l =>
gd (Nat.beq x157l.length 57) (
gd (Nat.ble (0 + x157l.length) (List.replicate 57 (HV.bool false)).length) (
gxN (putN (List.replicate 57 (HV.bool false)) 0 x157l) 0 57 fun z0l =>
ret (.ret [.agg z0l, .bool true]))))))))))

/-- countermand/countermandlaw28.are -/
def f_law28_are (D : HV → List HV → M HV) (args : List HV) : M HV :=
fin (
uA args fun x0l r =>
uI .u8 x0l fun x0c0 r_1 =>
uI .u8 r_1 fun x0c1 r_2 =>
uI .u8 r_2 fun x0c2 r_3 =>
nl r_3 (
uA r fun x1l r_4 =>
nl r_4 (
blk 0 (
loopD (fun vs_1 =>
uI .i64 vs_1 fun x7 r_5 =>
nl r_5 (
cond (decide (x7 < 3)) (
blk 2 (
loopD (fun vs_3 =>
uI .i64 vs_3 fun x10 r_6 =>
nl r_6 (
cond (decide (x10 < 8)) (
gd (decide (0 ≤ x7)) (gd (decide (x7 < (3 : Int))) (
gx [.int .u8 x0c0, .int .u8 x0c1, .int .u8 x0c2] (0 + x7.toNat * 1) fun v => asI .u8 v fun x15 =>
gd (decide (0 ≤ IntKind.wrap .u64 x10)) (
gd (decide (0 ≤ x7)) (gd (decide (x7 < (3 : Int))) (
gd (decide (0 ≤ x10)) (gd (decide (x10 < (8 : Int))) (
gx x1l (0 + x7.toNat * 8 + x10.toNat * 1) fun v_1 => asB v_1 fun x25 =>
cond (!(((IntKind.wrap .u8 ((BitVec.ofInt 8 (Int.fdiv x15 (2 ^ (min (IntKind.wrap .u64 x10).toNat 8))) &&& BitVec.ofInt 8 1).toNat : Int)) == 1) == x25)) (
ret (.ret [.bool false])) (
ret (.norm [I (wr (x10 + 1))])))))))))) (
ret (.exit 2 [])))) [I 0]) fun vs_2 =>
nl vs_2 (
ret (.norm [I (wr (x7 + 1))]))) (
ret (.exit 0 [])))) [I 0]) fun vs =>
nl vs (
ret (.ret [.bool true])))))

/-- countermand/countermandlaw28.same -/
def f_law28_same (D : HV → List HV → M HV) (args : List HV) : M HV :=
fin (
uA args fun x0l r =>
uA r fun x1l r_1 =>
nl r_1 (
jn (
gxN x0l 0 3 fun x6l =>
uI .u8 x6l fun x6c0 r_2 =>
uI .u8 r_2 fun x6c1 r_3 =>
uI .u8 r_3 fun x6c2 r_4 =>
nl r_4 (
gxN x1l 0 24 fun x8l =>
bnd (f_law28_are D [.agg [.int .u8 x6c0, .int .u8 x6c1, .int .u8 x6c2], .agg x8l]) fun r_5 =>
asB r_5 fun x9 =>
cond x9 (
gxN x0l 3 3 fun x12l =>
uI .u8 x12l fun x12c0 r_6 =>
uI .u8 r_6 fun x12c1 r_7 =>
uI .u8 r_7 fun x12c2 r_8 =>
nl r_8 (
gxN x1l 24 24 fun x14l =>
bnd (f_law28_are D [.agg [.int .u8 x12c0, .int .u8 x12c1, .int .u8 x12c2], .agg x14l]) fun r_9 =>
asB r_9 fun x15 =>
cond x15 (
gxN x0l 6 3 fun x19l =>
uB x19l fun x19c0 r_10 =>
uB r_10 fun x19c1 r_11 =>
uB r_11 fun x19c2 r_12 =>
nl r_12 (
gxN x1l 48 3 fun x21l =>
uB x21l fun x21c0 r_13 =>
uB r_13 fun x21c1 r_14 =>
uB r_14 fun x21c2 r_15 =>
nl r_15 (
eqM [.kb, .kb, .kb] [.bool x19c0, .bool x19c1, .bool x19c2] [.bool x21c0, .bool x21c1, .bool x21c2] fun x22e =>
cond x22e (
gxN x0l 9 4 fun x26l =>
uB x26l fun x26c0 r_16 =>
uB r_16 fun x26c1 r_17 =>
uB r_17 fun x26c2 r_18 =>
uB r_18 fun x26c3 r_19 =>
nl r_19 (
gxN x1l 51 4 fun x28l =>
uB x28l fun x28c0 r_20 =>
uB r_20 fun x28c1 r_21 =>
uB r_21 fun x28c2 r_22 =>
uB r_22 fun x28c3 r_23 =>
nl r_23 (
eqM [.kb, .kb, .kb, .kb] [.bool x26c0, .bool x26c1, .bool x26c2, .bool x26c3] [.bool x28c0, .bool x28c1, .bool x28c2, .bool x28c3] fun x29e =>
cond x29e (
gx x0l 13 fun v => asB v fun x33 =>
gx x1l 55 fun v_1 => asB v_1 fun x35 =>
cond (x33 == x35) (
gx x0l 14 fun v_2 => asB v_2 fun x40 =>
gx x1l 56 fun v_3 => asB v_3 fun x42 =>
ret (.norm [.bool (x40 == x42)])) (
ret (.norm [.bool false]))) (
ret (.norm [.bool false]))))) (
ret (.norm [.bool false]))))) (
ret (.norm [.bool false])))) (
ret (.norm [.bool false])))) fun vs =>
uB vs fun x4 r_24 =>
nl r_24 (
ret (.ret [.bool x4]))))

/-- countermand/countermandlaw28.ScopeOf -/
def f_law28_ScopeOf (D : HV → List HV → M HV) (args : List HV) : M HV :=
fin (
uL args fun x0 r =>
uI .i64 r fun x1 r_1 =>
nl r_1 (
bnd (f_law28_alive D []) fun r_2 =>
asB r_2 fun x9 =>
cond (!x9) (
ret (.ret [.bool false])) (
bnd (f_scope_Of D [.sl x0, I x1]) fun r_3 =>
asT r_3 fun x14l => uA x14l fun x14t0l r_4 =>
uB r_4 fun x14t1 r_5 =>
nl r_5 (
gd (Nat.beq x14t0l.length 15) (
gd (Nat.ble (0 + x14t0l.length) (([.int .u8 0, .int .u8 0, .int .u8 0, .int .u8 0, .int .u8 0, .int .u8 0, .bool false, .bool false, .bool false, .bool false, .bool false, .bool false, .bool false, .bool false, .bool false]) : List HV).length) (
bnd (f_ref28_Of D [.sl x0, I x1]) fun r_6 =>
asT r_6 fun x20l => uA x20l fun x20t0l r_7 =>
uB r_7 fun x20t1 r_8 =>
nl r_8 (
gd (Nat.beq x20t0l.length 57) (
gd (Nat.ble (0 + x20t0l.length) (List.replicate 57 (HV.bool false)).length) (
cond (!x20t1) (
jn (
cond (!x14t1) (
gxN (putN [.int .u8 0, .int .u8 0, .int .u8 0, .int .u8 0, .int .u8 0, .int .u8 0, .bool false, .bool false, .bool false, .bool false, .bool false, .bool false, .bool false, .bool false, .bool false] 0 x14t0l) 0 15 fun x28l =>
eqM [(.ki .u8), (.ki .u8), (.ki .u8), (.ki .u8), (.ki .u8), (.ki .u8), .kb, .kb, .kb, .kb, .kb, .kb, .kb, .kb, .kb] x28l [.int .u8 0, .int .u8 0, .int .u8 0, .int .u8 0, .int .u8 0, .int .u8 0, .bool false, .bool false, .bool false, .bool false, .bool false, .bool false, .bool false, .bool false, .bool false] fun x30e =>
ret (.norm [.bool x30e])) (
ret (.norm [.bool false]))) fun vs =>
uB vs fun x4 r_9 =>
nl r_9 (
ret (.ret [.bool x4]))) (
jn (
cond x14t1 (
gxN (putN [.int .u8 0, .int .u8 0, .int .u8 0, .int .u8 0, .int .u8 0, .int .u8 0, .bool false, .bool false, .bool false, .bool false, .bool false, .bool false, .bool false, .bool false, .bool false] 0 x14t0l) 0 15 fun x34l =>
gxN (putN (List.replicate 57 (HV.bool false)) 0 x20t0l) 0 57 fun x35l =>
bnd (f_law28_same D [.agg x34l, .agg x35l]) fun r_10 =>
asB r_10 fun x36 =>
ret (.norm [.bool x36])) (
ret (.norm [.bool false]))) fun vs_1 =>
uB vs_1 fun x4_1 r_11 =>
nl r_11 (
ret (.ret [.bool x4_1]))))))))))))

/-- countermand/countermandlaw28.ScopeAll -/
def f_law28_ScopeAll (D : HV → List HV → M HV) (args : List HV) : M HV :=
fin (
uL args fun x0 r =>
uI .i64 r fun x1 r_1 =>
nl r_1 (
nw [.sl x0] fun b2 =>
nw [I x1] fun b3 =>
nw [.bool false] fun b4 =>
bnd (f_law28_alive D []) fun r_2 =>
asB r_2 fun x15 =>
cond (!x15) (
stC b4 0 (.bool false) (
ldC b4 0 fun v => asB v fun z0 =>
ret (.ret [.bool z0]))) (
nw [I 0] fun b5 =>
nw [I 0] fun b6 =>
stC b5 0 (I 0) (
stC b6 0 (I (-1)) (
ldC b2 0 fun v_1 => asSl v_1 fun x17 =>
blk 0 (
loopD (fun vs_1 =>
uI .i64 vs_1 fun x7 r_3 =>
uI .i64 r_3 fun x19 r_4 =>
nl r_4 (
cond (decide (x19 < (x17.len : Int))) (
ldC b2 0 fun v_2 => asSl v_2 fun x23 =>
bnd (f_ref28_Of D [.sl x23, I x19]) fun r_5 =>
asT r_5 fun x25l => uA x25l fun x25t0l r_6 =>
uB r_6 fun x25t1 r_7 =>
nl r_7 (
gd (Nat.beq x25t0l.length 57) (
gd (Nat.ble (0 + x25t0l.length) (List.replicate 57 (HV.bool false)).length) (
jn (
cond x25t1 (
ret (.norm [I (wr (x7 + 1))])) (
ret (.norm [I x7]))) fun vs_2 =>
uI .i64 vs_2 fun x7_1 r_8 =>
nl r_8 (
ldC b2 0 fun v_3 => asSl v_3 fun x31 =>
bnd (f_ref27_Can D [.sl x31]) fun r_9 =>
asB r_9 fun x32 =>
cond (!x32) (
ret (.exit 0 [I x7_1])) (
ret (.norm [I x7_1, I (wr (x19 + 1))]))))))) (
ret (.exit 0 [I x7])))) [I 0, I 0]) fun vs =>
uI .i64 vs fun x7_2 r_10 =>
nl r_10 (
ldC b2 0 fun v_4 => asSl v_4 fun x35 =>
bnd (f_scope_All D [.sl x35]) fun r_11 =>
blk 2 (
ny r_11 (nwL 34873769 [(2, .ptr (some (b2, 0))), (3, .ptr (some (b3, 0))), (4, .ptr (some (b4, 0))), (5, .ptr (some (b5, 0))), (6, .ptr (some (b6, 0)))] fun l =>
bnd (D r_11 [.yld l]) fun q =>
endL l (
ret (.norm []))
(onX 2 (ret (.exit 2 [])) noX) (
ldC b4 0 fun v_5 => asB v_5 fun z0_1 =>
ret (.ret [.bool z0_1])))) fun vs_3 =>
nl vs_3 (
jn (
ldC b5 0 fun v_6 => asI .i64 v_6 fun x64 =>
ldC b3 0 fun v_7 => asI .i64 v_7 fun x65 =>
cond (x64 == x65) (
stC b4 0 (.bool true) (
ret (.norm []))) (
ldC b5 0 fun v_8 => asI .i64 v_8 fun x68 =>
stC b4 0 (.bool (x68 == x7_2)) (
ret (.norm [])))) fun vs_4 =>
nl vs_4 (
ldC b4 0 fun v_9 => asB v_9 fun z0_2 =>
ret (.ret [.bool z0_2])))))))))

/-- a round of countermand/countermandlaw28.ScopeAll -/
def r0_law28_ScopeAll (D : HV → List HV → M HV) (l : Nat) (vs : List (Nat × HV)) (args : List HV) : M Leaf :=
gdS [2, 3, 4, 5, 6] vs fun vs' =>
uP vs' fun x2 r =>
uP r fun x3 r_1 =>
uP r_1 fun x4 r_2 =>
uP r_2 fun x5 r_3 =>
uP r_3 fun x6 r_4 =>
nl r_4 (
uI .i64 args fun x37 r_5 =>
uA r_5 fun x38l r_6 =>
nl r_6 (
gd (Nat.beq x38l.length 15) (
gd (Nat.ble (0 + x38l.length) (([.int .u8 0, .int .u8 0, .int .u8 0, .int .u8 0, .int .u8 0, .int .u8 0, .bool false, .bool false, .bool false, .bool false, .bool false, .bool false, .bool false, .bool false, .bool false]) : List HV).length) (
busyL l (
mP x2 fun x40b x40o =>
ldC x40b x40o fun v => asSl v fun x40 =>
bnd (f_ref28_Of D [.sl x40, I x37]) fun r_7 =>
asT r_7 fun x42l => uA x42l fun x42t0l r_8 =>
uB r_8 fun x42t1 r_9 =>
nl r_9 (
gd (Nat.beq x42t0l.length 57) (
gd (Nat.ble (0 + x42t0l.length) (List.replicate 57 (HV.bool false)).length) (
jn (
cond (!x42t1) (
ret (.norm [.bool true])) (
mP x6 fun x49b x49o =>
ldC x49b x49o fun v_1 => asI .i64 v_1 fun x49 =>
cond (decide (x37 ≤ x49)) (
ret (.norm [.bool true])) (
gxN (putN [.int .u8 0, .int .u8 0, .int .u8 0, .int .u8 0, .int .u8 0, .int .u8 0, .bool false, .bool false, .bool false, .bool false, .bool false, .bool false, .bool false, .bool false, .bool false] 0 x38l) 0 15 fun x53l =>
gxN (putN (List.replicate 57 (HV.bool false)) 0 x42t0l) 0 57 fun x54l =>
bnd (f_law28_same D [.agg x53l, .agg x54l]) fun r_10 =>
asB r_10 fun x55 =>
ret (.norm [.bool (!x55)])))) fun vs_1 =>
uB vs_1 fun x57 r_11 =>
nl r_11 (
cond x57 (
mP x4 fun qb qo =>
stC qb qo (.bool false) (
ret (.ret []))) (
mP x6 fun qb_1 qo_1 =>
stC qb_1 qo_1 (I x37) (
mP x5 fun x59b x59o =>
ldC x59b x59o fun v_2 => asI .i64 v_2 fun x59 =>
mP x5 fun qb_2 qo_2 =>
stC qb_2 qo_2 (I (wr (x59 + 1))) (
mP x5 fun x61b x61o =>
ldC x61b x61o fun v_3 => asI .i64 v_3 fun x61 =>
mP x3 fun x62b x62o =>
ldC x62b x62o fun v_4 => asI .i64 v_4 fun x62 =>
cond (x61 == x62) (
ret (.exit 2 [])) (
ret (.norm []))))))))))))))

end Go.Proofs.Ytijppadieomnjaa.HL
