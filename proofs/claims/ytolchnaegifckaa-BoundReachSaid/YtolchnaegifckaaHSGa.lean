/- The texts of functions, printed out of the dump by hlgen3.py. Conditions: none (definitions). -/
import Derived.Test.YtolchnaegifckaaHSZd
import Derived.Test.YtolchnaegifckaaHSGn
namespace Go.Proofs.Ytolchnaegifckaa.HS
open Go
set_option maxRecDepth 100000
set_option linter.unusedVariables false

/-- countermand/code.spans -/
def f_code_spans (D : HV → List HV → M HV) (args : List HV) : M HV :=
fin (
uL args fun x0 r =>
nl r (
gd (decide (0 ≤ (x0.len : Int))) (gd (decide ((x0.len : Int) ≤ (x0.len : Int))) (gd (decide ((x0.len : Int).toNat * 8 ≤ room)) (
nw (repL (x0.len : Int).toNat [I 0]) fun b10 =>
blk 0 (
loopD (fun vs_1 =>
uI .i64 vs_1 fun x5 r_1 =>
uI .i64 r_1 fun x13 r_2 =>
nl r_2 (
cond (decide (x13 < (x0.len : Int))) (
blk 1 (
ix x0 x13 4 fun x16b x16o =>
ldN x16b x16o 4 fun x17l =>
uI .i64 x17l fun x17c0 r_3 =>
uI .i64 r_3 fun x17c1 r_4 =>
uI .i64 r_4 fun x17c2 r_5 =>
uI .i64 r_5 fun x17c3 r_6 =>
nl r_6 (
ix (⟨some (b10, 0), (x0.len : Int).toNat, (x0.len : Int).toNat, none⟩) x13 1 fun x21b x21o =>
stC x21b x21o (I x5) (
cond (x17c0 == 4) (
cond (decide (x5 ≥ 0)) (
ret (.ret [.sl (⟨none, 0, 0, none⟩), .bool false])) (
ret (.norm [I x13]))) (
cond (x17c0 == 5) (
cond (decide (x5 < 0)) (
ret (.ret [.sl (⟨none, 0, 0, none⟩), .bool false])) (
ret (.norm [I (-1)]))) (
ret (.norm [I x5])))))) fun vs_2 =>
uI .i64 vs_2 fun x5_1 r_7 =>
nl r_7 (
ret (.norm [I x5_1, I (wr (x13 + 1))]))) (
ret (.exit 0 [I x5])))) [I (-1), I 0]) fun vs =>
uI .i64 vs fun x5_2 r_8 =>
nl r_8 (
ret (.ret [.sl (⟨some (b10, 0), (x0.len : Int).toNat, (x0.len : Int).toNat, none⟩), .bool (decide (x5_2 < 0))])))))))

/-- countermand/code.in -/
def f_code_in (D : HV → List HV → M HV) (args : List HV) : M HV :=
fin (
uI .i64 args fun x0 r =>
uI .i64 r fun x1 r_1 =>
nl r_1 (
jn (
cond (decide (x0 ≥ 0)) (
ret (.norm [.bool (decide (x0 < x1))])) (
ret (.norm [.bool false]))) fun vs =>
uB vs fun x4 r_2 =>
nl r_2 (
ret (.ret [.bool x4]))))

/-- countermand/code.things -/
def f_code_things (D : HV → List HV → M HV) (args : List HV) : M HV :=
fin (
uA args fun x0l r =>
uI .i64 x0l fun x0c0 r_1 =>
uI .i64 r_1 fun x0c1 r_2 =>
uI .i64 r_2 fun x0c2 r_3 =>
uI .i64 r_3 fun x0c3 r_4 =>
nl r_4 (
nl r (
cond (x0c0 == 8) (
jn (
bnd (f_code_in D [I x0c1, I 4]) fun r_5 =>
asB r_5 fun x9 =>
cond x9 (
bnd (f_code_in D [I x0c2, I 6]) fun r_6 =>
asB r_6 fun x13 =>
cond x13 (
bnd (f_code_in D [I x0c3, I 32]) fun r_7 =>
asB r_7 fun x18 =>
ret (.norm [.bool x18])) (
ret (.norm [.bool false]))) (
ret (.norm [.bool false]))) fun vs =>
uB vs fun x2 r_8 =>
nl r_8 (
ret (.ret [.bool x2]))) (
cond (x0c0 == 9) (
jn (
bnd (f_code_in D [I x0c1, I 6]) fun r_9 =>
asB r_9 fun x24 =>
cond x24 (
bnd (f_code_in D [I x0c2, I 32]) fun r_10 =>
asB r_10 fun x28 =>
cond x28 (
bnd (f_code_in D [I x0c3, I 4]) fun r_11 =>
asB r_11 fun x33 =>
ret (.norm [.bool x33])) (
ret (.norm [.bool false]))) (
ret (.norm [.bool false]))) fun vs_1 =>
uB vs_1 fun x2_1 r_12 =>
nl r_12 (
ret (.ret [.bool x2_1]))) (
jn (
cond (x0c0 == 10) (
ret (.norm [.bool (x0c0 == 10)])) (
ret (.norm [.bool (x0c0 == 11)]))) fun vs_2 =>
uB vs_2 fun x35 r_13 =>
nl r_13 (
cond x35 (
jn (
bnd (f_code_in D [I x0c1, I 6]) fun r_14 =>
asB r_14 fun x40 =>
cond x40 (
cond (x0c2 == 0) (
ret (.norm [.bool (x0c3 == 0)])) (
ret (.norm [.bool false]))) (
ret (.norm [.bool false]))) fun vs_3 =>
uB vs_3 fun x2_2 r_15 =>
nl r_15 (
ret (.ret [.bool x2_2]))) (
cond (x0c0 == 12) (
jn (
bnd (f_code_in D [I x0c1, I 6]) fun r_16 =>
asB r_16 fun x55 =>
cond x55 (
bnd (f_code_in D [I x0c2, I 6]) fun r_17 =>
asB r_17 fun x59 =>
cond x59 (
cond (x0c1 != x0c2) (
ret (.norm [.bool (x0c3 == 0)])) (
ret (.norm [.bool false]))) (
ret (.norm [.bool false]))) (
ret (.norm [.bool false]))) fun vs_4 =>
uB vs_4 fun x2_3 r_18 =>
nl r_18 (
ret (.ret [.bool x2_3]))) (
cond (x0c0 == 13) (
jn (
bnd (f_code_in D [I x0c1, I 6]) fun r_19 =>
asB r_19 fun x77 =>
cond x77 (
bnd (f_code_in D [I x0c2, I 33]) fun r_20 =>
asB r_20 fun x81 =>
cond x81 (
ret (.norm [.bool (x0c3 == 0)])) (
ret (.norm [.bool false]))) (
ret (.norm [.bool false]))) fun vs_5 =>
uB vs_5 fun x2_4 r_21 =>
nl r_21 (
ret (.ret [.bool x2_4]))) (
cond (x0c0 == 14) (
jn (
bnd (f_code_in D [I x0c1, I 4]) fun r_22 =>
asB r_22 fun x92 =>
cond x92 (
bnd (f_code_in D [I x0c2, I 3]) fun r_23 =>
asB r_23 fun x96 =>
cond x96 (
ret (.norm [.bool (x0c3 == 0)])) (
ret (.norm [.bool false]))) (
ret (.norm [.bool false]))) fun vs_6 =>
uB vs_6 fun x2_5 r_24 =>
nl r_24 (
ret (.ret [.bool x2_5]))) (
cond (x0c0 == 15) (
jn (
bnd (f_code_in D [I x0c1, I 3]) fun r_25 =>
asB r_25 fun x107 =>
cond x107 (
bnd (f_code_in D [I x0c2, I 4]) fun r_26 =>
asB r_26 fun x111 =>
cond x111 (
ret (.norm [.bool (x0c3 == 0)])) (
ret (.norm [.bool false]))) (
ret (.norm [.bool false]))) fun vs_7 =>
uB vs_7 fun x2_6 r_27 =>
nl r_27 (
ret (.ret [.bool x2_6]))) (
cond (x0c0 == 16) (
jn (
bnd (f_code_in D [I x0c1, I 3]) fun r_28 =>
asB r_28 fun x122 =>
cond x122 (
bnd (f_code_in D [I x0c2, I 256]) fun r_29 =>
asB r_29 fun x126 =>
cond x126 (
ret (.norm [.bool (x0c3 == 0)])) (
ret (.norm [.bool false]))) (
ret (.norm [.bool false]))) fun vs_8 =>
uB vs_8 fun x2_7 r_30 =>
nl r_30 (
ret (.ret [.bool x2_7]))) (
cond (x0c0 == 17) (
jn (
bnd (f_code_in D [I x0c1, I 256]) fun r_31 =>
asB r_31 fun x137 =>
cond x137 (
cond (x0c2 == 0) (
ret (.norm [.bool (x0c3 == 0)])) (
ret (.norm [.bool false]))) (
ret (.norm [.bool false]))) fun vs_9 =>
uB vs_9 fun x2_8 r_32 =>
nl r_32 (
ret (.ret [.bool x2_8]))) (
cond (x0c0 == 18) (
jn (
bnd (f_code_in D [I x0c1, I 4]) fun r_33 =>
asB r_33 fun x152 =>
cond x152 (
cond (decide (x0c2 ≥ (-100))) (
cond (decide (x0c2 ≤ 100)) (
ret (.norm [.bool (x0c3 == 0)])) (
ret (.norm [.bool false]))) (
ret (.norm [.bool false]))) (
ret (.norm [.bool false]))) fun vs_10 =>
uB vs_10 fun x2_9 r_34 =>
nl r_34 (
ret (.ret [.bool x2_9]))) (
ret (.ret [.bool false])))))))))))))))

/-- countermand/code.fields -/
def f_code_fields (D : HV → List HV → M HV) (args : List HV) : M HV :=
fin (
uA args fun x0l r =>
uI .i64 x0l fun x0c0 r_1 =>
uI .i64 r_1 fun x0c1 r_2 =>
uI .i64 r_2 fun x0c2 r_3 =>
uI .i64 r_3 fun x0c3 r_4 =>
nl r_4 (
nl r (
jn (
cond (x0c0 == 0) (
ret (.norm [.bool (x0c0 == 0)])) (
cond (x0c0 == 4) (
ret (.norm [.bool (x0c0 == 4)])) (
cond (x0c0 == 5) (
ret (.norm [.bool (x0c0 == 5)])) (
cond (x0c0 == 19) (
ret (.norm [.bool (x0c0 == 19)])) (
ret (.norm [.bool (x0c0 == 21)])))))) fun vs =>
uB vs fun x5 r_5 =>
nl r_5 (
cond x5 (
ret (.ret [.bool (cond (x0c0 == x0c0) (cond (x0c1 == 0) (cond (x0c2 == 0) (cond (x0c3 == 0) true false) false) false) false)])) (
cond (x0c0 == 1) (
jn (
bnd (f_code_in D [I x0c1, I 4]) fun r_6 =>
asB r_6 fun x20 =>
cond x20 (
ret (.norm [.bool (x0c3 == 0)])) (
ret (.norm [.bool false]))) fun vs_1 =>
uB vs_1 fun x2 r_7 =>
nl r_7 (
ret (.ret [.bool x2]))) (
cond (x0c0 == 2) (
jn (
bnd (f_code_in D [I x0c1, I 4]) fun r_8 =>
asB r_8 fun x30 =>
cond x30 (
bnd (f_code_in D [I x0c2, I 4]) fun r_9 =>
asB r_9 fun x34 =>
cond x34 (
ret (.norm [.bool (x0c3 == 0)])) (
ret (.norm [.bool false]))) (
ret (.norm [.bool false]))) fun vs_2 =>
uB vs_2 fun x2_1 r_10 =>
nl r_10 (
ret (.ret [.bool x2_1]))) (
cond (x0c0 == 3) (
jn (
bnd (f_code_in D [I x0c2, I 4]) fun r_11 =>
asB r_11 fun x45 =>
cond x45 (
bnd (f_code_in D [I x0c3, I 3]) fun r_12 =>
asB r_12 fun x49 =>
ret (.norm [.bool x49])) (
ret (.norm [.bool false]))) fun vs_3 =>
uB vs_3 fun x2_2 r_13 =>
nl r_13 (
ret (.ret [.bool x2_2]))) (
cond (x0c0 == 6) (
jn (
bnd (f_code_in D [I x0c1, I 4]) fun r_14 =>
asB r_14 fun x55 =>
cond x55 (
bnd (f_code_in D [I x0c2, I 8]) fun r_15 =>
asB r_15 fun x59 =>
cond x59 (
ret (.norm [.bool (x0c3 == 0)])) (
ret (.norm [.bool false]))) (
ret (.norm [.bool false]))) fun vs_4 =>
uB vs_4 fun x2_3 r_16 =>
nl r_16 (
ret (.ret [.bool x2_3]))) (
cond (x0c0 == 7) (
jn (
bnd (f_code_in D [I x0c1, I 8]) fun r_17 =>
asB r_17 fun x70 =>
cond x70 (
bnd (f_code_in D [I x0c2, I 4]) fun r_18 =>
asB r_18 fun x74 =>
cond x74 (
ret (.norm [.bool (x0c3 == 0)])) (
ret (.norm [.bool false]))) (
ret (.norm [.bool false]))) fun vs_5 =>
uB vs_5 fun x2_4 r_19 =>
nl r_19 (
ret (.ret [.bool x2_4]))) (
cond (x0c0 == 20) (
jn (
cond (x0c2 == 0) (
ret (.norm [.bool (x0c3 == 0)])) (
ret (.norm [.bool false]))) fun vs_6 =>
uB vs_6 fun x2_5 r_20 =>
nl r_20 (
ret (.ret [.bool x2_5]))) (
bnd (f_code_things D [.agg [I x0c0, I x0c1, I x0c2, I x0c3]]) fun r_21 =>
asB r_21 fun x92 =>
ret (.ret [.bool x92]))))))))))))

/-- countermand/code.placed -/
def f_code_placed (D : HV → List HV → M HV) (args : List HV) : M HV :=
fin (
uI .i64 args fun x0 r =>
uB r fun x1 r_1 =>
nl r_1 (
jn (
cond (x0 == 1) (
ret (.norm [.bool (x0 == 1)])) (
cond (x0 == 2) (
ret (.norm [.bool (x0 == 2)])) (
ret (.norm [.bool (x0 == 3)])))) fun vs =>
uB vs fun x6 r_2 =>
nl r_2 (
cond x6 (
ret (.ret [.bool true])) (
jn (
cond (x0 == 0) (
ret (.norm [.bool (x0 == 0)])) (
ret (.norm [.bool (x0 == 4)]))) fun vs_1 =>
uB vs_1 fun x10 r_3 =>
nl r_3 (
cond x10 (
ret (.ret [.bool (!x1)])) (
ret (.ret [.bool x1])))))))

/-- countermand/code.lands -/
def f_code_lands (D : HV → List HV → M HV) (args : List HV) : M HV :=
fin (
uL args fun x0 r =>
uL r fun x1 r_1 =>
uI .i64 r_1 fun x2 r_2 =>
nl r_2 (
ix x0 x2 4 fun x10b x10o =>
ldC x10b (x10o + 1) fun v => asI .i64 v fun x12 =>
jn (
cond (decide (x12 ≤ x2)) (
ret (.norm [.bool true])) (
ret (.norm [.bool (decide (x12 > (x0.len : Int)))]))) fun vs =>
uB vs fun x21 r_3 =>
nl r_3 (
cond x21 (
ret (.ret [.bool false])) (
cond (x12 == (x0.len : Int)) (
ix x1 x2 1 fun x28b x28o =>
ldC x28b x28o fun v_1 => asI .i64 v_1 fun x29 =>
ret (.ret [.bool (decide (x29 < 0))])) (
ix x1 x12 1 fun x33b x33o =>
ldC x33b x33o fun v_2 => asI .i64 v_2 fun x34 =>
ix x1 x2 1 fun x37b x37o =>
ldC x37b x37o fun v_3 => asI .i64 v_3 fun x38 =>
ret (.ret [.bool (x34 == x38)]))))))

/-- countermand/code.Check -/
def f_code_Check (D : HV → List HV → M HV) (args : List HV) : M HV :=
fin (
uL args fun x0 r =>
nl r (
cond (decide ((x0.len : Int) > 48)) (
ret (.ret [I 0, I 3])) (
bnd (f_code_spans D [.sl x0]) fun r_1 =>
asT r_1 fun x15l => uL x15l fun x15t0 r_2 =>
uB r_2 fun x15t1 r_3 =>
nl r_3 (
cond (!x15t1) (
ret (.ret [I 0, I 11])) (
blk 0 (
loopD (fun vs_1 =>
uB vs_1 fun x6 r_4 =>
uI .i64 r_4 fun x7 r_5 =>
uI .i64 r_5 fun x22 r_6 =>
nl r_6 (
cond (decide (x22 < (x0.len : Int))) (
blk 1 (
ix x0 x22 4 fun x25b x25o =>
ldN x25b x25o 4 fun x26l =>
uI .i64 x26l fun x26c0 r_7 =>
uI .i64 r_7 fun x26c1 r_8 =>
uI .i64 r_8 fun x26c2 r_9 =>
uI .i64 r_9 fun x26c3 r_10 =>
nl r_10 (
jn (
bnd (f_code_fields D [.agg [I x26c0, I x26c1, I x26c2, I x26c3]]) fun r_11 =>
asB r_11 fun x28 =>
cond (!x28) (
ret (.norm [.bool true])) (
ix x15t0 x22 1 fun x35b x35o =>
ldC x35b x35o fun v => asI .i64 v fun x36 =>
bnd (f_code_placed D [I x26c0, .bool (decide (x36 ≥ 0))]) fun r_12 =>
asB r_12 fun x38 =>
ret (.norm [.bool (!x38)]))) fun vs_3 =>
uB vs_3 fun x40 r_13 =>
nl r_13 (
cond x40 (
ret (.ret [I x22, I 11])) (
blk 2 (
jn (
cond (x26c0 == 3) (
ret (.norm [.bool (x26c0 == 3)])) (
ret (.norm [.bool (x26c0 == 20)]))) fun vs_5 =>
uB vs_5 fun x44 r_14 =>
nl r_14 (
cond x44 (
bnd (f_code_lands D [.sl x0, .sl x15t0, I x22]) fun r_15 =>
asB r_15 fun x50 =>
cond (!x50) (
ret (.ret [I x22, I 11])) (
ret (.norm [.bool x6, I x7]))) (
cond (x26c0 == 4) (
ret (.norm [.bool false, I 0])) (
ret (.norm [.bool x6, I x7]))))) fun vs_4 =>
uB vs_4 fun x6_1 r_16 =>
uI .i64 r_16 fun x7_1 r_17 =>
nl r_17 (
jn (
cond (x26c0 == 20) (
ret (.norm [I (wr (x7_1 + 1))])) (
ret (.norm [I x7_1]))) fun vs_6 =>
uI .i64 vs_6 fun x7_2 r_18 =>
nl r_18 (
cond (decide (x7_2 > 3)) (
ret (.ret [I x22, I 11])) (
jn (
cond x6_1 (
cond (x26c0 == 14) (
ret (.norm [.bool true])) (
cond (x26c0 == 19) (
ret (.norm [.bool true])) (
cond (x26c0 == 20) (
ret (.norm [.bool true])) (
ret (.norm [.bool (x26c0 == 21)]))))) (
ret (.norm [.bool false]))) fun vs_7 =>
uB vs_7 fun x83 r_19 =>
nl r_19 (
cond x83 (
ret (.ret [I x22, I 11])) (
cond x6_1 (
ret (.norm [.bool true, I x7_2])) (
ret (.norm [.bool (x26c0 == 21), I x7_2]))))))))))) fun vs_2 =>
uB vs_2 fun x6_2 r_20 =>
uI .i64 r_20 fun x7_3 r_21 =>
nl r_21 (
ret (.norm [.bool x6_2, I x7_3, I (wr (x22 + 1))]))) (
ret (.exit 0 [])))) [.bool false, I 0, I 0]) fun vs =>
nl vs (
ret (.ret [I 0, I 0])))))))

/-- countermand/bound.can -/
def f_bound_can (D : HV → List HV → M HV) (args : List HV) : M HV :=
fin (
uL args fun x0 r =>
nl r (
bnd (f_code_Check D [.sl x0]) fun r_1 =>
asT r_1 fun x7l => uI .i64 x7l fun x7t0 r_2 =>
uI .i64 r_2 fun x7t1 r_3 =>
nl r_3 (
ret (.ret [.bool (x7t1 == 0)]))))

/-- countermand/bound.one -/
def f_bound_one (D : HV → List HV → M HV) (args : List HV) : M HV :=
fin (
uA args fun x0l r =>
uI .i64 x0l fun x0c0 r_1 =>
uI .i64 r_1 fun x0c1 r_2 =>
uI .i64 r_2 fun x0c2 r_3 =>
uI .i64 r_3 fun x0c3 r_4 =>
nl r_4 (
uI .i64 r fun x1 r_5 =>
uL r_5 fun x2 r_6 =>
nl r_6 (
jn (
cond (x0c0 == 0) (
ret (.norm [.bool (x0c0 == 0)])) (
cond (x0c0 == 5) (
ret (.norm [.bool (x0c0 == 5)])) (
ret (.norm [.bool (x0c0 == 19)])))) fun vs =>
uB vs fun x9 r_7 =>
nl r_7 (
cond x9 (
ret (.ret [I 1])) (
cond (x0c0 == 20) (
ix x2 (wr (x1 + 1)) 1 fun x18b x18o =>
ldC x18b x18o fun v => asI .i64 v fun x19 =>
ix x2 x0c1 1 fun x24b x24o =>
ldC x24b x24o fun v_1 => asI .i64 v_1 fun x25 =>
ret (.ret [I (wr ((wr (1 + x19)) + x25))])) (
cond (x0c0 == 3) (
cond (x0c3 == 2) (
ix x2 x0c1 1 fun x35b x35o =>
ldC x35b x35o fun v_2 => asI .i64 v_2 fun x36 =>
ret (.ret [I (wr (1 + x36))])) (
ix x2 (wr (x1 + 1)) 1 fun x41b x41o =>
ldC x41b x41o fun v_3 => asI .i64 v_3 fun x42 =>
ix x2 x0c1 1 fun x46b x46o =>
ldC x46b x46o fun v_4 => asI .i64 v_4 fun x47 =>
ret (.ret [I (wr (1 + (bif decide (x47 > x42) then x47 else x42)))]))) (
ix x2 (wr (x1 + 1)) 1 fun x53b x53o =>
ldC x53b x53o fun v_5 => asI .i64 v_5 fun x54 =>
ret (.ret [I (wr (1 + x54))]))))))))

/-- countermand/bound.Most -/
def f_bound_Most (D : HV → List HV → M HV) (args : List HV) : M HV :=
fin (
uL args fun x0 r =>
nl r (
bnd (f_bound_can D [.sl x0]) fun r_1 =>
asB r_1 fun x6 =>
cond (!x6) (
ret (.ret [.sl (⟨none, 0, 0, none⟩)])) (
gd (decide (0 ≤ wr ((x0.len : Int) + 1))) (gd (decide (wr ((x0.len : Int) + 1) ≤ wr ((x0.len : Int) + 1))) (gd (decide ((wr ((x0.len : Int) + 1)).toNat * 8 ≤ room)) (
nw (repL (wr ((x0.len : Int) + 1)).toNat [I 0]) fun b11 =>
blk 0 (
loopD (fun vs_1 =>
uI .i64 vs_1 fun x4 r_2 =>
nl r_2 (
cond (decide (x4 ≥ 0)) (
ix x0 x4 4 fun x23b x23o =>
ldN x23b x23o 4 fun x24l =>
uI .i64 x24l fun x24c0 r_3 =>
uI .i64 r_3 fun x24c1 r_4 =>
uI .i64 r_4 fun x24c2 r_5 =>
uI .i64 r_5 fun x24c3 r_6 =>
nl r_6 (
bnd (f_bound_one D [.agg [I x24c0, I x24c1, I x24c2, I x24c3], I x4, .sl (⟨some (b11, 0), (wr ((x0.len : Int) + 1)).toNat, (wr ((x0.len : Int) + 1)).toNat, none⟩)]) fun r_7 =>
asI .i64 r_7 fun x27 =>
ix (⟨some (b11, 0), (wr ((x0.len : Int) + 1)).toNat, (wr ((x0.len : Int) + 1)).toNat, none⟩) x4 1 fun x28b x28o =>
stC x28b x28o (I x27) (
ret (.norm [I (wr (x4 - 1))])))) (
ret (.exit 0 [])))) [I (wr ((x0.len : Int) - 1))]) fun vs =>
nl vs (
ret (.ret [.sl (⟨some (b11, 0), (wr ((x0.len : Int) + 1)).toNat, (wr ((x0.len : Int) + 1)).toNat, none⟩)]))))))))

/-- countermand/countermandlaw27.alive -/
def f_law27_alive (D : HV → List HV → M HV) (args : List HV) : M HV :=
fin (
nl args (
nw [I 4, I 0, I 0, I 0, I 20, I 3, I 0, I 0, I 19, I 0, I 0, I 0, I 5, I 0, I 0, I 0] fun b6 =>
bnd (f_bound_Most D [.sl (⟨some (b6, 0), 4, 4, none⟩)]) fun r =>
asSl r fun x7 =>
jn (
cond ((x7.len : Int) == 5) (
ix x7 0 1 fun x13b x13o =>
ldC x13b x13o fun v => asI .i64 v fun x14 =>
cond (x14 == 4) (
ix x7 1 1 fun x19b x19o =>
ldC x19b x19o fun v_1 => asI .i64 v_1 fun x20 =>
cond (x20 == 3) (
ix x7 2 1 fun x25b x25o =>
ldC x25b x25o fun v_2 => asI .i64 v_2 fun x26 =>
cond (x26 == 1) (
ix x7 3 1 fun x31b x31o =>
ldC x31b x31o fun v_3 => asI .i64 v_3 fun x32 =>
cond (x32 == 1) (
ix x7 4 1 fun x37b x37o =>
ldC x37b x37o fun v_4 => asI .i64 v_4 fun x38 =>
ret (.norm [.bool (x38 == 0)])) (
ret (.norm [.bool false]))) (
ret (.norm [.bool false]))) (
ret (.norm [.bool false]))) (
ret (.norm [.bool false]))) (
ret (.norm [.bool false]))) fun vs =>
uB vs fun x0 r_1 =>
nl r_1 (
ret (.ret [.bool x0]))))

/-- countermand/countermandref07.Shaped -/
def f_ref07_Shaped (D : HV → List HV → M HV) (args : List HV) : M HV :=
fin (
uL args fun x0 r =>
nl r (
blk 0 (
loopD (fun vs_1 =>
uI .i64 vs_1 fun x3 r_1 =>
uI .i64 r_1 fun x8 r_2 =>
nl r_2 (
cond (decide (x8 < (x0.len : Int))) (
ix x0 x8 4 fun x10b x10o =>
ldN x10b x10o 4 fun x11l =>
uI .i64 x11l fun x11c0 r_3 =>
uI .i64 r_3 fun x11c1 r_4 =>
uI .i64 r_4 fun x11c2 r_5 =>
uI .i64 r_5 fun x11c3 r_6 =>
nl r_6 (
jn (
cond (x11c0 == 4) (
ret (.norm [I (wr (x3 + 1))])) (
ret (.norm [I x3]))) fun vs_2 =>
uI .i64 vs_2 fun x3_1 r_7 =>
nl r_7 (
jn (
cond (x11c0 == 5) (
ret (.norm [I (wr (x3_1 - 1))])) (
ret (.norm [I x3_1]))) fun vs_3 =>
uI .i64 vs_3 fun x3_2 r_8 =>
nl r_8 (
jn (
cond (decide (x3_2 < 0)) (
ret (.norm [.bool true])) (
ret (.norm [.bool (decide (x3_2 > 1))]))) fun vs_4 =>
uB vs_4 fun x27 r_9 =>
nl r_9 (
cond x27 (
ret (.ret [.bool false])) (
ret (.norm [I x3_2, I (wr (x8 + 1))]))))))) (
ret (.exit 0 [I x3])))) [I 0, I 0]) fun vs =>
uI .i64 vs fun x3_3 r_10 =>
nl r_10 (
ret (.ret [.bool (x3_3 == 0)]))))

/-- countermand/countermandref07.Block -/
def f_ref07_Block (D : HV → List HV → M HV) (args : List HV) : M HV :=
fin (
uL args fun x0 r =>
uI .i64 r fun x1 r_1 =>
nl r_1 (
ix x0 x1 4 fun x8b x8o =>
ldC x8b x8o fun v => asI .i64 v fun x10 =>
cond (x10 == 4) (
ret (.ret [I (-1)])) (
blk 0 (
loopD (fun vs_1 =>
uI .i64 vs_1 fun x5 r_2 =>
nl r_2 (
cond (decide (x5 ≥ 0)) (
ix x0 x5 4 fun x20b x20o =>
ldC x20b x20o fun v_1 => asI .i64 v_1 fun x22 =>
cond (x22 == 5) (
ret (.ret [I (-1)])) (
ix x0 x5 4 fun x26b x26o =>
ldC x26b x26o fun v_2 => asI .i64 v_2 fun x28 =>
cond (x28 == 4) (
ret (.ret [I x5])) (
ret (.norm [I (wr (x5 - 1))])))) (
ret (.exit 0 [])))) [I (wr (x1 - 1))]) fun vs =>
nl vs (
ret (.ret [I (-1)])))))

/-- countermand/countermandref07.limits -/
def f_ref07_limits (D : HV → List HV → M HV) (args : List HV) : M HV :=
fin (
uI .i64 args fun x0 r =>
nl r (
jn (
cond (x0 == 0) (
ret (.norm [.bool (x0 == 0)])) (
cond (x0 == 4) (
ret (.norm [.bool (x0 == 4)])) (
cond (x0 == 5) (
ret (.norm [.bool (x0 == 5)])) (
cond (x0 == 19) (
ret (.norm [.bool (x0 == 19)])) (
ret (.norm [.bool (x0 == 21)])))))) fun vs =>
uB vs fun x17 r_1 =>
nl r_1 (
cond x17 (
ret (.ret [.agg [I 0, I 0, I 0, I 0, I 0, I 0], .bool true])) (
cond (x0 == 1) (
ret (.ret [.agg [I 0, I 3, I (-9223372036854775808), I 9223372036854775807, I 0, I 0], .bool true])) (
cond (x0 == 2) (
ret (.ret [.agg [I 0, I 3, I 0, I 3, I 0, I 0], .bool true])) (
cond (x0 == 3) (
ret (.ret [.agg [I (-9223372036854775808), I 9223372036854775807, I 0, I 3, I 0, I 2], .bool true])) (
cond (x0 == 6) (
ret (.ret [.agg [I 0, I 3, I 0, I 7, I 0, I 0], .bool true])) (
cond (x0 == 7) (
ret (.ret [.agg [I 0, I 7, I 0, I 3, I 0, I 0], .bool true])) (
cond (x0 == 8) (
ret (.ret [.agg [I 0, I 3, I 0, I 5, I 0, I 31], .bool true])) (
cond (x0 == 9) (
ret (.ret [.agg [I 0, I 5, I 0, I 31, I 0, I 3], .bool true])) (
jn (
cond (x0 == 10) (
ret (.norm [.bool (x0 == 10)])) (
ret (.norm [.bool (x0 == 11)]))) fun vs_1 =>
uB vs_1 fun x62 r_2 =>
nl r_2 (
cond x62 (
ret (.ret [.agg [I 0, I 5, I 0, I 0, I 0, I 0], .bool true])) (
cond (x0 == 12) (
ret (.ret [.agg [I 0, I 5, I 0, I 5, I 0, I 0], .bool true])) (
cond (x0 == 13) (
ret (.ret [.agg [I 0, I 5, I 0, I 32, I 0, I 0], .bool true])) (
cond (x0 == 14) (
ret (.ret [.agg [I 0, I 3, I 0, I 2, I 0, I 0], .bool true])) (
cond (x0 == 15) (
ret (.ret [.agg [I 0, I 2, I 0, I 3, I 0, I 0], .bool true])) (
cond (x0 == 16) (
ret (.ret [.agg [I 0, I 2, I 0, I 255, I 0, I 0], .bool true])) (
cond (x0 == 17) (
ret (.ret [.agg [I 0, I 255, I 0, I 0, I 0, I 0], .bool true])) (
cond (x0 == 18) (
ret (.ret [.agg [I 0, I 3, I (-100), I 100, I 0, I 0], .bool true])) (
cond (x0 == 20) (
ret (.ret [.agg [I (-9223372036854775808), I 9223372036854775807, I 0, I 0, I 0, I 0], .bool true])) (
ret (.ret [.agg [I 0, I 0, I 0, I 0, I 0, I 0], .bool false]))))))))))))))))))))))

/-- countermand/countermandref07.One -/
def f_ref07_One (D : HV → List HV → M HV) (args : List HV) : M HV :=
fin (
uL args fun x0 r =>
uI .i64 r fun x1 r_1 =>
nl r_1 (
ix x0 x1 4 fun x13b x13o =>
ldN x13b x13o 4 fun x14l =>
uI .i64 x14l fun x14c0 r_2 =>
uI .i64 r_2 fun x14c1 r_3 =>
uI .i64 r_3 fun x14c2 r_4 =>
uI .i64 r_4 fun x14c3 r_5 =>
nl r_5 (
bnd (f_ref07_limits D [I x14c0]) fun r_6 =>
asT r_6 fun x18l => uA x18l fun x18t0l r_7 =>
uI .i64 x18t0l fun x18t0c0 r_8 =>
uI .i64 r_8 fun x18t0c1 r_9 =>
uI .i64 r_9 fun x18t0c2 r_10 =>
uI .i64 r_10 fun x18t0c3 r_11 =>
uI .i64 r_11 fun x18t0c4 r_12 =>
uI .i64 r_12 fun x18t0c5 r_13 =>
nl r_13 (
uB r_7 fun x18t1 r_14 =>
nl r_14 (
jn (
cond (!x18t1) (
ret (.norm [.bool true])) (
cond (decide (x14c1 < x18t0c0)) (
ret (.norm [.bool true])) (
cond (decide (x14c1 > x18t0c1)) (
ret (.norm [.bool true])) (
cond (decide (x14c2 < x18t0c2)) (
ret (.norm [.bool true])) (
cond (decide (x14c2 > x18t0c3)) (
ret (.norm [.bool true])) (
cond (decide (x14c3 < x18t0c4)) (
ret (.norm [.bool true])) (
cond (decide (x14c3 > x18t0c5)) (
ret (.norm [.bool true])) (
cond (x14c0 == 12) (
ret (.norm [.bool (x14c1 == x14c2)])) (
ret (.norm [.bool false])))))))))) fun vs =>
uB vs fun x82 r_15 =>
nl r_15 (
cond x82 (
ret (.ret [.bool false])) (
bnd (f_ref07_Block D [.sl x0, I x1]) fun r_16 =>
asI .i64 r_16 fun x85 =>
jn (
cond (x14c0 == 0) (
cond (decide (x85 ≥ 0)) (
ret (.norm [.bool true])) (
cond (decide (x14c0 > 4)) (
ret (.norm [.bool (decide (x85 < 0))])) (
ret (.norm [.bool false])))) (
cond (x14c0 == 4) (
cond (decide (x85 ≥ 0)) (
ret (.norm [.bool true])) (
cond (decide (x14c0 > 4)) (
ret (.norm [.bool (decide (x85 < 0))])) (
ret (.norm [.bool false])))) (
cond (decide (x14c0 > 4)) (
ret (.norm [.bool (decide (x85 < 0))])) (
ret (.norm [.bool false]))))) fun vs_1 =>
uB vs_1 fun x106 r_17 =>
nl r_17 (
cond x106 (
ret (.ret [.bool false])) (
jn (
cond (x14c0 == 3) (
ret (.norm [.bool true])) (
ret (.norm [.bool (x14c0 == 20)]))) fun vs_2 =>
uB vs_2 fun x114 r_18 =>
nl r_18 (
jn (
cond x114 (
jn (
cond (decide (x14c1 ≤ x1)) (
ret (.norm [.bool true])) (
cond (decide (x14c1 > (x0.len : Int))) (
ret (.norm [.bool true])) (
cond (x14c1 == (x0.len : Int)) (
cond (decide (x85 ≥ 0)) (
ret (.norm [.bool true])) (
cond (decide (x14c1 < (x0.len : Int))) (
bnd (f_ref07_Block D [.sl x0, I x14c1]) fun r_19 =>
asI .i64 r_19 fun x147 =>
ret (.norm [.bool (x147 != x85)])) (
ret (.norm [.bool false])))) (
cond (decide (x14c1 < (x0.len : Int))) (
bnd (f_ref07_Block D [.sl x0, I x14c1]) fun r_20 =>
asI .i64 r_20 fun x147_1 =>
ret (.norm [.bool (x147_1 != x85)])) (
ret (.norm [.bool false])))))) fun vs_4 =>
uB vs_4 fun x151 r_21 =>
nl r_21 (
cond x151 (
ret (.ret [.bool false])) (
ret (.norm [])))) (
ret (.norm []))) fun vs_3 =>
nl vs_3 (
blk 0 (
loopD (fun vs_6 =>
uI .i64 vs_6 fun x9 r_22 =>
uI .i64 r_22 fun x10 r_23 =>
nl r_23 (
cond (decide (x10 < x1)) (
blk 1 (
jn (
ix x0 x10 4 fun x161b x161o =>
ldC x161b x161o fun v => asI .i64 v fun x163 =>
cond (x163 == 21) (
cond (x14c0 == 14) (
ret (.norm [.bool true])) (
cond (x14c0 == 19) (
ret (.norm [.bool true])) (
cond (x14c0 == 20) (
ret (.norm [.bool true])) (
ret (.norm [.bool (x14c0 == 21)]))))) (
ret (.norm [.bool false]))) fun vs_8 =>
uB vs_8 fun x184 r_24 =>
nl r_24 (
cond x184 (
ret (.ret [.bool false])) (
ix x0 x10 4 fun x187b x187o =>
ldC x187b x187o fun v_1 => asI .i64 v_1 fun x189 =>
cond (x189 == 20) (
ret (.norm [I (wr (x9 + 1))])) (
ret (.norm [I x9]))))) fun vs_7 =>
uI .i64 vs_7 fun x9_1 r_25 =>
nl r_25 (
ret (.norm [I x9_1, I (wr (x10 + 1))]))) (
ret (.exit 0 [I x9])))) [I 0, I (wr (x85 + 1))]) fun vs_5 =>
uI .i64 vs_5 fun x9_2 r_26 =>
nl r_26 (
jn (
cond (x14c0 != 20) (
ret (.norm [.bool true])) (
ret (.norm [.bool (decide (x9_2 < 3))]))) fun vs_9 =>
uB vs_9 fun x4 r_27 =>
nl r_27 (
ret (.ret [.bool x4]))))))))))))))

/-- countermand/countermandref07.Check -/
def f_ref07_Check (D : HV → List HV → M HV) (args : List HV) : M HV :=
fin (
uL args fun x0 r =>
nl r (
cond (decide ((x0.len : Int) > 48)) (
ret (.ret [I 0, I 3])) (
bnd (f_ref07_Shaped D [.sl x0]) fun r_1 =>
asB r_1 fun x9 =>
cond (!x9) (
ret (.ret [I 0, I 11])) (
blk 0 (
loopD (fun vs_1 =>
uI .i64 vs_1 fun x13 r_2 =>
nl r_2 (
cond (decide (x13 < (x0.len : Int))) (
bnd (f_ref07_One D [.sl x0, I x13]) fun r_3 =>
asB r_3 fun x18 =>
cond (!x18) (
ret (.ret [I x13, I 11])) (
ret (.norm [I (wr (x13 + 1))]))) (
ret (.exit 0 [])))) [I 0]) fun vs =>
nl vs (
ret (.ret [I 0, I 0]))))))

/-- countermand/countermandref27.Can -/
def f_ref27_Can (D : HV → List HV → M HV) (args : List HV) : M HV :=
fin (
uL args fun x0 r =>
nl r (
bnd (f_ref07_Check D [.sl x0]) fun r_1 =>
asT r_1 fun x7l => uI .i64 x7l fun x7t0 r_2 =>
uI .i64 r_2 fun x7t1 r_3 =>
nl r_3 (
ret (.ret [.bool (x7t1 == 0)]))))

/-- countermand/countermandlaw27.BoundBlocks -/
def f_law27_BoundBlocks (D : HV → List HV → M HV) (args : List HV) : M HV :=
fin (
uL args fun x0 r =>
uI .i64 r fun x1 r_1 =>
nl r_1 (
bnd (f_law27_alive D []) fun r_2 =>
asB r_2 fun x11 =>
cond (!x11) (
ret (.ret [.bool false])) (
jn (
bnd (f_ref27_Can D [.sl x0]) fun r_3 =>
asB r_3 fun x14 =>
cond (!x14) (
ret (.norm [.bool true])) (
cond (decide (x1 < 0)) (
ret (.norm [.bool true])) (
cond (decide (x1 ≥ (x0.len : Int))) (
ret (.norm [.bool true])) (
ix x0 x1 4 fun x29b x29o =>
ldC x29b x29o fun v => asI .i64 v fun x31 =>
ret (.norm [.bool (x31 != 4)]))))) fun vs =>
uB vs fun x33 r_4 =>
nl r_4 (
cond x33 (
ret (.ret [.bool true])) (
gd (decide (0 ≤ x1)) (gd (decide (x1 ≤ (x0.len : Int))) (gd (decide ((x0.len : Int) ≤ (x0.cap : Int))) (gd (decide ((x0.cap : Int) ≤ (x0.cap : Int))) (gd (slOk x0.opn 4 (decide (x1 < (x0.cap : Int)))) (
blk 0 (
loopD (fun vs_2 =>
uL vs_2 fun x5 r_5 =>
uI .i64 r_5 fun x38 r_6 =>
nl r_6 (
cond (decide (x38 < (((x0.len : Int) - x1 : Int).toNat : Int))) (
ix (⟨bif decide ((x0.cap : Int) = x1) then x0.p else x0.p.map (fun q => (q.1, q.2 + x1.toNat * 4)), ((x0.len : Int) - x1 : Int).toNat, ((x0.cap : Int) - x1 : Int).toNat, x0.opn⟩) x38 4 fun x40b x40o =>
ldN x40b x40o 4 fun x41l =>
uI .i64 x41l fun x41c0 r_7 =>
uI .i64 r_7 fun x41c1 r_8 =>
uI .i64 r_8 fun x41c2 r_9 =>
uI .i64 r_9 fun x41c3 r_10 =>
nl r_10 (
jn (
cond (x41c0 == 3) (
ret (.norm [.bool true])) (
ret (.norm [.bool (x41c0 == 20)]))) fun vs_3 =>
uB vs_3 fun x49 r_11 =>
nl r_11 (
jn (
cond x49 (
ret (.norm [.agg [I x41c0, I (wr (x41c1 - x1)), I x41c2, I x41c3]])) (
ret (.norm [.agg [I x41c0, I x41c1, I x41c2, I x41c3]]))) fun vs_4 =>
uA vs_4 fun y7 r_12 =>
uI .i64 y7 fun y7c0 r_13 =>
uI .i64 r_13 fun y7c1 r_14 =>
uI .i64 r_14 fun y7c2 r_15 =>
uI .i64 r_15 fun y7c3 r_16 =>
nl r_16 (
nl r_12 (
apd x5 4 32 1 [I y7c0, I y7c1, I y7c2, I y7c3] fun x58 =>
cond (y7c0 == 5) (
ret (.exit 0 [.sl x58])) (
ret (.norm [.sl x58, I (wr (x38 + 1))]))))))) (
ret (.exit 0 [.sl x5])))) [.sl (⟨none, 0, 0, none⟩), I 0]) fun vs_1 =>
uL vs_1 fun x5_1 r_17 =>
nl r_17 (
bnd (f_bound_Most D [.sl x0]) fun r_18 =>
asSl r_18 fun x64 =>
bnd (f_bound_Most D [.sl x5_1]) fun r_19 =>
asSl r_19 fun x66 =>
jn (
bnd (f_ref27_Can D [.sl x5_1]) fun r_20 =>
asB r_20 fun x68 =>
cond (!x68) (
ret (.norm [.bool true])) (
cond ((x64.len : Int) != (wr ((x0.len : Int) + 1))) (
ret (.norm [.bool true])) (
cond ((x66.len : Int) != (wr ((x5_1.len : Int) + 1))) (
ret (.norm [.bool true])) (
bnd (f_ref07_Block D [.sl x0, I x1]) fun r_21 =>
asI .i64 r_21 fun x89 =>
ret (.norm [.bool (x89 != (-1))]))))) fun vs_5 =>
uB vs_5 fun x91 r_22 =>
nl r_22 (
cond x91 (
ret (.ret [.bool false])) (
blk 2 (
loopD (fun vs_7 =>
uI .i64 vs_7 fun x94 r_23 =>
nl r_23 (
cond (decide (x94 < (x5_1.len : Int))) (
ix x64 (wr (x1 + x94)) 1 fun x101b x101o =>
ldC x101b x101o fun v_1 => asI .i64 v_1 fun x102 =>
ix x66 x94 1 fun x105b x105o =>
ldC x105b x105o fun v_2 => asI .i64 v_2 fun x106 =>
cond (x102 != x106) (
ret (.ret [.bool false])) (
ret (.norm [I (wr (x94 + 1))]))) (
ret (.exit 2 [])))) [I 0]) fun vs_6 =>
nl vs_6 (
ret (.ret [.bool true])))))))))))))))

/-- countermand/bound.next -/
def f_bound_next (D : HV → List HV → M HV) (args : List HV) : M HV :=
fin (
uL args fun x0 r =>
uI .i64 r fun x1 r_1 =>
nl r_1 (
ix x0 x1 4 fun x8b x8o =>
ldN x8b x8o 4 fun x9l =>
uI .i64 x9l fun x9c0 r_2 =>
uI .i64 r_2 fun x9c1 r_3 =>
uI .i64 r_3 fun x9c2 r_4 =>
uI .i64 r_4 fun x9c3 r_5 =>
nl r_5 (
jn (
cond (x9c0 == 0) (
ret (.norm [.bool true])) (
ret (.norm [.bool (x9c0 == 19)]))) fun vs =>
uB vs fun x10 r_6 =>
nl r_6 (
cond x10 (
ret (.ret [.sl (⟨none, 0, 0, none⟩)])) (
jn (
cond (x9c0 == 3) (
ret (.norm [.bool (x9c3 == 2)])) (
ret (.norm [.bool false]))) fun vs_1 =>
uB vs_1 fun x19 r_7 =>
nl r_7 (
cond x19 (
nw [I x9c1] fun b30 =>
ret (.ret [.sl (⟨some (b30, 0), 1, 1, none⟩)])) (
jn (
cond (x9c0 == 3) (
ret (.norm [.bool (decide (x9c1 > (wr (x1 + 1))))])) (
cond (x9c0 == 20) (
ret (.norm [.bool (decide (x9c1 > (wr (x1 + 1))))])) (
ret (.norm [.bool false])))) fun vs_2 =>
uB vs_2 fun x31 r_8 =>
nl r_8 (
cond x31 (
nw [I (wr (x1 + 1)), I x9c1] fun b51 =>
ret (.ret [.sl (⟨some (b51, 0), 2, 2, none⟩)])) (
nw [I (wr (x1 + 1))] fun b54 =>
ret (.ret [.sl (⟨some (b54, 0), 1, 1, none⟩)]))))))))))

/-- countermand/bound.Next -/
def f_bound_Next (D : HV → List HV → M HV) (args : List HV) : M HV :=
fin (
uL args fun x0 r =>
uI .i64 r fun x1 r_1 =>
nl r_1 (
jn (
bnd (f_bound_can D [.sl x0]) fun r_2 =>
asB r_2 fun x6 =>
cond (!x6) (
ret (.norm [.bool true])) (
cond (decide (x1 < 0)) (
ret (.norm [.bool true])) (
ret (.norm [.bool (decide (x1 ≥ (x0.len : Int)))])))) fun vs =>
uB vs fun x17 r_3 =>
nl r_3 (
cond x17 (
ret (.ret [.sl (⟨none, 0, 0, none⟩)])) (
bnd (f_bound_next D [.sl x0, I x1]) fun r_4 =>
asSl r_4 fun x20 =>
ret (.ret [.sl x20])))))

/-- countermand/countermandref27.Leads -/
def f_ref27_Leads (D : HV → List HV → M HV) (args : List HV) : M HV :=
fin (
uL args fun x0 r =>
uI .i64 r fun x1 r_1 =>
uI .i64 r_1 fun x2 r_2 =>
nl r_2 (
ix x0 x1 4 fun x10b x10o =>
ldN x10b x10o 4 fun x11l =>
uI .i64 x11l fun x11c0 r_3 =>
uI .i64 r_3 fun x11c1 r_4 =>
uI .i64 r_4 fun x11c2 r_5 =>
uI .i64 r_5 fun x11c3 r_6 =>
nl r_6 (
jn (
cond (x11c0 == 0) (
ret (.norm [.bool (x11c0 == 0)])) (
ret (.norm [.bool (x11c0 == 19)]))) fun vs =>
uB vs fun x14 r_7 =>
nl r_7 (
cond x14 (
ret (.ret [.bool false])) (
cond (x11c0 == 3) (
jn (
cond (x2 == x11c1) (
ret (.norm [.bool true])) (
cond (decide (x11c3 < 2)) (
ret (.norm [.bool (x2 == (wr (x1 + 1)))])) (
ret (.norm [.bool false])))) fun vs_1 =>
uB vs_1 fun x6 r_8 =>
nl r_8 (
ret (.ret [.bool x6]))) (
cond (x11c0 == 20) (
jn (
cond (x2 == x11c1) (
ret (.norm [.bool true])) (
ret (.norm [.bool (x2 == (wr (x1 + 1)))]))) fun vs_2 =>
uB vs_2 fun x6_1 r_9 =>
nl r_9 (
ret (.ret [.bool x6_1]))) (
ret (.ret [.bool (x2 == (wr (x1 + 1)))]))))))))

/-- countermand/bound.Total -/
def f_bound_Total (D : HV → List HV → M HV) (args : List HV) : M HV :=
fin (
uL args fun x0 r =>
nl r (
bnd (f_bound_can D [.sl x0]) fun r_1 =>
asB r_1 fun x9 =>
cond (!x9) (
ret (.ret [I 0])) (
bnd (f_bound_Most D [.sl x0]) fun r_2 =>
asSl r_2 fun x12 =>
blk 0 (
loopD (fun vs_1 =>
uI .i64 vs_1 fun x4 r_3 =>
uB r_3 fun x5 r_4 =>
uI .i64 r_4 fun x15 r_5 =>
nl r_5 (
cond (decide (x15 < (x0.len : Int))) (
blk 1 (
ix x0 x15 4 fun x18b x18o =>
ldN x18b x18o 4 fun x19l =>
uI .i64 x19l fun x19c0 r_6 =>
uI .i64 r_6 fun x19c1 r_7 =>
uI .i64 r_7 fun x19c2 r_8 =>
uI .i64 r_8 fun x19c3 r_9 =>
nl r_9 (
cond (x19c0 == 4) (
ix x12 x15 1 fun x27b x27o =>
ldC x27b x27o fun v => asI .i64 v fun x28 =>
ret (.norm [I (wr (x4 + (wr (x28 + 3)))), .bool true])) (
cond (x19c0 == 5) (
ret (.norm [I x4, .bool false])) (
cond (!x5) (
ret (.norm [I (wr (x4 + 1)), .bool x5])) (
ret (.norm [I x4, .bool x5])))))) fun vs_2 =>
uI .i64 vs_2 fun x4_1 r_10 =>
uB r_10 fun x5_1 r_11 =>
nl r_11 (
ret (.norm [I x4_1, .bool x5_1, I (wr (x15 + 1))]))) (
ret (.exit 0 [I x4])))) [I 1, .bool false, I 0]) fun vs =>
uI .i64 vs fun x4_2 r_12 =>
nl r_12 (
ret (.ret [I x4_2])))))

/-- countermand/countermandref27.Most -/
def f_ref27_Most (D : HV → List HV → M HV) (args : List HV) : M HV :=
fin (
uL args fun x0 r =>
nl r (
blk 0 (
loopD (fun vs_1 =>
uI .i64 vs_1 fun x10 r_1 =>
uA r_1 fun y3 r_2 =>
nl r_2 (
cond (decide (x10 < (wr ((x0.len : Int) + 1)))) (
blk 2 (
loopD (fun vs_3 =>
uI .i64 vs_3 fun x14 r_3 =>
uA r_3 fun y3_1 r_4 =>
nl r_4 (
cond (decide (x14 < (x0.len : Int))) (
blk 3 (
ix x0 x14 4 fun x17b x17o =>
ldN x17b x17o 4 fun x18l =>
uI .i64 x18l fun x18c0 r_5 =>
uI .i64 r_5 fun x18c1 r_6 =>
uI .i64 r_6 fun x18c2 r_7 =>
uI .i64 r_7 fun x18c3 r_8 =>
nl r_8 (
jn (
cond (x18c0 == 0) (
ret (.norm [.bool (x18c0 == 0)])) (
cond (x18c0 == 5) (
ret (.norm [.bool (x18c0 == 5)])) (
ret (.norm [.bool (x18c0 == 19)])))) fun vs_5 =>
uB vs_5 fun x28 r_9 =>
nl r_9 (
cond x28 (
gd (decide (0 ≤ x14)) (gd (decide (x14 < (49 : Int))) (
gd (decide (0 + x14.toNat * 1 < y3_1.length)) (
ret (.norm [.agg (List.set y3_1 (0 + x14.toNat * 1) (I 1))]))))) (
cond (x18c0 == 3) (
gd (decide (0 ≤ x18c1)) (gd (decide (x18c1 < (49 : Int))) (
gx y3_1 (0 + x18c1.toNat * 1) fun v => asI .i64 v fun x39 =>
jn (
cond (decide (x18c3 < 2)) (
gd (decide (0 ≤ wr (x14 + 1))) (gd (decide (wr (x14 + 1) < (49 : Int))) (
gx y3_1 (0 + (wr (x14 + 1)).toNat * 1) fun v_1 => asI .i64 v_1 fun x47 =>
ret (.norm [.bool (decide (x47 > x39))])))) (
ret (.norm [.bool false]))) fun vs_6 =>
uB vs_6 fun x50 r_10 =>
nl r_10 (
jn (
cond x50 (
gd (decide (0 ≤ wr (x14 + 1))) (gd (decide (wr (x14 + 1) < (49 : Int))) (
gx y3_1 (0 + (wr (x14 + 1)).toNat * 1) fun v_2 => asI .i64 v_2 fun x54 =>
ret (.norm [I x54])))) (
ret (.norm [I x39]))) fun vs_7 =>
uI .i64 vs_7 fun x6 r_11 =>
nl r_11 (
gd (decide (0 ≤ x14)) (gd (decide (x14 < (49 : Int))) (
gd (decide (0 + x14.toNat * 1 < y3_1.length)) (
ret (.norm [.agg (List.set y3_1 (0 + x14.toNat * 1) (I (wr (x6 + 1))))]))))))))) (
cond (x18c0 == 20) (
gd (decide (0 ≤ wr (x14 + 1))) (gd (decide (wr (x14 + 1) < (49 : Int))) (
gx y3_1 (0 + (wr (x14 + 1)).toNat * 1) fun v_3 => asI .i64 v_3 fun x65 =>
gd (decide (0 ≤ x18c1)) (gd (decide (x18c1 < (49 : Int))) (
gx y3_1 (0 + x18c1.toNat * 1) fun v_4 => asI .i64 v_4 fun x69 =>
gd (decide (0 ≤ x14)) (gd (decide (x14 < (49 : Int))) (
gd (decide (0 + x14.toNat * 1 < y3_1.length)) (
ret (.norm [.agg (List.set y3_1 (0 + x14.toNat * 1) (I (wr ((wr (x65 + x69)) + 1))))]))))))))) (
gd (decide (0 ≤ wr (x14 + 1))) (gd (decide (wr (x14 + 1) < (49 : Int))) (
gx y3_1 (0 + (wr (x14 + 1)).toNat * 1) fun v_5 => asI .i64 v_5 fun x25 =>
gd (decide (0 ≤ x14)) (gd (decide (x14 < (49 : Int))) (
gd (decide (0 + x14.toNat * 1 < y3_1.length)) (
ret (.norm [.agg (List.set y3_1 (0 + x14.toNat * 1) (I (wr (x25 + 1))))])))))))))))) fun vs_4 =>
uA vs_4 fun y3_2 r_12 =>
nl r_12 (
ret (.norm [I (wr (x14 + 1)), .agg y3_2]))) (
ret (.exit 2 [.agg y3_1])))) [I 0, .agg y3]) fun vs_2 =>
uA vs_2 fun y3_3 r_13 =>
nl r_13 (
ret (.norm [I (wr (x10 + 1)), .agg y3_3]))) (
ret (.exit 0 [.agg y3])))) [I 0, .agg [I 0, I 0, I 0, I 0, I 0, I 0, I 0, I 0, I 0, I 0, I 0, I 0, I 0, I 0, I 0, I 0, I 0, I 0, I 0, I 0, I 0, I 0, I 0, I 0, I 0, I 0, I 0, I 0, I 0, I 0, I 0, I 0, I 0, I 0, I 0, I 0, I 0, I 0, I 0, I 0, I 0, I 0, I 0, I 0, I 0, I 0, I 0, I 0, I 0]]) fun vs =>
uA vs fun y3_4 r_14 =>
nl r_14 (
gxN y3_4 0 49 fun x75l =>
gd (Nat.beq x75l.length 49) (
gd (Nat.ble (0 + x75l.length) (([I 0, I 0, I 0, I 0, I 0, I 0, I 0, I 0, I 0, I 0, I 0, I 0, I 0, I 0, I 0, I 0, I 0, I 0, I 0, I 0, I 0, I 0, I 0, I 0, I 0, I 0, I 0, I 0, I 0, I 0, I 0, I 0, I 0, I 0, I 0, I 0, I 0, I 0, I 0, I 0, I 0, I 0, I 0, I 0, I 0, I 0, I 0, I 0, I 0]) : List HV).length) (
gxN (putN [I 0, I 0, I 0, I 0, I 0, I 0, I 0, I 0, I 0, I 0, I 0, I 0, I 0, I 0, I 0, I 0, I 0, I 0, I 0, I 0, I 0, I 0, I 0, I 0, I 0, I 0, I 0, I 0, I 0, I 0, I 0, I 0, I 0, I 0, I 0, I 0, I 0, I 0, I 0, I 0, I 0, I 0, I 0, I 0, I 0, I 0, I 0, I 0, I 0] 0 x75l) 0 49 fun z0l =>
ret (.ret [.agg z0l]))))))

/-- countermand/countermandref27.Total -/
def f_ref27_Total (D : HV → List HV → M HV) (args : List HV) : M HV :=
fin (
uL args fun x0 r =>
nl r (
bnd (f_ref27_Most D [.sl x0]) fun r_1 =>
asA r_1 fun x8l =>
gd (Nat.beq x8l.length 49) (
gd (Nat.ble (0 + x8l.length) (([I 0, I 0, I 0, I 0, I 0, I 0, I 0, I 0, I 0, I 0, I 0, I 0, I 0, I 0, I 0, I 0, I 0, I 0, I 0, I 0, I 0, I 0, I 0, I 0, I 0, I 0, I 0, I 0, I 0, I 0, I 0, I 0, I 0, I 0, I 0, I 0, I 0, I 0, I 0, I 0, I 0, I 0, I 0, I 0, I 0, I 0, I 0, I 0, I 0]) : List HV).length) (
blk 0 (
loopD (fun vs_1 =>
uI .i64 vs_1 fun x4 r_2 =>
uI .i64 r_2 fun x11 r_3 =>
nl r_3 (
cond (decide (x11 < (x0.len : Int))) (
blk 1 (
ix x0 x11 4 fun x14b x14o =>
ldN x14b x14o 4 fun x15l =>
uI .i64 x15l fun x15c0 r_4 =>
uI .i64 r_4 fun x15c1 r_5 =>
uI .i64 r_5 fun x15c2 r_6 =>
uI .i64 r_6 fun x15c3 r_7 =>
nl r_7 (
cond (x15c0 == 4) (
gd (decide (0 ≤ x11)) (gd (decide (x11 < (49 : Int))) (
gx (putN [I 0, I 0, I 0, I 0, I 0, I 0, I 0, I 0, I 0, I 0, I 0, I 0, I 0, I 0, I 0, I 0, I 0, I 0, I 0, I 0, I 0, I 0, I 0, I 0, I 0, I 0, I 0, I 0, I 0, I 0, I 0, I 0, I 0, I 0, I 0, I 0, I 0, I 0, I 0, I 0, I 0, I 0, I 0, I 0, I 0, I 0, I 0, I 0, I 0] 0 x8l) (0 + x11.toNat * 1) fun v => asI .i64 v fun x22 =>
ret (.norm [I (wr ((wr (x4 + x22)) + 3))])))) (
bnd (f_ref07_Block D [.sl x0, I x11]) fun r_8 =>
asI .i64 r_8 fun x27 =>
cond (decide (x27 < 0)) (
ret (.norm [I (wr (x4 + 1))])) (
ret (.norm [I x4]))))) fun vs_2 =>
uI .i64 vs_2 fun x4_1 r_9 =>
nl r_9 (
ret (.norm [I x4_1, I (wr (x11 + 1))]))) (
ret (.exit 0 [I x4])))) [I 1, I 0]) fun vs =>
uI .i64 vs fun x4_2 r_10 =>
nl r_10 (
ret (.ret [I x4_2]))))))

/-- countermand/bound.seen -/
def f_bound_seen (D : HV → List HV → M HV) (args : List HV) : M HV :=
fin (
uL args fun x0 r =>
uI .i64 r fun x1 r_1 =>
nl r_1 (
gd (decide (0 ≤ wr ((x0.len : Int) + 1))) (gd (decide (wr ((x0.len : Int) + 1) ≤ wr ((x0.len : Int) + 1))) (gd (decide ((wr ((x0.len : Int) + 1)).toNat * 1 ≤ room)) (
nw (repL (wr ((x0.len : Int) + 1)).toNat [.bool false]) fun b12 =>
ix (⟨some (b12, 0), (wr ((x0.len : Int) + 1)).toNat, (wr ((x0.len : Int) + 1)).toNat, none⟩) x1 1 fun x15b x15o =>
stC x15b x15o (.bool true) (
blk 0 (
loopD (fun vs_1 =>
uI .i64 vs_1 fun x18 r_2 =>
nl r_2 (
cond (decide (x18 < (x0.len : Int))) (
blk 1 (
ix (⟨some (b12, 0), (wr ((x0.len : Int) + 1)).toNat, (wr ((x0.len : Int) + 1)).toNat, none⟩) x18 1 fun x23b x23o =>
ldC x23b x23o fun v => asB v fun x24 =>
cond (!x24) (
ret (.exit 1 [])) (
bnd (f_bound_next D [.sl x0, I x18]) fun r_3 =>
asSl r_3 fun x28 =>
blk 2 (
loopD (fun vs_4 =>
uI .i64 vs_4 fun x30 r_4 =>
nl r_4 (
cond (decide (x30 < (x28.len : Int))) (
ix x28 x30 1 fun x32b x32o =>
ldC x32b x32o fun v_1 => asI .i64 v_1 fun x33 =>
ix (⟨some (b12, 0), (wr ((x0.len : Int) + 1)).toNat, (wr ((x0.len : Int) + 1)).toNat, none⟩) x33 1 fun x36b x36o =>
stC x36b x36o (.bool true) (
ret (.norm [I (wr (x30 + 1))]))) (
ret (.exit 2 [])))) [I 0]) fun vs_3 =>
nl vs_3 (
ret (.norm [])))) fun vs_2 =>
nl vs_2 (
ret (.norm [I (wr (x18 + 1))]))) (
ret (.exit 0 [])))) [I 0]) fun vs =>
nl vs (
ret (.ret [.sl (⟨some (b12, 0), (wr ((x0.len : Int) + 1)).toNat, (wr ((x0.len : Int) + 1)).toNat, none⟩)]))))))))

/-- countermand/bound.Reach -/
def f_bound_Reach (D : HV → List HV → M HV) (args : List HV) : M HV :=
fin (
uL args fun x0 r =>
nl r (
bnd (f_bound_can D [.sl x0]) fun r_1 =>
asB r_1 fun x4 =>
cond (!x4) (
ret (.ret [.sl (⟨none, 0, 0, none⟩)])) (
bnd (f_bound_seen D [.sl x0, I 0]) fun r_2 =>
asSl r_2 fun x7 =>
gd (decide (0 ≤ 0)) (gd (decide (0 ≤ (x0.len : Int))) (gd (decide ((x0.len : Int) ≤ (x7.cap : Int))) (gd (decide ((x7.cap : Int) ≤ (x7.cap : Int))) (gd (slOk x7.opn 1 (decide (0 < (x7.cap : Int)))) (
ret (.ret [.sl (⟨bif decide ((x7.cap : Int) = 0) then x7.p else x7.p.map (fun q => (q.1, q.2 + (0 : Int).toNat * 1)), ((x0.len : Int) - 0 : Int).toNat, ((x7.cap : Int) - 0 : Int).toNat, x7.opn⟩)])))))))))

/-- countermand/bound.From$1 -/
def f_bound_From_1 (D : HV → List HV → M HV) (args : List HV) : M HV :=
fin (
uc args fun x0 r =>
uP r fun x1 r_1 =>
uP r_1 fun x2 r_2 =>
nl r_2 (
jn (
mP x1 fun x6b x6o =>
ldC x6b x6o fun v => asSl v fun x6 =>
bnd (f_bound_can D [.sl x6]) fun r_3 =>
asB r_3 fun x7 =>
cond (!x7) (
ret (.norm [.bool true])) (
mP x2 fun x10b x10o =>
ldC x10b x10o fun v_1 => asI .i64 v_1 fun x10 =>
cond (decide (x10 < 0)) (
ret (.norm [.bool true])) (
mP x2 fun x14b x14o =>
ldC x14b x14o fun v_2 => asI .i64 v_2 fun x14 =>
mP x1 fun x15b x15o =>
ldC x15b x15o fun v_3 => asSl v_3 fun x15 =>
ret (.norm [.bool (decide (x14 > (x15.len : Int)))])))) fun vs =>
uB vs fun x18 r_4 =>
nl r_4 (
cond x18 (
ret (.ret [])) (
mP x1 fun x19b x19o =>
ldC x19b x19o fun v_4 => asSl v_4 fun x19 =>
mP x2 fun x20b x20o =>
ldC x20b x20o fun v_5 => asI .i64 v_5 fun x20 =>
bnd (f_bound_seen D [.sl x19, I x20]) fun r_5 =>
asSl r_5 fun x21 =>
blk 0 (
loopD (fun vs_2 =>
uI .i64 vs_2 fun x23 r_6 =>
nl r_6 (
cond (decide (x23 < (x21.len : Int))) (
ix x21 x23 1 fun x26b x26o =>
ldC x26b x26o fun v_6 => asB v_6 fun x27 =>
jn (
cond x27 (
bnd (D x0 [I x23]) fun r_7 =>
asB r_7 fun x32 =>
ret (.norm [.bool (!x32)])) (
ret (.norm [.bool false]))) fun vs_3 =>
uB vs_3 fun x34 r_8 =>
nl r_8 (
cond x34 (
ret (.ret [])) (
ret (.norm [I (wr (x23 + 1))])))) (
ret (.exit 0 [])))) [I 0]) fun vs_1 =>
nl vs_1 (
ret (.ret []))))))

/-- countermand/bound.From -/
def f_bound_From (D : HV → List HV → M HV) (args : List HV) : M HV :=
fin (
uL args fun x0 r =>
uI .i64 r fun x1 r_1 =>
nl r_1 (
nw [.sl x0] fun b2 =>
nw [I x1] fun b3 =>
ret (.ret [.func n_bound_From_1 [] [.ptr (some (b2, 0)), .ptr (some (b3, 0))]])))

/-- countermand/countermandref27.Seen -/
def f_ref27_Seen (D : HV → List HV → M HV) (args : List HV) : M HV :=
fin (
uL args fun x0 r =>
uI .i64 r fun x1 r_1 =>
nl r_1 (
gd (decide (0 ≤ x1)) (gd (decide (x1 < (49 : Int))) (
gd (decide (0 + x1.toNat * 1 < (List.replicate 49 (HV.bool false)).length)) (
blk 0 (
loopD (fun vs_1 =>
uB vs_1 fun x6 r_2 =>
uA r_2 fun y5 r_3 =>
nl r_3 (
cond x6 (
blk 2 (
loopD (fun vs_3 =>
uB vs_3 fun x6_1 r_4 =>
uI .i64 r_4 fun x14 r_5 =>
uA r_5 fun y5_1 r_6 =>
nl r_6 (
cond (decide (x14 < (x0.len : Int))) (
blk 4 (
loopD (fun vs_5 =>
uB vs_5 fun x6_2 r_7 =>
uI .i64 r_7 fun x8 r_8 =>
uA r_8 fun y5_2 r_9 =>
nl r_9 (
cond (decide (x8 ≤ (x0.len : Int))) (
blk 5 (
jn (
gd (decide (0 ≤ x14)) (gd (decide (x14 < (49 : Int))) (
gx y5_2 (0 + x14.toNat * 1) fun v => asB v fun x25 =>
cond x25 (
gd (decide (0 ≤ x8)) (gd (decide (x8 < (49 : Int))) (
gx y5_2 (0 + x8.toNat * 1) fun v_1 => asB v_1 fun x29 =>
cond (!x29) (
bnd (f_ref27_Leads D [.sl x0, I x14, I x8]) fun r_10 =>
asB r_10 fun x36 =>
ret (.norm [.bool x36])) (
ret (.norm [.bool false]))))) (
ret (.norm [.bool false]))))) fun vs_7 =>
uB vs_7 fun x37 r_11 =>
nl r_11 (
cond x37 (
gd (decide (0 ≤ x8)) (gd (decide (x8 < (49 : Int))) (
gd (decide (0 + x8.toNat * 1 < y5_2.length)) (
ret (.norm [.bool true, .agg (List.set y5_2 (0 + x8.toNat * 1) (.bool true))]))))) (
ret (.norm [.bool x6_2, .agg y5_2])))) fun vs_6 =>
uB vs_6 fun x6_3 r_12 =>
uA r_12 fun y5_3 r_13 =>
nl r_13 (
ret (.norm [.bool x6_3, I (wr (x8 + 1)), .agg y5_3]))) (
ret (.exit 4 [.bool x6_2, .agg y5_2])))) [.bool x6_1, I 0, .agg y5_1]) fun vs_4 =>
uB vs_4 fun x6_4 r_14 =>
uA r_14 fun y5_4 r_15 =>
nl r_15 (
ret (.norm [.bool x6_4, I (wr (x14 + 1)), .agg y5_4]))) (
ret (.exit 2 [.bool x6_1, .agg y5_1])))) [.bool false, I 0, .agg y5]) fun vs_2 =>
uB vs_2 fun x6_5 r_16 =>
uA r_16 fun y5_5 r_17 =>
nl r_17 (
ret (.norm [.bool x6_5, .agg y5_5]))) (
ret (.exit 0 [.agg y5])))) [.bool true, .agg (List.set (List.replicate 49 (HV.bool false)) (0 + x1.toNat * 1) (.bool true))]) fun vs =>
uA vs fun y5_6 r_18 =>
nl r_18 (
gxN y5_6 0 49 fun x41l =>
gd (Nat.beq x41l.length 49) (
gd (Nat.ble (0 + x41l.length) (List.replicate 49 (HV.bool false)).length) (
gxN (putN (List.replicate 49 (HV.bool false)) 0 x41l) 0 49 fun z0l =>
ret (.ret [.agg z0l])))))))))

/-- countermand/countermandlaw27.BoundReach -/
noncomputable def f_law27_BoundReach (D : HV → List HV → M HV) (args : List HV) : M HV :=
fin (
uL args fun x0 r =>
uI .i64 r fun x1 r_1 =>
uI .i64 r_1 fun x2 r_2 =>
nl r_2 (
nw [.sl x0] fun b3 =>
nw [I x2] fun b5 =>
nw [.bool false] fun b6 =>
bnd (f_law27_alive D []) fun r_3 =>
asB r_3 fun x17 =>
cond (!x17) (
stC b6 0 (.bool false) (
ldC b6 0 fun v => asB v fun z0 =>
ret (.ret [.bool z0]))) (
ldC b3 0 fun v_1 => asSl v_1 fun x19 =>
bnd (f_bound_Reach D [.sl x19]) fun r_4 =>
asSl r_4 fun x20 =>
nw [I 0] fun b8 =>
nw [I 0] fun b9 =>
stC b8 0 (I 0) (
stC b9 0 (I (-1)) (
jn (
ldC b3 0 fun v_2 => asSl v_2 fun x21 =>
bnd (f_ref27_Can D [.sl x21]) fun r_5 =>
asB r_5 fun x22 =>
cond (!x22) (
ret (.norm [.bool true])) (
cond (decide (x1 < 0)) (
ret (.norm [.bool true])) (
ldC b3 0 fun v_3 => asSl v_3 fun x30 =>
ret (.norm [.bool (decide (x1 > (x30.len : Int)))])))) fun vs =>
uB vs fun x33 r_6 =>
nl r_6 (
cond x33 (
ldC b3 0 fun v_4 => asSl v_4 fun x34 =>
bnd (f_bound_From D [.sl x34, I x1]) fun r_7 =>
blk 0 (
ny r_7 (nwL 72333135 [(6, .ptr (some (b6, 0)))] fun l =>
bnd (D r_7 [.yld l]) fun q =>
endL l (
ret (.norm []))
(onX 0 (ret (.exit 0 [])) noX) (
ldC b6 0 fun v_5 => asB v_5 fun z0_1 =>
ret (.ret [.bool z0_1])))) fun vs_1 =>
nl vs_1 (
jn (
ldC b3 0 fun v_6 => asSl v_6 fun x38 =>
bnd (f_ref27_Can D [.sl x38]) fun r_8 =>
asB r_8 fun x39 =>
cond x39 (
stC b6 0 (.bool true) (
ret (.norm []))) (
stC b6 0 (.bool ((x20.len : Int) == 0)) (
ret (.norm [])))) fun vs_2 =>
nl vs_2 (
ldC b6 0 fun v_7 => asB v_7 fun z0_2 =>
ret (.ret [.bool z0_2])))) (
snp true fun h =>
ldC b3 0 fun v_8 => asSl v_8 fun x45 =>
snp true fun h_1 =>
snp true fun h_2 =>
bnd (f_ref27_Seen D [.sl x45, I x1]) fun r_9 =>
asA r_9 fun x47l =>
snp true fun h_3 =>
ldC b3 0 fun v_9 => asSl v_9 fun x48 =>
snp true fun h_4 =>
bnd (f_ref27_Seen D [.sl x48, I 0]) fun r_10 =>
asA r_10 fun x49l =>
snp true fun h_5 =>
snp true fun h_6 =>
snp true fun h_7 =>
gd (Nat.beq x47l.length 49) (
gd (Nat.ble (0 + x47l.length) (List.replicate 49 (HV.bool false)).length) (
snp true fun h_8 =>
gd (Nat.beq x49l.length 49) (
gd (Nat.ble (0 + x49l.length) (List.replicate 49 (HV.bool false)).length) (
snp true fun h_9 =>
gdP ((h_9.get b3 = h_8.get b3 ∧ h_8.get b3 = h_7.get b3 ∧ h_7.get b3 = h_6.get b3 ∧ h_6.get b3 = h_5.get b3 ∧ h_5.get b3 = h_4.get b3 ∧ h_4.get b3 = h_3.get b3 ∧ h_3.get b3 = h_2.get b3 ∧ h_2.get b3 = h_1.get b3 ∧ h_1.get b3 = h.get b3 ∧ True) ∧ True) (
nw (putN (List.replicate 49 (HV.bool false)) 0 x47l) fun b10 =>
ldC b3 0 fun v_10 => asSl v_10 fun x50 =>
bnd (f_bound_From D [.sl x50, I x1]) fun r_11 =>
blk 2 (
ny r_11 (nwL 69661462 [(3, .ptr (some (b3, 0))), (5, .ptr (some (b5, 0))), (6, .ptr (some (b6, 0))), (8, .ptr (some (b8, 0))), (9, .ptr (some (b9, 0))), (10, .ptr (some (b10, 0)))] fun l_1 =>
bnd (D r_11 [.yld l_1]) fun q_1 =>
endL l_1 (
ret (.norm []))
(onX 2 (ret (.exit 2 [])) noX) (
ldC b6 0 fun v_11 => asB v_11 fun z0_3 =>
ret (.ret [.bool z0_3])))) fun vs_3 =>
nl vs_3 (
ldN b10 0 49 fun x75l =>
blk 4 (
loopD (fun vs_5 =>
uI .i64 vs_5 fun x13 r_12 =>
uI .i64 r_12 fun x76 r_13 =>
nl r_13 (
cond (decide (x76 < 49)) (
blk 5 (
gd (decide (0 ≤ x76)) (gd (decide (x76 < (49 : Int))) (
gx x75l (x76.toNat * 1) fun v_12 => asB v_12 fun x78 =>
cond x78 (
ret (.norm [I (wr (x13 + 1))])) (
ret (.norm [I x13]))))) fun vs_6 =>
uI .i64 vs_6 fun x13_1 r_14 =>
nl r_14 (
ret (.norm [I x13_1, I (wr (x76 + 1))]))) (
ret (.exit 4 [I x13])))) [I 0, I 0]) fun vs_4 =>
uI .i64 vs_4 fun x13_2 r_15 =>
nl r_15 (
blk 6 (
loopD (fun vs_8 =>
uI .i64 vs_8 fun x85 r_16 =>
nl r_16 (
cond (decide (x85 < (x20.len : Int))) (
jn (
ldC b3 0 fun v_13 => asSl v_13 fun x89 =>
cond (decide (x85 ≥ (x89.len : Int))) (
ret (.norm [.bool true])) (
ix x20 x85 1 fun x95b x95o =>
ldC x95b x95o fun v_14 => asB v_14 fun x96 =>
gd (decide (0 ≤ x85)) (gd (decide (x85 < (49 : Int))) (
gx (putN (List.replicate 49 (HV.bool false)) 0 x49l) (0 + x85.toNat * 1) fun v_15 => asB v_15 fun x99 =>
ret (.norm [.bool (!(x96 == x99))]))))) fun vs_9 =>
uB vs_9 fun x101 r_17 =>
nl r_17 (
cond x101 (
stC b6 0 (.bool false) (
ldC b6 0 fun v_16 => asB v_16 fun z0_4 =>
ret (.ret [.bool z0_4]))) (
ret (.norm [I (wr (x85 + 1))])))) (
ret (.exit 6 [])))) [I 0]) fun vs_7 =>
nl vs_7 (
jn (
ldC b3 0 fun v_17 => asSl v_17 fun x105 =>
cond ((x20.len : Int) == (x105.len : Int)) (
ldC b8 0 fun v_18 => asI .i64 v_18 fun x109 =>
ldC b5 0 fun v_19 => asI .i64 v_19 fun x110 =>
cond (x109 == x110) (
stC b6 0 (.bool true) (
ret (.norm []))) (
ldC b8 0 fun v_20 => asI .i64 v_20 fun x113 =>
stC b6 0 (.bool (x113 == x13_2)) (
ret (.norm [])))) (
stC b6 0 (.bool false) (
ret (.norm [])))) fun vs_10 =>
nl vs_10 (
ldC b6 0 fun v_21 => asB v_21 fun z0_5 =>
ret (.ret [.bool z0_5])))))))))))))))))

/-- a round of countermand/countermandlaw27.BoundReach -/
def r0_law27_BoundReach (D : HV → List HV → M HV) (l : Nat) (vs : List (Nat × HV)) (args : List HV) : M Leaf :=
gdS [6] vs fun vs' =>
uP vs' fun x6 r =>
nl r (
uI .i64 args fun x37 r_1 =>
nl r_1 (
busyL l (
mP x6 fun qb qo =>
stC qb qo (.bool false) (
ret (.ret [])))))

/-- a round of countermand/countermandlaw27.BoundReach -/
def r1_law27_BoundReach (D : HV → List HV → M HV) (l : Nat) (vs : List (Nat × HV)) (args : List HV) : M Leaf :=
gdS [3, 5, 6, 8, 9, 10] vs fun vs' =>
uP vs' fun x3 r =>
uP r fun x5 r_1 =>
uP r_1 fun x6 r_2 =>
uP r_2 fun x8 r_3 =>
uP r_3 fun x9 r_4 =>
uP r_4 fun x10 r_5 =>
nl r_5 (
uI .i64 args fun x53 r_6 =>
nl r_6 (
busyL l (
jn (
mP x9 fun x55b x55o =>
ldC x55b x55o fun v => asI .i64 v fun x55 =>
cond (decide (x53 ≤ x55)) (
ret (.norm [.bool true])) (
mP x3 fun x59b x59o =>
ldC x59b x59o fun v_1 => asSl v_1 fun x59 =>
cond (decide (x53 > (x59.len : Int))) (
ret (.norm [.bool true])) (
mP x10 fun x65b x65o =>
gd (decide (0 ≤ x53)) (gd (decide (x53 < (49 : Int))) (
ldC x65b (x65o + x53.toNat * 1) fun v_2 => asB v_2 fun x66 =>
ret (.norm [.bool (!x66)])))))) fun vs_1 =>
uB vs_1 fun x68 r_7 =>
nl r_7 (
cond x68 (
mP x6 fun qb qo =>
stC qb qo (.bool false) (
ret (.ret []))) (
mP x9 fun qb_1 qo_1 =>
stC qb_1 qo_1 (I x53) (
mP x8 fun x70b x70o =>
ldC x70b x70o fun v_3 => asI .i64 v_3 fun x70 =>
mP x8 fun qb_2 qo_2 =>
stC qb_2 qo_2 (I (wr (x70 + 1))) (
mP x8 fun x72b x72o =>
ldC x72b x72o fun v_4 => asI .i64 v_4 fun x72 =>
mP x5 fun x73b x73o =>
ldC x73b x73o fun v_5 => asI .i64 v_5 fun x73 =>
cond (x72 == x73) (
ret (.exit 2 [])) (
ret (.norm [])))))))))

/-- countermand/countermandlaw27.marked -/
def f_law27_marked (D : HV → List HV → M HV) (args : List HV) : M HV :=
fin (
uL args fun x0 r =>
uI .i64 r fun x1 r_1 =>
nl r_1 (
nw [.sl x0] fun b2 =>
nw (List.replicate 49 (HV.bool false)) fun b4 =>
nw [.bool false] fun b5 =>
nw (List.replicate 49 (HV.bool false)) fun b6 =>
ldC b2 0 fun v => asSl v fun x8 =>
bnd (f_bound_From D [.sl x8, I x1]) fun r_2 =>
blk 0 (
ny r_2 (nwL 6300482 [(2, .ptr (some (b2, 0))), (4, .ptr (some (b4, 0))), (5, .ptr (some (b5, 0))), (6, .ptr (some (b6, 0)))] fun l =>
bnd (D r_2 [.yld l]) fun q =>
endL l (
ret (.norm []))
(onX 0 (ret (.exit 0 [])) noX) (
ldN b4 0 49 fun z0l =>
ldC b5 0 fun v_1 => asB v_1 fun z1 =>
ret (.ret [.agg z0l, .bool z1])))) fun vs =>
nl vs (
ldN b6 0 49 fun x27l =>
gd (Nat.beq x27l.length 49) (
stN b4 0 x27l (
stC b5 0 (.bool true) (
ldN b4 0 49 fun z0l_1 =>
ldC b5 0 fun v_2 => asB v_2 fun z1_1 =>
ret (.ret [.agg z0l_1, .bool z1_1])))))))

/-- a round of countermand/countermandlaw27.marked -/
def r0_law27_marked (D : HV → List HV → M HV) (l : Nat) (vs : List (Nat × HV)) (args : List HV) : M Leaf :=
gdS [2, 4, 5, 6] vs fun vs' =>
uP vs' fun x2 r =>
uP r fun x4 r_1 =>
uP r_1 fun x5 r_2 =>
uP r_2 fun x6 r_3 =>
nl r_3 (
uI .i64 args fun x11 r_4 =>
nl r_4 (
busyL l (
jn (
cond (decide (x11 < 0)) (
ret (.norm [.bool true])) (
mP x2 fun x16b x16o =>
ldC x16b x16o fun v => asSl v fun x16 =>
cond (decide (x11 > (x16.len : Int))) (
ret (.norm [.bool true])) (
ret (.norm [.bool (decide (x11 > 48))])))) fun vs_1 =>
uB vs_1 fun x23 r_5 =>
nl r_5 (
cond x23 (
mP x6 fun x24b x24o =>
ldN x24b x24o 49 fun x24l =>
mP x4 fun qb qo =>
gd (Nat.beq x24l.length 49) (
stN qb qo x24l (
mP x5 fun qb_1 qo_1 =>
stC qb_1 qo_1 (.bool false) (
ret (.ret []))))) (
mP x6 fun x26b x26o =>
gd (decide (0 ≤ x11)) (gd (decide (x11 < (49 : Int))) (
stC x26b (x26o + x11.toNat * 1) (.bool true) (
ret (.norm [])))))))))

/-- countermand/trim.idle -/
def f_trim_idle (D : HV → List HV → M HV) (args : List HV) : M HV :=
fin (
uL args fun x0 r =>
nl r (
bnd (f_bound_Reach D [.sl x0]) fun r_1 =>
asSl r_1 fun x9 =>
gd (decide (0 ≤ (x9.len : Int))) (gd (decide ((x9.len : Int) ≤ (x9.len : Int))) (gd (decide ((x9.len : Int).toNat * 1 ≤ room)) (
nw (repL (x9.len : Int).toNat [.bool false]) fun b12 =>
blk 0 (
loopD (fun vs_1 =>
uI .i64 vs_1 fun x5 r_2 =>
uI .i64 r_2 fun x15 r_3 =>
nl r_3 (
cond (decide (x15 < (x9.len : Int))) (
blk 1 (
ix x9 x15 1 fun x18b x18o =>
ldC x18b x18o fun v => asB v fun x19 =>
jn (
cond (!x19) (
ix (⟨some (b12, 0), (x9.len : Int).toNat, (x9.len : Int).toNat, none⟩) x15 1 fun x42b x42o =>
stC x42b x42o (.bool true) (
ret (.norm []))) (
ix x0 x15 4 fun x27b x27o =>
ldC x27b x27o fun v_1 => asI .i64 v_1 fun x29 =>
cond (x29 == 3) (
ix x0 x15 4 fun x34b x34o =>
ldC x34b (x34o + 1) fun v_2 => asI .i64 v_2 fun x36 =>
ix (⟨some (b12, 0), (x9.len : Int).toNat, (x9.len : Int).toNat, none⟩) x15 1 fun x42b_1 x42o_1 =>
stC x42b_1 x42o_1 (.bool (x36 == (wr (x15 + 1)))) (
ret (.norm []))) (
ix (⟨some (b12, 0), (x9.len : Int).toNat, (x9.len : Int).toNat, none⟩) x15 1 fun x42b_2 x42o_2 =>
stC x42b_2 x42o_2 (.bool false) (
ret (.norm []))))) fun vs_3 =>
nl vs_3 (
ix x0 x15 4 fun x45b x45o =>
ldC x45b x45o fun v_3 => asI .i64 v_3 fun x47 =>
cond (x47 == 4) (
ret (.norm [I x15])) (
cond (x47 == 5) (
ix (⟨some (b12, 0), (x9.len : Int).toNat, (x9.len : Int).toNat, none⟩) x5 1 fun x57b x57o =>
ldC x57b x57o fun v_4 => asB v_4 fun x58 =>
ix (⟨some (b12, 0), (x9.len : Int).toNat, (x9.len : Int).toNat, none⟩) x15 1 fun x59b x59o =>
stC x59b x59o (.bool x58) (
ret (.norm [I x5]))) (
ret (.norm [I x5]))))) fun vs_2 =>
uI .i64 vs_2 fun x5_1 r_4 =>
nl r_4 (
ret (.norm [I x5_1, I (wr (x15 + 1))]))) (
ret (.exit 0 [])))) [I 0, I 0]) fun vs =>
nl vs (
ret (.ret [.sl (⟨some (b12, 0), (x9.len : Int).toNat, (x9.len : Int).toNat, none⟩)])))))))

/-- countermand/trim.places -/
def f_trim_places (D : HV → List HV → M HV) (args : List HV) : M HV :=
fin (
uL args fun x0 r =>
nl r (
gd (decide (0 ≤ wr ((x0.len : Int) + 1))) (gd (decide (wr ((x0.len : Int) + 1) ≤ wr ((x0.len : Int) + 1))) (gd (decide ((wr ((x0.len : Int) + 1)).toNat * 8 ≤ room)) (
nw (repL (wr ((x0.len : Int) + 1)).toNat [I 0]) fun b9 =>
blk 0 (
loopD (fun vs_1 =>
uI .i64 vs_1 fun x12 r_1 =>
nl r_1 (
cond (decide (x12 < (x0.len : Int))) (
blk 1 (
ix x0 x12 1 fun x15b x15o =>
ldC x15b x15o fun v => asB v fun x16 =>
ix (⟨some (b9, 0), (wr ((x0.len : Int) + 1)).toNat, (wr ((x0.len : Int) + 1)).toNat, none⟩) x12 1 fun x22b x22o =>
ldC x22b x22o fun v_1 => asI .i64 v_1 fun x23 =>
ix (⟨some (b9, 0), (wr ((x0.len : Int) + 1)).toNat, (wr ((x0.len : Int) + 1)).toNat, none⟩) (wr (x12 + 1)) 1 fun x24b x24o =>
stC x24b x24o (I x23) (
cond (!x16) (
ix (⟨some (b9, 0), (wr ((x0.len : Int) + 1)).toNat, (wr ((x0.len : Int) + 1)).toNat, none⟩) (wr (x12 + 1)) 1 fun x30b x30o =>
ldC x30b x30o fun v_2 => asI .i64 v_2 fun x31 =>
ix (⟨some (b9, 0), (wr ((x0.len : Int) + 1)).toNat, (wr ((x0.len : Int) + 1)).toNat, none⟩) (wr (x12 + 1)) 1 fun x33b x33o =>
stC x33b x33o (I (wr (x31 + 1))) (
ret (.norm []))) (
ret (.norm [])))) fun vs_2 =>
nl vs_2 (
ret (.norm [I (wr (x12 + 1))]))) (
ret (.exit 0 [])))) [I 0]) fun vs =>
nl vs (
ret (.ret [.sl (⟨some (b9, 0), (wr ((x0.len : Int) + 1)).toNat, (wr ((x0.len : Int) + 1)).toNat, none⟩)])))))))

/-- countermand/trim.Once -/
def f_trim_Once (D : HV → List HV → M HV) (args : List HV) : M HV :=
fin (
uL args fun x0 r =>
nl r (
bnd (f_trim_idle D [.sl x0]) fun r_1 =>
asSl r_1 fun x11 =>
bnd (f_trim_places D [.sl x11]) fun r_2 =>
asSl r_2 fun x13 =>
blk 0 (
loopD (fun vs_1 =>
uL vs_1 fun x6 r_3 =>
uI .i64 r_3 fun x16 r_4 =>
nl r_4 (
cond (decide (x16 < (x11.len : Int))) (
blk 1 (
ix x11 x16 1 fun x19b x19o =>
ldC x19b x19o fun v => asB v fun x20 =>
cond x20 (
ret (.exit 1 [.sl x6])) (
ix x0 x16 4 fun x24b x24o =>
ldN x24b x24o 4 fun x25l =>
uI .i64 x25l fun x25c0 r_5 =>
uI .i64 r_5 fun x25c1 r_6 =>
uI .i64 r_6 fun x25c2 r_7 =>
uI .i64 r_7 fun x25c3 r_8 =>
nl r_8 (
jn (
cond (x25c0 == 3) (
ret (.norm [.bool true])) (
ret (.norm [.bool (x25c0 == 20)]))) fun vs_3 =>
uB vs_3 fun x33 r_9 =>
nl r_9 (
jn (
cond x33 (
ix x13 x25c1 1 fun x37b x37o =>
ldC x37b x37o fun v_1 => asI .i64 v_1 fun x38 =>
ret (.norm [.agg [I x25c0, I x38, I x25c2, I x25c3]])) (
ret (.norm [.agg [I x25c0, I x25c1, I x25c2, I x25c3]]))) fun vs_4 =>
uA vs_4 fun y9 r_10 =>
uI .i64 y9 fun y9c0 r_11 =>
uI .i64 r_11 fun y9c1 r_12 =>
uI .i64 r_12 fun y9c2 r_13 =>
uI .i64 r_13 fun y9c3 r_14 =>
nl r_14 (
nl r_10 (
apd x6 4 32 1 [I y9c0, I y9c1, I y9c2, I y9c3] fun x43 =>
ret (.norm [.sl x43]))))))) fun vs_2 =>
uL vs_2 fun x6_1 r_15 =>
nl r_15 (
ret (.norm [.sl x6_1, I (wr (x16 + 1))]))) (
ret (.exit 0 [.sl x6])))) [.sl (⟨none, 0, 0, none⟩), I 0]) fun vs =>
uL vs fun x6_2 r_16 =>
nl r_16 (
ret (.ret [.sl x6_2, I (wr ((x11.len : Int) - (x6_2.len : Int)))]))))

/-- countermand/trim.Trim -/
def f_trim_Trim (D : HV → List HV → M HV) (args : List HV) : M HV :=
fin (
uL args fun x0 r =>
nl r (
bnd (f_code_Check D [.sl x0]) fun r_1 =>
asT r_1 fun x10l => uI .i64 x10l fun x10t0 r_2 =>
uI .i64 r_2 fun x10t1 r_3 =>
nl r_3 (
cond (x10t1 != 0) (
ret (.ret [.sl (⟨none, 0, 0, none⟩), I x10t1])) (
bnd (f_trim_Once D [.sl x0]) fun r_4 =>
asT r_4 fun x18l => uL x18l fun x18t0 r_5 =>
uI .i64 r_5 fun x18t1 r_6 =>
nl r_6 (
blk 0 (
loopD (fun vs_1 =>
uL vs_1 fun x6 r_7 =>
uI .i64 r_7 fun x7 r_8 =>
nl r_8 (
cond (decide (x7 > 0)) (
bnd (f_trim_Once D [.sl x6]) fun r_9 =>
asT r_9 fun x25l => uL x25l fun x25t0 r_10 =>
uI .i64 r_10 fun x25t1 r_11 =>
nl r_11 (
ret (.norm [.sl x25t0, I x25t1]))) (
ret (.exit 0 [.sl x6])))) [.sl x18t0, I x18t1]) fun vs =>
uL vs fun x6_1 r_12 =>
nl r_12 (
ret (.ret [.sl x6_1, I 0])))))))

/-- countermand/trim.Moved -/
def f_trim_Moved (D : HV → List HV → M HV) (args : List HV) : M HV :=
fin (
uL args fun x0 r =>
uI .i64 r fun x1 r_1 =>
nl r_1 (
bnd (f_code_Check D [.sl x0]) fun r_2 =>
asT r_2 fun x9l => uI .i64 x9l fun x9t0 r_3 =>
uI .i64 r_3 fun x9t1 r_4 =>
nl r_4 (
jn (
cond (x9t1 != 0) (
ret (.norm [.bool true])) (
cond (decide (x1 < 0)) (
ret (.norm [.bool true])) (
ret (.norm [.bool (decide (x1 > (x0.len : Int)))])))) fun vs =>
uB vs fun x23 r_5 =>
nl r_5 (
cond x23 (
ret (.ret [I (-1)])) (
bnd (f_trim_idle D [.sl x0]) fun r_6 =>
asSl r_6 fun x25 =>
bnd (f_trim_places D [.sl x25]) fun r_7 =>
asSl r_7 fun x26 =>
ix x26 x1 1 fun x28b x28o =>
ldC x28b x28o fun v => asI .i64 v fun x29 =>
ret (.ret [I x29]))))))

/-- countermand/countermandlaw29.alive -/
def f_law29_alive (D : HV → List HV → M HV) (args : List HV) : M HV :=
fin (
nl args (
nw [I 3, I 2, I 0, I 2, I 0, I 0, I 0, I 0, I 1, I 1, I 5, I 0] fun b9 =>
bnd (f_trim_Once D [.sl (⟨some (b9, 0), 3, 3, none⟩)]) fun r =>
asT r fun x12l => uL x12l fun x12t0 r_1 =>
uI .i64 r_1 fun x12t1 r_2 =>
nl r_2 (
bnd (f_trim_Trim D [.sl (⟨some (b9, 0), 3, 3, none⟩)]) fun r_3 =>
asT r_3 fun x17l => uL x17l fun x17t0 r_4 =>
uI .i64 r_4 fun x17t1 r_5 =>
nl r_5 (
jn (
cond (x12t1 == 1) (
cond ((x12t0.len : Int) == 2) (
ix x12t0 0 4 fun x29b x29o =>
ldC x29b (x29o + 1) fun v => asI .i64 v fun x31 =>
cond (x31 == 1) (
cond (x17t1 == 0) (
cond ((x17t0.len : Int) == 1) (
ix x17t0 0 4 fun x45b x45o =>
ldN x45b x45o 4 fun x46l =>
uI .i64 x46l fun x46c0 r_6 =>
uI .i64 r_6 fun x46c1 r_7 =>
uI .i64 r_7 fun x46c2 r_8 =>
uI .i64 r_8 fun x46c3 r_9 =>
nl r_9 (
ix (⟨some (b9, 0), 3, 3, none⟩) 2 4 fun x48b x48o =>
ldN x48b x48o 4 fun x49l =>
uI .i64 x49l fun x49c0 r_10 =>
uI .i64 r_10 fun x49c1 r_11 =>
uI .i64 r_11 fun x49c2 r_12 =>
uI .i64 r_12 fun x49c3 r_13 =>
nl r_13 (
cond (cond (x46c0 == x49c0) (cond (x46c1 == x49c1) (cond (x46c2 == x49c2) (cond (x46c3 == x49c3) true false) false) false) false) (
bnd (f_trim_Moved D [.sl (⟨some (b9, 0), 3, 3, none⟩), I 2]) fun r_14 =>
asI .i64 r_14 fun x54 =>
ret (.norm [.bool (x54 == 1)])) (
ret (.norm [.bool false]))))) (
ret (.norm [.bool false]))) (
ret (.norm [.bool false]))) (
ret (.norm [.bool false]))) (
ret (.norm [.bool false]))) (
ret (.norm [.bool false]))) fun vs =>
uB vs fun x0 r_15 =>
nl r_15 (
ret (.ret [.bool x0]))))))

/-- countermand/countermandlaw29.same -/
def f_law29_same (D : HV → List HV → M HV) (args : List HV) : M HV :=
fin (
uL args fun x0 r =>
uL r fun x1 r_1 =>
nl r_1 (
cond ((x0.len : Int) != (x1.len : Int)) (
ret (.ret [.bool false])) (
blk 0 (
loopD (fun vs_1 =>
uI .i64 vs_1 fun x13 r_2 =>
nl r_2 (
cond (decide (x13 < (x0.len : Int))) (
ix x0 x13 4 fun x18b x18o =>
ldN x18b x18o 4 fun x19l =>
uI .i64 x19l fun x19c0 r_3 =>
uI .i64 r_3 fun x19c1 r_4 =>
uI .i64 r_4 fun x19c2 r_5 =>
uI .i64 r_5 fun x19c3 r_6 =>
nl r_6 (
ix x1 x13 4 fun x22b x22o =>
ldN x22b x22o 4 fun x23l =>
uI .i64 x23l fun x23c0 r_7 =>
uI .i64 r_7 fun x23c1 r_8 =>
uI .i64 r_8 fun x23c2 r_9 =>
uI .i64 r_9 fun x23c3 r_10 =>
nl r_10 (
cond (!(cond (x19c0 == x23c0) (cond (x19c1 == x23c1) (cond (x19c2 == x23c2) (cond (x19c3 == x23c3) true false) false) false) false)) (
ret (.ret [.bool false])) (
ret (.norm [I (wr (x13 + 1))]))))) (
ret (.exit 0 [])))) [I 0]) fun vs =>
nl vs (
ret (.ret [.bool true])))))

/-- countermand/countermandref29.Idles -/
def f_ref29_Idles (D : HV → List HV → M HV) (args : List HV) : M HV :=
fin (
uL args fun x0 r =>
nl r (
bnd (f_ref27_Seen D [.sl x0, I 0]) fun r_1 =>
asA r_1 fun x8l =>
gd (Nat.beq x8l.length 49) (
gd (Nat.ble (0 + x8l.length) (List.replicate 49 (HV.bool false)).length) (
blk 0 (
loopD (fun vs_1 =>
uI .i64 vs_1 fun x11 r_2 =>
uA r_2 fun y3 r_3 =>
nl r_3 (
cond (decide (x11 < (x0.len : Int))) (
blk 1 (
ix x0 x11 4 fun x14b x14o =>
ldN x14b x14o 4 fun x15l =>
uI .i64 x15l fun x15c0 r_4 =>
uI .i64 r_4 fun x15c1 r_5 =>
uI .i64 r_5 fun x15c2 r_6 =>
uI .i64 r_6 fun x15c3 r_7 =>
nl r_7 (
jn (
gd (decide (0 ≤ x11)) (gd (decide (x11 < (49 : Int))) (
gx (putN (List.replicate 49 (HV.bool false)) 0 x8l) (0 + x11.toNat * 1) fun v => asB v fun x19 =>
cond (!x19) (
gd (decide (0 ≤ x11)) (gd (decide (x11 < (48 : Int))) (
gd (decide (0 + x11.toNat * 1 < y3.length)) (
ret (.norm [.agg (List.set y3 (0 + x11.toNat * 1) (.bool true))]))))) (
cond (x15c0 == 3) (
gd (decide (0 ≤ x11)) (gd (decide (x11 < (48 : Int))) (
gd (decide (0 + x11.toNat * 1 < y3.length)) (
ret (.norm [.agg (List.set y3 (0 + x11.toNat * 1) (.bool (x15c1 == (wr (x11 + 1)))))]))))) (
gd (decide (0 ≤ x11)) (gd (decide (x11 < (48 : Int))) (
gd (decide (0 + x11.toNat * 1 < y3.length)) (
ret (.norm [.agg (List.set y3 (0 + x11.toNat * 1) (.bool false))]))))))))) fun vs_3 =>
uA vs_3 fun y3_1 r_8 =>
nl r_8 (
cond (x15c0 == 5) (
bnd (f_ref07_Block D [.sl x0, I x11]) fun r_9 =>
asI .i64 r_9 fun x40 =>
gd (decide (0 ≤ x40)) (gd (decide (x40 < (48 : Int))) (
gx y3_1 (0 + x40.toNat * 1) fun v_1 => asB v_1 fun x42 =>
gd (decide (0 ≤ x11)) (gd (decide (x11 < (48 : Int))) (
gd (decide (0 + x11.toNat * 1 < y3_1.length)) (
ret (.norm [.agg (List.set y3_1 (0 + x11.toNat * 1) (.bool x42))]))))))) (
ret (.norm [.agg y3_1]))))) fun vs_2 =>
uA vs_2 fun y3_2 r_10 =>
nl r_10 (
ret (.norm [I (wr (x11 + 1)), .agg y3_2]))) (
ret (.exit 0 [.agg y3])))) [I 0, .agg (List.replicate 48 (HV.bool false))]) fun vs =>
uA vs fun y3_3 r_11 =>
nl r_11 (
gxN y3_3 0 48 fun x45l =>
gd (Nat.beq x45l.length 48) (
gd (Nat.ble (0 + x45l.length) (List.replicate 48 (HV.bool false)).length) (
gxN (putN (List.replicate 48 (HV.bool false)) 0 x45l) 0 48 fun z0l =>
ret (.ret [.agg z0l]))))))))

/-- countermand/countermandref29.Ahead -/
def f_ref29_Ahead (D : HV → List HV → M HV) (args : List HV) : M HV :=
fin (
uL args fun x0 r =>
uI .i64 r fun x1 r_1 =>
nl r_1 (
bnd (f_ref29_Idles D [.sl x0]) fun r_2 =>
asA r_2 fun x9l =>
gd (Nat.beq x9l.length 48) (
gd (Nat.ble (0 + x9l.length) (List.replicate 48 (HV.bool false)).length) (
blk 0 (
loopD (fun vs_1 =>
uI .i64 vs_1 fun x5 r_3 =>
uI .i64 r_3 fun x7 r_4 =>
nl r_4 (
cond (decide (x7 < x1)) (
blk 1 (
gd (decide (0 ≤ x7)) (gd (decide (x7 < (48 : Int))) (
gx (putN (List.replicate 48 (HV.bool false)) 0 x9l) (0 + x7.toNat * 1) fun v => asB v fun x17 =>
cond (!x17) (
ret (.norm [I (wr (x5 + 1))])) (
ret (.norm [I x5]))))) fun vs_2 =>
uI .i64 vs_2 fun x5_1 r_5 =>
nl r_5 (
ret (.norm [I x5_1, I (wr (x7 + 1))]))) (
ret (.exit 0 [I x5])))) [I 0, I 0]) fun vs =>
uI .i64 vs fun x5_2 r_6 =>
nl r_6 (
ret (.ret [I x5_2]))))))

/-- countermand/countermandref29.Once -/
def f_ref29_Once (D : HV → List HV → M HV) (args : List HV) : M HV :=
fin (
uL args fun x0 r =>
nl r (
bnd (f_ref29_Idles D [.sl x0]) fun r_1 =>
asA r_1 fun x8l =>
gd (Nat.beq x8l.length 48) (
gd (Nat.ble (0 + x8l.length) (List.replicate 48 (HV.bool false)).length) (
blk 0 (
loopD (fun vs_1 =>
uL vs_1 fun x3 r_2 =>
uI .i64 r_2 fun x11 r_3 =>
nl r_3 (
cond (decide (x11 < (x0.len : Int))) (
blk 1 (
ix x0 x11 4 fun x14b x14o =>
ldN x14b x14o 4 fun x15l =>
uI .i64 x15l fun x15c0 r_4 =>
uI .i64 r_4 fun x15c1 r_5 =>
uI .i64 r_5 fun x15c2 r_6 =>
uI .i64 r_6 fun x15c3 r_7 =>
nl r_7 (
gd (decide (0 ≤ x11)) (gd (decide (x11 < (48 : Int))) (
gx (putN (List.replicate 48 (HV.bool false)) 0 x8l) (0 + x11.toNat * 1) fun v => asB v fun x18 =>
cond x18 (
ret (.exit 1 [.sl x3])) (
jn (
cond (x15c0 == 3) (
ret (.norm [.bool true])) (
ret (.norm [.bool (x15c0 == 20)]))) fun vs_3 =>
uB vs_3 fun x26 r_8 =>
nl r_8 (
jn (
cond x26 (
bnd (f_ref29_Ahead D [.sl x0, I x15c1]) fun r_9 =>
asI .i64 r_9 fun x30 =>
ret (.norm [.agg [I x15c0, I x30, I x15c2, I x15c3]])) (
ret (.norm [.agg [I x15c0, I x15c1, I x15c2, I x15c3]]))) fun vs_4 =>
uA vs_4 fun y6 r_10 =>
uI .i64 y6 fun y6c0 r_11 =>
uI .i64 r_11 fun y6c1 r_12 =>
uI .i64 r_12 fun y6c2 r_13 =>
uI .i64 r_13 fun y6c3 r_14 =>
nl r_14 (
nl r_10 (
apd x3 4 32 1 [I y6c0, I y6c1, I y6c2, I y6c3] fun x35 =>
ret (.norm [.sl x35]))))))))) fun vs_2 =>
uL vs_2 fun x3_1 r_15 =>
nl r_15 (
ret (.norm [.sl x3_1, I (wr (x11 + 1))]))) (
ret (.exit 0 [.sl x3])))) [.sl (⟨none, 0, 0, none⟩), I 0]) fun vs =>
uL vs fun x3_2 r_16 =>
nl r_16 (
ret (.ret [.sl x3_2]))))))

/-- countermand/countermandref29.Trim, what it calls of itself told -/
def x_ref29_Trim (D : HV → List HV → M HV) (g : List HV → M HV) (args : List HV) : M HV :=
fin (
uL args fun x0 r =>
nl r (
bnd (f_ref29_Once D [.sl x0]) fun r_1 =>
asSl r_1 fun x5 =>
cond ((x5.len : Int) == (x0.len : Int)) (
ret (.ret [.sl x5])) (
bnd (g [.sl x5]) fun r_2 =>
asSl r_2 fun x13 =>
ret (.ret [.sl x13]))))

/-- countermand/countermandref29.Trim, so many levels deep -/
def l_ref29_Trim (D : HV → List HV → M HV) : Nat → List HV → M HV
  | 0 => fun _ => stk
  | k + 1 => x_ref29_Trim D (l_ref29_Trim D k)
abbrev f_ref29_Trim (D : HV → List HV → M HV) : List HV → M HV := l_ref29_Trim D 100

/-- countermand/countermandref23.sum -/
def f_ref23_sum (D : HV → List HV → M HV) (args : List HV) : M HV :=
fin (
uI .i64 args fun x0 r =>
uI .i64 r fun x1 r_1 =>
nl r_1 (
ret (.ret [I (wr (IntKind.wrap .u64 ((IntKind.wrap .u64 x0) + (IntKind.wrap .u64 x1))))])))

/-- countermand/countermandref23.Plain -/
def f_ref23_Plain (D : HV → List HV → M HV) (args : List HV) : M HV :=
fin (
uA args fun x0l r =>
uI .i64 x0l fun x0c0 r_1 =>
uI .i64 r_1 fun x0c1 r_2 =>
uI .i64 r_2 fun x0c2 r_3 =>
uI .i64 r_3 fun x0c3 r_4 =>
nl r_4 (
uI .i64 r fun x1 r_5 =>
uA r_5 fun x2l r_6 =>
uI .i64 x2l fun x2c0 r_7 =>
uI .i64 r_7 fun x2c1 r_8 =>
uI .i64 r_8 fun x2c2 r_9 =>
uI .i64 r_9 fun x2c3 r_10 =>
nl r_10 (
nl r_6 (
blk 0 (
cond (x0c0 == 1) (
gd (decide (0 ≤ x0c1)) (gd (decide (x0c1 < (4 : Int))) (
gd (decide (0 + x0c1.toNat * 1 < (([I x2c0, I x2c1, I x2c2, I x2c3]) : List HV).length)) (
ret (.norm [.agg (List.set ([I x2c0, I x2c1, I x2c2, I x2c3]) (0 + x0c1.toNat * 1) (I x0c2))]))))) (
cond (x0c0 == 2) (
gd (decide (0 ≤ x0c1)) (gd (decide (x0c1 < (4 : Int))) (
gx [I x2c0, I x2c1, I x2c2, I x2c3] (0 + x0c1.toNat * 1) fun v => asI .i64 v fun x27 =>
gd (decide (0 ≤ x0c2)) (gd (decide (x0c2 < (4 : Int))) (
gx [I x2c0, I x2c1, I x2c2, I x2c3] (0 + x0c2.toNat * 1) fun v_1 => asI .i64 v_1 fun x31 =>
bnd (f_ref23_sum D [I x27, I x31]) fun r_11 =>
asI .i64 r_11 fun x32 =>
gd (decide (0 ≤ x0c1)) (gd (decide (x0c1 < (4 : Int))) (
gd (decide (0 + x0c1.toNat * 1 < (([I x2c0, I x2c1, I x2c2, I x2c3]) : List HV).length)) (
ret (.norm [.agg (List.set ([I x2c0, I x2c1, I x2c2, I x2c3]) (0 + x0c1.toNat * 1) (I x32))]))))))))) (
cond (x0c0 == 3) (
jn (
cond (x0c3 == 2) (
ret (.norm [.bool true])) (
cond (x0c3 == 0) (
gd (decide (0 ≤ x0c2)) (gd (decide (x0c2 < (4 : Int))) (
gx [I x2c0, I x2c1, I x2c2, I x2c3] (0 + x0c2.toNat * 1) fun v_2 => asI .i64 v_2 fun x47 =>
cond (x47 == 0) (
ret (.norm [.bool true])) (
cond (x0c3 == 1) (
gd (decide (0 ≤ x0c2)) (gd (decide (x0c2 < (4 : Int))) (
gx [I x2c0, I x2c1, I x2c2, I x2c3] (0 + x0c2.toNat * 1) fun v_3 => asI .i64 v_3 fun x59 =>
ret (.norm [.bool (x59 != 0)])))) (
ret (.norm [.bool false])))))) (
cond (x0c3 == 1) (
gd (decide (0 ≤ x0c2)) (gd (decide (x0c2 < (4 : Int))) (
gx [I x2c0, I x2c1, I x2c2, I x2c3] (0 + x0c2.toNat * 1) fun v_4 => asI .i64 v_4 fun x59_1 =>
ret (.norm [.bool (x59_1 != 0)])))) (
ret (.norm [.bool false]))))) fun vs_1 =>
uB vs_1 fun x62 r_12 =>
nl r_12 (
cond x62 (
ret (.ret [I x0c1, .agg [I x2c0, I x2c1, I x2c2, I x2c3], .bool true])) (
ret (.norm [.agg [I x2c0, I x2c1, I x2c2, I x2c3]])))) (
ret (.ret [I x1, .agg [I x2c0, I x2c1, I x2c2, I x2c3], .bool false]))))) fun vs =>
uA vs fun y5 r_13 =>
nl r_13 (
gxN y5 0 4 fun x68l =>
uI .i64 x68l fun x68c0 r_14 =>
uI .i64 r_14 fun x68c1 r_15 =>
uI .i64 r_15 fun x68c2 r_16 =>
uI .i64 r_16 fun x68c3 r_17 =>
nl r_17 (
ret (.ret [I (wr (x1 + 1)), .agg [I x68c0, I x68c1, I x68c2, I x68c3], .bool true])))))))

/-- countermand/countermandref23.deed -/
def f_ref23_deed (D : HV → List HV → M HV) (args : List HV) : M HV :=
fin (
uA args fun x0l r =>
uI .i64 x0l fun x0c0 r_1 =>
uI .i64 r_1 fun x0c1 r_2 =>
uI .i64 r_2 fun x0c2 r_3 =>
uI .i64 r_3 fun x0c3 r_4 =>
nl r_4 (
uA r fun x1l r_5 =>
uI .i64 x1l fun x1c0 r_6 =>
uI .i64 r_6 fun x1c1 r_7 =>
uI .i64 r_7 fun x1c2 r_8 =>
uI .i64 r_8 fun x1c3 r_9 =>
nl r_9 (
nl r_5 (
cond (x0c0 == 6) (
ret (.ret [.agg [I 0, I x0c2, I 0, .int .u8 0], .bool true, .bool true])) (
cond (x0c0 == 7) (
gd (decide (0 ≤ x0c2)) (gd (decide (x0c2 < (4 : Int))) (
gx [I x1c0, I x1c1, I x1c2, I x1c3] (0 + x0c2.toNat * 1) fun v => asI .i64 v fun x21 =>
ret (.ret [.agg [I 1, I x0c1, I x21, .int .u8 0], .bool true, .bool false])))) (
cond (x0c0 == 8) (
ret (.ret [.agg [I 2, I x0c2, I x0c3, .int .u8 0], .bool true, .bool true])) (
cond (x0c0 == 9) (
gd (decide (0 ≤ x0c3)) (gd (decide (x0c3 < (4 : Int))) (
gx [I x1c0, I x1c1, I x1c2, I x1c3] (0 + x0c3.toNat * 1) fun v_1 => asI .i64 v_1 fun x39 =>
ret (.ret [.agg [I 3, I x0c1, I x0c2, .int .u8 (IntKind.wrap .u8 x39)], .bool true, .bool false])))) (
cond (x0c0 == 10) (
ret (.ret [.agg [I 4, I x0c1, I 0, .int .u8 0], .bool true, .bool false])) (
cond (x0c0 == 11) (
ret (.ret [.agg [I 5, I x0c1, I 0, .int .u8 0], .bool true, .bool false])) (
cond (x0c0 == 12) (
ret (.ret [.agg [I 6, I x0c1, I x0c2, .int .u8 0], .bool true, .bool false])) (
cond (x0c0 == 13) (
ret (.ret [.agg [I 7, I x0c1, I x0c2, .int .u8 0], .bool true, .bool false])) (
cond (x0c0 == 14) (
ret (.ret [.agg [I 8, I x0c2, I 0, .int .u8 0], .bool true, .bool true])) (
ret (.ret [.agg [I 0, I 0, I 0, .int .u8 0], .bool false, .bool false]))))))))))))))

/-- countermand/countermandref09.At -/
def f_ref09_At (D : HV → List HV → M HV) (args : List HV) : M HV :=
fin (
uA args fun x0l r =>
uB x0l fun x0c0 r_1 =>
uS r_1 fun x0c1 r_2 =>
nl r_2 (
uI .i64 r fun x1 r_3 =>
nl r_3 (
blk 0 (
loopD (fun vs_1 =>
uI .i64 vs_1 fun x5 r_4 =>
nl r_4 (
cond (decide (x5 < (x0c1.size : Int))) (
cond (x5 == x1) (
gd (decide (0 ≤ x5)) (gd (decide (x5 < (x0c1.size : Int))) (
ret (.ret [I (wr ((x0c1.data[x5.toNat]?.getD 0).toNat : Int))])))) (
ret (.norm [I (wr (x5 + 1))]))) (
ret (.exit 0 [])))) [I 0]) fun vs =>
nl vs (
ret (.ret [I (-1)])))))

/-- countermand/countermandref14.Is -/
def f_ref14_Is (D : HV → List HV → M HV) (args : List HV) : M HV :=
fin (
uI .i64 args fun x0 r =>
nl r (
jn (
cond (decide (x0 ≥ 0)) (
ret (.norm [.bool (decide (x0 ≤ 5))])) (
ret (.norm [.bool false]))) fun vs =>
uB vs fun x2 r_1 =>
nl r_1 (
ret (.ret [.bool x2]))))

/-- (*countermand/countermandref14.Sheet).put -/
def f_ref14_Sheet_put (D : HV → List HV → M HV) (args : List HV) : M HV :=
fin (
uP args fun x0 r =>
uI .i64 r fun x1 r_1 =>
uA r_1 fun x2l r_2 =>
uB x2l fun x2c0 r_3 =>
uS r_3 fun x2c1 r_4 =>
nl r_4 (
nl r_2 (
mP x0 fun x8b x8o =>
gd (decide (0 ≤ x1)) (gd (decide (x1 < (6 : Int))) (
ldN x8b (x8o + 12 + x1.toNat * 2) 2 fun x11l =>
uB x11l fun x11c0 r_5 =>
uS r_5 fun x11c1 r_6 =>
nl r_6 (
cond (!(cond (x11c0 == x2c0) (cond (x11c1.toList == x2c1.toList) true false) false)) (
mP x0 fun x17b x17o =>
gd (decide (0 ≤ x1)) (gd (decide (x1 < (6 : Int))) (
stN x17b (x17o + 12 + x1.toNat * 2) [.bool x2c0, .str x2c1] (
mP x0 fun x22b x22o =>
gd (decide (0 ≤ x1)) (gd (decide (x1 < (6 : Int))) (
stC x22b (x22o + 24 + x1.toNat * 1) (.bool true) (
ret (.ret [])))))))) (
ret (.ret []))))))))

/-- countermand/countermandref09.Put -/
def f_ref09_Put (D : HV → List HV → M HV) (args : List HV) : M HV :=
fin (
uA args fun x0l r =>
uB x0l fun x0c0 r_1 =>
uS r_1 fun x0c1 r_2 =>
nl r_2 (
uI .i64 r fun x1 r_3 =>
uI .u8 r_3 fun x2 r_4 =>
nl r_4 (
jn (
cond (decide (x1 < 0)) (
ret (.norm [.bool true])) (
ret (.norm [.bool (decide (x1 > 31))]))) fun vs =>
uB vs fun x15 r_5 =>
nl r_5 (
cond x15 (
ret (.ret [.agg [.bool x0c0, .str x0c1]])) (
blk 0 (
loopD (fun vs_2 =>
uS vs_2 fun x7 r_6 =>
uI .i64 r_6 fun x8 r_7 =>
nl r_7 (
jn (
cond (decide (x8 < (x0c1.size : Int))) (
ret (.norm [.bool true])) (
ret (.norm [.bool (decide (x8 ≤ x1))]))) fun vs_3 =>
uB vs_3 fun x26 r_8 =>
nl r_8 (
cond x26 (
bnd (f_ref09_At D [.agg [.bool x0c0, .str x0c1], I x8]) fun r_9 =>
asI .i64 r_9 fun x31 =>
jn (
cond (x8 == x1) (
ret (.norm [I (wr x2)])) (
ret (.norm [I (bif decide (0 > x31) then 0 else x31)]))) fun vs_4 =>
uI .i64 vs_4 fun x9 r_10 =>
nl r_10 (
gd (decide (x7.size + (strB [IntKind.wrap .u8 x9]).size ≤ 9223372036854775807)) (
ret (.norm [.str (x7 ++ (strB [IntKind.wrap .u8 x9])), I (wr (x8 + 1))])))) (
ret (.exit 0 [.str x7]))))) [.str (ByteArray.mk #[]), I 0]) fun vs_1 =>
uS vs_1 fun x7_1 r_11 =>
nl r_11 (
ret (.ret [.agg [.bool true, .str x7_1]])))))))

/-- (*countermand/countermandref14.Sheet).Write -/
def f_ref14_Sheet_Write (D : HV → List HV → M HV) (args : List HV) : M HV :=
fin (
uP args fun x0 r =>
uI .i64 r fun x1 r_1 =>
uI .i64 r_1 fun x2 r_2 =>
uI .u8 r_2 fun x3 r_3 =>
nl r_3 (
bnd (f_ref14_Is D [I x1]) fun r_4 =>
asB r_4 fun x10 =>
jn (
cond x10 (
mP x0 fun x15b x15o =>
gd (decide (0 ≤ x1)) (gd (decide (x1 < (6 : Int))) (
ldN x15b (x15o + 12 + x1.toNat * 2) 2 fun x18l =>
uB x18l fun x18c0 r_5 =>
uS r_5 fun x18c1 r_6 =>
nl r_6 (
bnd (f_ref09_Put D [.agg [.bool x18c0, .str x18c1], I x2, .int .u8 x3]) fun r_7 =>
asA r_7 fun x21l => uB x21l fun x21c0 r_8 =>
uS r_8 fun x21c1 r_9 =>
nl r_9 (
bnd (f_ref14_Sheet_put D [.ptr x0, I x1, .agg [.bool x21c0, .str x21c1]]) fun r_10 =>
asT r_10 fun x22l => nl x22l (
ret (.norm []))))))) (
ret (.norm []))) fun vs =>
nl vs (
bnd (f_ref14_Is D [I x1]) fun r_11 =>
asB r_11 fun x24 =>
ret (.ret [.bool x24]))))

/-- (*countermand/countermandref14.Sheet).Create -/
def f_ref14_Sheet_Create (D : HV → List HV → M HV) (args : List HV) : M HV :=
fin (
uP args fun x0 r =>
uI .i64 r fun x1 r_1 =>
nl r_1 (
bnd (f_ref14_Is D [I x1]) fun r_2 =>
asB r_2 fun x6 =>
jn (
cond x6 (
mP x0 fun x11b x11o =>
gd (decide (0 ≤ x1)) (gd (decide (x1 < (6 : Int))) (
ldC x11b (x11o + 12 + x1.toNat * 2 + 1) fun v => asS v fun x15 =>
bnd (f_ref14_Sheet_put D [.ptr x0, I x1, .agg [.bool true, .str x15]]) fun r_3 =>
asT r_3 fun x17l => nl x17l (
ret (.norm []))))) (
ret (.norm []))) fun vs =>
nl vs (
bnd (f_ref14_Is D [I x1]) fun r_4 =>
asB r_4 fun x19 =>
ret (.ret [.bool x19]))))

/-- (*countermand/countermandref14.Sheet).Remove -/
def f_ref14_Sheet_Remove (D : HV → List HV → M HV) (args : List HV) : M HV :=
fin (
uP args fun x0 r =>
uI .i64 r fun x1 r_1 =>
nl r_1 (
bnd (f_ref14_Is D [I x1]) fun r_2 =>
asB r_2 fun x6 =>
jn (
cond x6 (
bnd (f_ref14_Sheet_put D [.ptr x0, I x1, .agg [.bool false, .str (ByteArray.mk #[])]]) fun r_3 =>
asT r_3 fun x10l => nl x10l (
ret (.norm []))) (
ret (.norm []))) fun vs =>
nl vs (
bnd (f_ref14_Is D [I x1]) fun r_4 =>
asB r_4 fun x12 =>
ret (.ret [.bool x12]))))

/-- (*countermand/countermandref14.Sheet).Rename -/
def f_ref14_Sheet_Rename (D : HV → List HV → M HV) (args : List HV) : M HV :=
fin (
uP args fun x0 r =>
uI .i64 r fun x1 r_1 =>
uI .i64 r_1 fun x2 r_2 =>
nl r_2 (
jn (
bnd (f_ref14_Is D [I x1]) fun r_3 =>
asB r_3 fun x8 =>
cond (!x8) (
ret (.norm [.bool true])) (
bnd (f_ref14_Is D [I x2]) fun r_4 =>
asB r_4 fun x12 =>
ret (.norm [.bool (!x12)]))) fun vs =>
uB vs fun x14 r_5 =>
nl r_5 (
cond x14 (
ret (.ret [.bool false])) (
jn (
mP x0 fun x17b x17o =>
gd (decide (0 ≤ x1)) (gd (decide (x1 < (6 : Int))) (
ldC x17b (x17o + 12 + x1.toNat * 2) fun v => asB v fun x21 =>
cond x21 (
ret (.norm [.bool (x1 != x2)])) (
ret (.norm [.bool false]))))) fun vs_1 =>
uB vs_1 fun x26 r_6 =>
nl r_6 (
jn (
cond x26 (
mP x0 fun x31b x31o =>
gd (decide (0 ≤ x1)) (gd (decide (x1 < (6 : Int))) (
ldN x31b (x31o + 12 + x1.toNat * 2) 2 fun x34l =>
uB x34l fun x34c0 r_7 =>
uS r_7 fun x34c1 r_8 =>
nl r_8 (
bnd (f_ref14_Sheet_put D [.ptr x0, I x2, .agg [.bool x34c0, .str x34c1]]) fun r_9 =>
asT r_9 fun x35l => nl x35l (
bnd (f_ref14_Sheet_put D [.ptr x0, I x1, .agg [.bool false, .str (ByteArray.mk #[])]]) fun r_10 =>
asT r_10 fun x39l => nl x39l (
ret (.norm []))))))) (
ret (.norm []))) fun vs_2 =>
nl vs_2 (
ret (.ret [.bool true])))))))

/-- countermand/countermandref09.Cut -/
def f_ref09_Cut (D : HV → List HV → M HV) (args : List HV) : M HV :=
fin (
uA args fun x0l r =>
uB x0l fun x0c0 r_1 =>
uS r_1 fun x0c1 r_2 =>
nl r_2 (
uI .i64 r fun x1 r_3 =>
nl r_3 (
jn (
cond (!x0c0) (
ret (.norm [.bool true])) (
cond (decide (x1 < 0)) (
ret (.norm [.bool true])) (
ret (.norm [.bool (decide (x1 > 32))])))) fun vs =>
uB vs fun x17 r_4 =>
nl r_4 (
cond x17 (
ret (.ret [.agg [.bool x0c0, .str x0c1]])) (
blk 0 (
loopD (fun vs_2 =>
uS vs_2 fun x5 r_5 =>
uI .i64 r_5 fun x6 r_6 =>
nl r_6 (
cond (decide (x6 < x1)) (
bnd (f_ref09_At D [.agg [.bool x0c0, .str x0c1], I x6]) fun r_7 =>
asI .i64 r_7 fun x27 =>
gd (decide (x5.size + (strB [IntKind.wrap .u8 (bif decide (0 > x27) then 0 else x27)]).size ≤ 9223372036854775807)) (
ret (.norm [.str (x5 ++ (strB [IntKind.wrap .u8 (bif decide (0 > x27) then 0 else x27)])), I (wr (x6 + 1))]))) (
ret (.exit 0 [.str x5])))) [.str (ByteArray.mk #[]), I 0]) fun vs_1 =>
uS vs_1 fun x5_1 r_8 =>
nl r_8 (
ret (.ret [.agg [.bool true, .str x5_1]])))))))

/-- (*countermand/countermandref14.Sheet).Cut -/
def f_ref14_Sheet_Cut (D : HV → List HV → M HV) (args : List HV) : M HV :=
fin (
uP args fun x0 r =>
uI .i64 r fun x1 r_1 =>
uI .i64 r_1 fun x2 r_2 =>
nl r_2 (
bnd (f_ref14_Is D [I x1]) fun r_3 =>
asB r_3 fun x8 =>
jn (
cond x8 (
mP x0 fun x13b x13o =>
gd (decide (0 ≤ x1)) (gd (decide (x1 < (6 : Int))) (
ldN x13b (x13o + 12 + x1.toNat * 2) 2 fun x16l =>
uB x16l fun x16c0 r_4 =>
uS r_4 fun x16c1 r_5 =>
nl r_5 (
bnd (f_ref09_Cut D [.agg [.bool x16c0, .str x16c1], I x2]) fun r_6 =>
asA r_6 fun x18l => uB x18l fun x18c0 r_7 =>
uS r_7 fun x18c1 r_8 =>
nl r_8 (
bnd (f_ref14_Sheet_put D [.ptr x0, I x1, .agg [.bool x18c0, .str x18c1]]) fun r_9 =>
asT r_9 fun x19l => nl x19l (
ret (.norm []))))))) (
ret (.norm []))) fun vs =>
nl vs (
bnd (f_ref14_Is D [I x1]) fun r_10 =>
asB r_10 fun x21 =>
ret (.ret [.bool x21]))))

/-- countermand/countermandref20.Do -/
def f_ref20_Do (D : HV → List HV → M HV) (args : List HV) : M HV :=
fin (
uA args fun x0l r =>
uA r fun x1l r_1 =>
uS x1l fun x1c0 r_2 =>
uS r_2 fun x1c1 r_3 =>
uS r_3 fun x1c2 r_4 =>
nl r_4 (
uL r_1 fun x2 r_5 =>
nl r_5 (
gxN x0l 8 12 fun x13l =>
gxN x0l 8 12 fun x15l =>
gd (Nat.beq x13l.length 12) (gd (Nat.beq x15l.length 12) (nw (putN (putN [.bool false, .str (ByteArray.mk #[]), .bool false, .str (ByteArray.mk #[]), .bool false, .str (ByteArray.mk #[]), .bool false, .str (ByteArray.mk #[]), .bool false, .str (ByteArray.mk #[]), .bool false, .str (ByteArray.mk #[]), .bool false, .str (ByteArray.mk #[]), .bool false, .str (ByteArray.mk #[]), .bool false, .str (ByteArray.mk #[]), .bool false, .str (ByteArray.mk #[]), .bool false, .str (ByteArray.mk #[]), .bool false, .str (ByteArray.mk #[]), .bool false, .bool false, .bool false, .bool false, .bool false, .bool false] 0 x13l) 12 x15l) fun b17 =>
blk 0 (
loopD (fun vs_1 =>
uI .i64 vs_1 fun x9 r_6 =>
uI .i64 r_6 fun x20 r_7 =>
uA r_7 fun y3 r_8 =>
nl r_8 (
cond (decide (x20 < (x2.len : Int))) (
blk 1 (
ix x2 x20 4 fun x22b x22o =>
ldN x22b x22o 4 fun x23l =>
uI .i64 x23l fun x23c0 r_9 =>
uI .i64 r_9 fun x23c1 r_10 =>
uI .i64 r_10 fun x23c2 r_11 =>
uI .u8 r_11 fun x23c3 r_12 =>
nl r_12 (
cond (x23c0 == 0) (
gd (decide (0 ≤ x23c1)) (gd (decide (x23c1 < (8 : Int))) (
gx y3 (0 + x23c1.toNat * 1) fun v => asI .i64 v fun x32 =>
ret (.norm [I x32, .agg y3])))) (
cond (x23c0 == 1) (
gd (decide (0 ≤ x23c1)) (gd (decide (x23c1 < (8 : Int))) (
gd (decide (0 + x23c1.toNat * 1 < y3.length)) (
ret (.norm [I 0, .agg (List.set y3 (0 + x23c1.toNat * 1) (I x23c2))]))))) (
cond (x23c0 == 2) (
gd (decide (0 ≤ x23c1)) (gd (decide (x23c1 < (6 : Int))) (
ldN b17 (12 + x23c1.toNat * 2) 2 fun x49l =>
uB x49l fun x49c0 r_13 =>
uS r_13 fun x49c1 r_14 =>
nl r_14 (
bnd (f_ref09_At D [.agg [.bool x49c0, .str x49c1], I x23c2]) fun r_15 =>
asI .i64 r_15 fun x52 =>
ret (.norm [I x52, .agg y3]))))) (
cond (x23c0 == 3) (
bnd (f_ref14_Sheet_Write D [.ptr (some (b17, 0)), I x23c1, I x23c2, .int .u8 x23c3]) fun r_16 =>
asB r_16 fun x62 =>
ret (.norm [I 0, .agg y3])) (
cond (x23c0 == 4) (
bnd (f_ref14_Sheet_Create D [.ptr (some (b17, 0)), I x23c1]) fun r_17 =>
asB r_17 fun x68 =>
ret (.norm [I 0, .agg y3])) (
cond (x23c0 == 5) (
bnd (f_ref14_Sheet_Remove D [.ptr (some (b17, 0)), I x23c1]) fun r_18 =>
asB r_18 fun x74 =>
ret (.norm [I 0, .agg y3])) (
cond (x23c0 == 6) (
bnd (f_ref14_Sheet_Rename D [.ptr (some (b17, 0)), I x23c1, I x23c2]) fun r_19 =>
asB r_19 fun x82 =>
ret (.norm [I 0, .agg y3])) (
cond (x23c0 == 7) (
bnd (f_ref14_Sheet_Cut D [.ptr (some (b17, 0)), I x23c1, I x23c2]) fun r_20 =>
asB r_20 fun x90 =>
ret (.norm [I 0, .agg y3])) (
cond (x23c0 == 8) (
gd (decide (0 ≤ x23c1)) (gd (decide (x23c1 < (3 : Int))) (
gx y3 (20 + x23c1.toNat * 1) fun v_1 => asI .i64 v_1 fun x97 =>
gd (decide (0 ≤ x23c1)) (gd (decide (x23c1 < (3 : Int))) (
gx [.str x1c0, .str x1c1, .str x1c2] (0 + x23c1.toNat * 1) fun v_2 => asS v_2 fun x101 =>
cond (decide (x97 < (x101.size : Int))) (
gd (decide (0 ≤ x23c1)) (gd (decide (x23c1 < (3 : Int))) (
gx [.str x1c0, .str x1c1, .str x1c2] (0 + x23c1.toNat * 1) fun v_3 => asS v_3 fun x107 =>
gd (decide (0 ≤ x23c1)) (gd (decide (x23c1 < (3 : Int))) (
gx y3 (20 + x23c1.toNat * 1) fun v_4 => asI .i64 v_4 fun x112 =>
gd (decide (0 ≤ x112)) (gd (decide (x112 < (x107.size : Int))) (
gd (decide (0 ≤ x23c1)) (gd (decide (x23c1 < (3 : Int))) (
gx y3 (20 + x23c1.toNat * 1) fun v_5 => asI .i64 v_5 fun x119 =>
gd (decide (0 ≤ x23c1)) (gd (decide (x23c1 < (3 : Int))) (
gd (decide (20 + x23c1.toNat * 1 < y3.length)) (
ret (.norm [I (wr ((x107.data[x112.toNat]?.getD 0).toNat : Int)), .agg (List.set y3 (20 + x23c1.toNat * 1) (I (wr (x119 + 1))))]))))))))))))) (
ret (.norm [I (-1), .agg y3]))))))) (
ret (.norm [I 0, .agg y3])))))))))))) fun vs_2 =>
uI .i64 vs_2 fun x9_1 r_21 =>
uA r_21 fun y3_1 r_22 =>
nl r_22 (
ret (.norm [I x9_1, I (wr (x20 + 1)), .agg y3_1]))) (
ret (.exit 0 [I x9, .agg y3])))) [I 0, I 0, .agg x0l]) fun vs =>
uI .i64 vs fun x9_2 r_23 =>
uA r_23 fun y3_2 r_24 =>
nl r_24 (
ldN b17 12 12 fun x127l =>
gd (Nat.beq x127l.length 12) (
gd (Nat.ble (8 + x127l.length) y3_2.length) (
gxN (putN y3_2 8 x127l) 0 23 fun x130l =>
gd (Nat.beq x130l.length 23) (
gd (Nat.ble (0 + x130l.length) (([I 0, I 0, I 0, I 0, I 0, I 0, I 0, I 0, .bool false, .str (ByteArray.mk #[]), .bool false, .str (ByteArray.mk #[]), .bool false, .str (ByteArray.mk #[]), .bool false, .str (ByteArray.mk #[]), .bool false, .str (ByteArray.mk #[]), .bool false, .str (ByteArray.mk #[]), I 0, I 0, I 0]) : List HV).length) (
gxN (putN [I 0, I 0, I 0, I 0, I 0, I 0, I 0, I 0, .bool false, .str (ByteArray.mk #[]), .bool false, .str (ByteArray.mk #[]), .bool false, .str (ByteArray.mk #[]), .bool false, .str (ByteArray.mk #[]), .bool false, .str (ByteArray.mk #[]), .bool false, .str (ByteArray.mk #[]), I 0, I 0, I 0] 0 x130l) 0 23 fun z1l =>
ret (.ret [I x9_2, .agg z1l])))))))))))

/-- countermand/countermandref23.Block -/
def f_ref23_Block (D : HV → List HV → M HV) (args : List HV) : M HV :=
fin (
uA args fun x0l r =>
uL r fun x1 r_1 =>
uI .i64 r_1 fun x2 r_2 =>
uA r_2 fun x3l r_3 =>
uI .i64 x3l fun x3c0 r_4 =>
uI .i64 r_4 fun x3c1 r_5 =>
uI .i64 r_5 fun x3c2 r_6 =>
uI .i64 r_6 fun x3c3 r_7 =>
nl r_7 (
nl r_3 (
gxN x0l 0 33 fun x24l =>
gd (Nat.beq x24l.length 33) (gd (Nat.beq (putN (putN (putN [I 0, I 0, I 0, I 0, I 0, I 0, I 0, I 0, .bool false, .str (ByteArray.mk #[]), .bool false, .str (ByteArray.mk #[]), .bool false, .str (ByteArray.mk #[]), .bool false, .str (ByteArray.mk #[]), .bool false, .str (ByteArray.mk #[]), .bool false, .str (ByteArray.mk #[]), I 0, I 0, I 0, .str (ByteArray.mk #[]), .str (ByteArray.mk #[]), .str (ByteArray.mk #[]), .str (ByteArray.mk #[]), .str (ByteArray.mk #[]), .str (ByteArray.mk #[]), I 0, I 0, I 0, I 0, .str (ByteArray.mk #[]), .str (ByteArray.mk #[]), .str (ByteArray.mk #[]), I 0, I 0, I 0, I 0, I 0] 0 x24l) 36 [I x3c0, I x3c1, I x3c2, I x3c3]) 40 [I (wr (x2 + 1))]).length 41) (
gd (Nat.ble (0 + (putN (putN (putN [I 0, I 0, I 0, I 0, I 0, I 0, I 0, I 0, .bool false, .str (ByteArray.mk #[]), .bool false, .str (ByteArray.mk #[]), .bool false, .str (ByteArray.mk #[]), .bool false, .str (ByteArray.mk #[]), .bool false, .str (ByteArray.mk #[]), .bool false, .str (ByteArray.mk #[]), I 0, I 0, I 0, .str (ByteArray.mk #[]), .str (ByteArray.mk #[]), .str (ByteArray.mk #[]), .str (ByteArray.mk #[]), .str (ByteArray.mk #[]), .str (ByteArray.mk #[]), I 0, I 0, I 0, I 0, .str (ByteArray.mk #[]), .str (ByteArray.mk #[]), .str (ByteArray.mk #[]), I 0, I 0, I 0, I 0, I 0] 0 x24l) 36 [I x3c0, I x3c1, I x3c2, I x3c3]) 40 [I (wr (x2 + 1))]).length) (([I 0, I 0, I 0, I 0, I 0, I 0, I 0, I 0, .bool false, .str (ByteArray.mk #[]), .bool false, .str (ByteArray.mk #[]), .bool false, .str (ByteArray.mk #[]), .bool false, .str (ByteArray.mk #[]), .bool false, .str (ByteArray.mk #[]), .bool false, .str (ByteArray.mk #[]), I 0, I 0, I 0, .str (ByteArray.mk #[]), .str (ByteArray.mk #[]), .str (ByteArray.mk #[]), .str (ByteArray.mk #[]), .str (ByteArray.mk #[]), .str (ByteArray.mk #[]), I 0, I 0, I 0, I 0, .str (ByteArray.mk #[]), .str (ByteArray.mk #[]), .str (ByteArray.mk #[]), I 0, I 0, I 0, I 0, I 0]) : List HV).length) (
blk 0 (
loopD (fun vs_1 =>
uL vs_1 fun x13 r_8 =>
uA r_8 fun y12 r_9 =>
nl r_9 (
gx y12 40 fun v => asI .i64 v fun x31 =>
ix x1 x31 4 fun x32b x32o =>
ldC x32b x32o fun v_1 => asI .i64 v_1 fun x34 =>
cond (x34 != 5) (
blk 1 (
gx y12 40 fun v_2 => asI .i64 v_2 fun x38 =>
ix x1 x38 4 fun x39b x39o =>
ldN x39b x39o 4 fun x40l =>
uI .i64 x40l fun x40c0 r_10 =>
uI .i64 r_10 fun x40c1 r_11 =>
uI .i64 r_11 fun x40c2 r_12 =>
uI .i64 r_12 fun x40c3 r_13 =>
nl r_13 (
gx y12 40 fun v_3 => asI .i64 v_3 fun x44 =>
gxN y12 36 4 fun x46l =>
uI .i64 x46l fun x46c0 r_14 =>
uI .i64 r_14 fun x46c1 r_15 =>
uI .i64 r_15 fun x46c2 r_16 =>
uI .i64 r_16 fun x46c3 r_17 =>
nl r_17 (
bnd (f_ref23_Plain D [.agg [I x40c0, I x40c1, I x40c2, I x40c3], I x44, .agg [I x46c0, I x46c1, I x46c2, I x46c3]]) fun r_18 =>
asT r_18 fun x47l => uI .i64 x47l fun x47t0 r_19 =>
uA r_19 fun x47t1l r_20 =>
uI .i64 x47t1l fun x47t1c0 r_21 =>
uI .i64 r_21 fun x47t1c1 r_22 =>
uI .i64 r_22 fun x47t1c2 r_23 =>
uI .i64 r_23 fun x47t1c3 r_24 =>
nl r_24 (
uB r_20 fun x47t2 r_25 =>
nl r_25 (
gxN y12 36 4 fun x54l =>
uI .i64 x54l fun x54c0 r_26 =>
uI .i64 r_26 fun x54c1 r_27 =>
uI .i64 r_27 fun x54c2 r_28 =>
uI .i64 r_28 fun x54c3 r_29 =>
nl r_29 (
bnd (f_ref23_deed D [.agg [I x40c0, I x40c1, I x40c2, I x40c3], .agg [I x54c0, I x54c1, I x54c2, I x54c3]]) fun r_30 =>
asT r_30 fun x55l => uA x55l fun x55t0l r_31 =>
uI .i64 x55t0l fun x55t0c0 r_32 =>
uI .i64 r_32 fun x55t0c1 r_33 =>
uI .i64 r_33 fun x55t0c2 r_34 =>
uI .u8 r_34 fun x55t0c3 r_35 =>
nl r_35 (
uB r_31 fun x55t1 r_36 =>
uB r_36 fun x55t2 r_37 =>
nl r_37 (
blk 2 (
cond x47t2 (
gd (decide (40 < y12.length)) (
gd (Nat.ble (36 + (([I x47t1c0, I x47t1c1, I x47t1c2, I x47t1c3]) : List HV).length) (List.set y12 40 (I x47t0)).length) (
ret (.exit 1 [.sl x13, .agg (putN (List.set y12 40 (I x47t0)) 36 [I x47t1c0, I x47t1c1, I x47t1c2, I x47t1c3])])))) (
cond x55t1 (
gxN y12 0 23 fun x70l =>
gxN y12 23 3 fun x73l =>
uS x73l fun x73c0 r_38 =>
uS r_38 fun x73c1 r_39 =>
uS r_39 fun x73c2 r_40 =>
nl r_40 (
nw [I x55t0c0, I x55t0c1, I x55t0c2, .int .u8 x55t0c3] fun b75 =>
bnd (f_ref20_Do D [.agg x70l, .agg [.str x73c0, .str x73c1, .str x73c2], .sl (⟨some (b75, 0), 1, 1, none⟩)]) fun r_41 =>
asT r_41 fun x76l => uI .i64 x76l fun x76t0 r_42 =>
uA r_42 fun x76t1l r_43 =>
nl r_43 (
gd (Nat.beq x76t1l.length 23) (
gd (Nat.ble (0 + x76t1l.length) y12.length) (
jn (
cond (x40c0 == 14) (
ret (.norm [.bool (decide (x76t0 < 0))])) (
ret (.norm [.bool false]))) fun vs_4 =>
uB vs_4 fun x87 r_44 =>
nl r_44 (
cond x87 (
gxN x0l 0 33 fun x88l =>
gd (Nat.beq x88l.length 33) (
gd (Nat.ble (0 + x88l.length) (([I 0, I 0, I 0, I 0, I 0, I 0, I 0, I 0, .bool false, .str (ByteArray.mk #[]), .bool false, .str (ByteArray.mk #[]), .bool false, .str (ByteArray.mk #[]), .bool false, .str (ByteArray.mk #[]), .bool false, .str (ByteArray.mk #[]), .bool false, .str (ByteArray.mk #[]), I 0, I 0, I 0, .str (ByteArray.mk #[]), .str (ByteArray.mk #[]), .str (ByteArray.mk #[]), .str (ByteArray.mk #[]), .str (ByteArray.mk #[]), .str (ByteArray.mk #[]), I 0, I 0, I 0, I 0]) : List HV).length) (
gxN (putN [I 0, I 0, I 0, I 0, I 0, I 0, I 0, I 0, .bool false, .str (ByteArray.mk #[]), .bool false, .str (ByteArray.mk #[]), .bool false, .str (ByteArray.mk #[]), .bool false, .str (ByteArray.mk #[]), .bool false, .str (ByteArray.mk #[]), .bool false, .str (ByteArray.mk #[]), I 0, I 0, I 0, .str (ByteArray.mk #[]), .str (ByteArray.mk #[]), .str (ByteArray.mk #[]), .str (ByteArray.mk #[]), .str (ByteArray.mk #[]), .str (ByteArray.mk #[]), I 0, I 0, I 0, I 0] 0 x88l) 0 33 fun z0l =>
ret (.ret [.agg z0l, I x2, .agg [I x3c0, I x3c1, I x3c2, I x3c3], .bool false])))) (
cond x55t2 (
gd (decide (0 ≤ x40c1)) (gd (decide (x40c1 < (4 : Int))) (
gd (decide (36 + x40c1.toNat * 1 < (putN y12 0 x76t1l).length)) (
ret (.norm [.sl x13, .agg (List.set (putN y12 0 x76t1l) (36 + x40c1.toNat * 1) (I x76t0))]))))) (
ret (.norm [.sl x13, .agg (putN y12 0 x76t1l)]))))))))) (
cond (x40c0 == 15) (
gd (decide (0 ≤ x40c1)) (gd (decide (x40c1 < (3 : Int))) (
gx y12 (26 + x40c1.toNat * 1) fun v_4 => asS v_4 fun x108 =>
gd (decide (0 ≤ x40c2)) (gd (decide (x40c2 < (4 : Int))) (
gx y12 (36 + x40c2.toNat * 1) fun v_5 => asI .i64 v_5 fun x113 =>
gd (decide (x108.size + (strB [IntKind.wrap .u8 x113]).size ≤ 9223372036854775807)) (
gd (decide (0 ≤ x40c1)) (gd (decide (x40c1 < (3 : Int))) (
gd (decide (26 + x40c1.toNat * 1 < y12.length)) (
ret (.norm [.sl x13, .agg (List.set y12 (26 + x40c1.toNat * 1) (.str (x108 ++ (strB [IntKind.wrap .u8 x113]))))])))))))))) (
cond (x40c0 == 16) (
gd (decide (0 ≤ x40c1)) (gd (decide (x40c1 < (3 : Int))) (
gx y12 (33 + x40c1.toNat * 1) fun v_6 => asS v_6 fun x131 =>
gd (decide (x131.size + (strB [IntKind.wrap .u8 x40c2]).size ≤ 9223372036854775807)) (
gd (decide (0 ≤ x40c1)) (gd (decide (x40c1 < (3 : Int))) (
gd (decide (33 + x40c1.toNat * 1 < y12.length)) (
ret (.norm [.sl x13, .agg (List.set y12 (33 + x40c1.toNat * 1) (.str (x131 ++ (strB [IntKind.wrap .u8 x40c2]))))])))))))) (
cond (x40c0 == 18) (
gd (decide (0 ≤ x40c1)) (gd (decide (x40c1 < (4 : Int))) (
gx y12 (29 + x40c1.toNat * 1) fun v_7 => asI .i64 v_7 fun x151 =>
bnd (f_ref23_sum D [I x151, I x40c2]) fun r_45 =>
asI .i64 r_45 fun x154 =>
gd (decide (0 ≤ x40c1)) (gd (decide (x40c1 < (4 : Int))) (
gd (decide (29 + x40c1.toNat * 1 < y12.length)) (
ret (.norm [.sl x13, .agg (List.set y12 (29 + x40c1.toNat * 1) (I x154))]))))))) (
cond (x40c0 == 20) (
gxN y12 0 41 fun x162l =>
gd (Nat.beq x162l.length 41) (
gd (Nat.ble (0 + x162l.length) (([I 0, I 0, I 0, I 0, I 0, I 0, I 0, I 0, .bool false, .str (ByteArray.mk #[]), .bool false, .str (ByteArray.mk #[]), .bool false, .str (ByteArray.mk #[]), .bool false, .str (ByteArray.mk #[]), .bool false, .str (ByteArray.mk #[]), .bool false, .str (ByteArray.mk #[]), I 0, I 0, I 0, .str (ByteArray.mk #[]), .str (ByteArray.mk #[]), .str (ByteArray.mk #[]), .str (ByteArray.mk #[]), .str (ByteArray.mk #[]), .str (ByteArray.mk #[]), I 0, I 0, I 0, I 0, .str (ByteArray.mk #[]), .str (ByteArray.mk #[]), .str (ByteArray.mk #[]), I 0, I 0, I 0, I 0, I 0]) : List HV).length) (
gd (decide (40 < (putN [I 0, I 0, I 0, I 0, I 0, I 0, I 0, I 0, .bool false, .str (ByteArray.mk #[]), .bool false, .str (ByteArray.mk #[]), .bool false, .str (ByteArray.mk #[]), .bool false, .str (ByteArray.mk #[]), .bool false, .str (ByteArray.mk #[]), .bool false, .str (ByteArray.mk #[]), I 0, I 0, I 0, .str (ByteArray.mk #[]), .str (ByteArray.mk #[]), .str (ByteArray.mk #[]), .str (ByteArray.mk #[]), .str (ByteArray.mk #[]), .str (ByteArray.mk #[]), I 0, I 0, I 0, I 0, .str (ByteArray.mk #[]), .str (ByteArray.mk #[]), .str (ByteArray.mk #[]), I 0, I 0, I 0, I 0, I 0] 0 x162l).length)) (
gxN (List.set (putN [I 0, I 0, I 0, I 0, I 0, I 0, I 0, I 0, .bool false, .str (ByteArray.mk #[]), .bool false, .str (ByteArray.mk #[]), .bool false, .str (ByteArray.mk #[]), .bool false, .str (ByteArray.mk #[]), .bool false, .str (ByteArray.mk #[]), .bool false, .str (ByteArray.mk #[]), I 0, I 0, I 0, .str (ByteArray.mk #[]), .str (ByteArray.mk #[]), .str (ByteArray.mk #[]), .str (ByteArray.mk #[]), .str (ByteArray.mk #[]), .str (ByteArray.mk #[]), I 0, I 0, I 0, I 0, .str (ByteArray.mk #[]), .str (ByteArray.mk #[]), .str (ByteArray.mk #[]), I 0, I 0, I 0, I 0, I 0] 0 x162l) 40 (I x40c1)) 0 41 fun x167l =>
gd (Nat.beq x167l.length 41) (apd x13 41 448 1 (putN [I 0, I 0, I 0, I 0, I 0, I 0, I 0, I 0, .bool false, .str (ByteArray.mk #[]), .bool false, .str (ByteArray.mk #[]), .bool false, .str (ByteArray.mk #[]), .bool false, .str (ByteArray.mk #[]), .bool false, .str (ByteArray.mk #[]), .bool false, .str (ByteArray.mk #[]), I 0, I 0, I 0, .str (ByteArray.mk #[]), .str (ByteArray.mk #[]), .str (ByteArray.mk #[]), .str (ByteArray.mk #[]), .str (ByteArray.mk #[]), .str (ByteArray.mk #[]), I 0, I 0, I 0, I 0, .str (ByteArray.mk #[]), .str (ByteArray.mk #[]), .str (ByteArray.mk #[]), I 0, I 0, I 0, I 0, I 0] 0 x167l) fun x169 =>
ret (.norm [.sl x169, .agg y12])))))) (
cond (x40c0 == 19) (
cond ((x13.len : Int) == 0) (
gxN x0l 0 33 fun x177l =>
gd (Nat.beq x177l.length 33) (
gd (Nat.ble (0 + x177l.length) (([I 0, I 0, I 0, I 0, I 0, I 0, I 0, I 0, .bool false, .str (ByteArray.mk #[]), .bool false, .str (ByteArray.mk #[]), .bool false, .str (ByteArray.mk #[]), .bool false, .str (ByteArray.mk #[]), .bool false, .str (ByteArray.mk #[]), .bool false, .str (ByteArray.mk #[]), I 0, I 0, I 0, .str (ByteArray.mk #[]), .str (ByteArray.mk #[]), .str (ByteArray.mk #[]), .str (ByteArray.mk #[]), .str (ByteArray.mk #[]), .str (ByteArray.mk #[]), I 0, I 0, I 0, I 0]) : List HV).length) (
gxN (putN [I 0, I 0, I 0, I 0, I 0, I 0, I 0, I 0, .bool false, .str (ByteArray.mk #[]), .bool false, .str (ByteArray.mk #[]), .bool false, .str (ByteArray.mk #[]), .bool false, .str (ByteArray.mk #[]), .bool false, .str (ByteArray.mk #[]), .bool false, .str (ByteArray.mk #[]), I 0, I 0, I 0, .str (ByteArray.mk #[]), .str (ByteArray.mk #[]), .str (ByteArray.mk #[]), .str (ByteArray.mk #[]), .str (ByteArray.mk #[]), .str (ByteArray.mk #[]), I 0, I 0, I 0, I 0] 0 x177l) 0 33 fun z0l_1 =>
ret (.ret [.agg z0l_1, I x2, .agg [I x3c0, I x3c1, I x3c2, I x3c3], .bool false])))) (
ix x13 (wr ((x13.len : Int) - 1)) 41 fun x184b x184o =>
ldN x184b x184o 41 fun x185l =>
gd (Nat.beq x185l.length 41) (
gd (Nat.ble (0 + x185l.length) y12.length) (
gd (decide (0 ≤ 0)) (gd (decide (0 ≤ wr ((x13.len : Int) - 1))) (gd (decide (wr ((x13.len : Int) - 1) ≤ (x13.cap : Int))) (gd (decide ((x13.cap : Int) ≤ (x13.cap : Int))) (gd (slOk x13.opn 41 (decide (0 < (x13.cap : Int)))) (
ret (.exit 1 [.sl (⟨bif decide ((x13.cap : Int) = 0) then x13.p else x13.p.map (fun q => (q.1, q.2 + (0 : Int).toNat * 41)), (wr ((x13.len : Int) - 1) - 0 : Int).toNat, ((x13.cap : Int) - 0 : Int).toNat, x13.opn⟩), .agg (putN y12 0 x185l)])))))))))) (
cond (x40c0 == 21) (
ret (.norm [.sl (⟨none, 0, 0, none⟩), .agg y12])) (
ret (.norm [.sl x13, .agg y12])))))))))) fun vs_3 =>
uL vs_3 fun x13_1 r_46 =>
uA r_46 fun y12_1 r_47 =>
nl r_47 (
gx y12_1 40 fun v_8 => asI .i64 v_8 fun x196 =>
gd (decide (40 < y12_1.length)) (
ret (.norm [.sl x13_1, .agg (List.set y12_1 40 (I (wr (x196 + 1))))]))))))))))) fun vs_2 =>
uL vs_2 fun x13_2 r_48 =>
uA r_48 fun y12_2 r_49 =>
nl r_49 (
ret (.norm [.sl x13_2, .agg y12_2]))) (
ret (.exit 0 [.agg y12])))) [.sl (⟨none, 0, 0, none⟩), .agg (putN [I 0, I 0, I 0, I 0, I 0, I 0, I 0, I 0, .bool false, .str (ByteArray.mk #[]), .bool false, .str (ByteArray.mk #[]), .bool false, .str (ByteArray.mk #[]), .bool false, .str (ByteArray.mk #[]), .bool false, .str (ByteArray.mk #[]), .bool false, .str (ByteArray.mk #[]), I 0, I 0, I 0, .str (ByteArray.mk #[]), .str (ByteArray.mk #[]), .str (ByteArray.mk #[]), .str (ByteArray.mk #[]), .str (ByteArray.mk #[]), .str (ByteArray.mk #[]), I 0, I 0, I 0, I 0, .str (ByteArray.mk #[]), .str (ByteArray.mk #[]), .str (ByteArray.mk #[]), I 0, I 0, I 0, I 0, I 0] 0 (putN (putN (putN [I 0, I 0, I 0, I 0, I 0, I 0, I 0, I 0, .bool false, .str (ByteArray.mk #[]), .bool false, .str (ByteArray.mk #[]), .bool false, .str (ByteArray.mk #[]), .bool false, .str (ByteArray.mk #[]), .bool false, .str (ByteArray.mk #[]), .bool false, .str (ByteArray.mk #[]), I 0, I 0, I 0, .str (ByteArray.mk #[]), .str (ByteArray.mk #[]), .str (ByteArray.mk #[]), .str (ByteArray.mk #[]), .str (ByteArray.mk #[]), .str (ByteArray.mk #[]), I 0, I 0, I 0, I 0, .str (ByteArray.mk #[]), .str (ByteArray.mk #[]), .str (ByteArray.mk #[]), I 0, I 0, I 0, I 0, I 0] 0 x24l) 36 [I x3c0, I x3c1, I x3c2, I x3c3]) 40 [I (wr (x2 + 1))]))]) fun vs =>
uA vs fun y12_3 r_50 =>
nl r_50 (
blk 3 (
loopD (fun vs_6 =>
uI .i64 vs_6 fun x199 r_51 =>
uA r_51 fun y12_4 r_52 =>
nl r_52 (
cond (decide (x199 < 3)) (
gd (decide (0 ≤ x199)) (gd (decide (x199 < (3 : Int))) (
gx y12_4 (26 + x199.toNat * 1) fun v_9 => asS v_9 fun x207 =>
gd (decide (0 ≤ x199)) (gd (decide (x199 < (3 : Int))) (
gx y12_4 (33 + x199.toNat * 1) fun v_10 => asS v_10 fun x211 =>
gd (decide (x207.size + x211.size ≤ 9223372036854775807)) (
gd (decide (0 ≤ x199)) (gd (decide (x199 < (3 : Int))) (
gd (decide (26 + x199.toNat * 1 < y12_4.length)) (
ret (.norm [I (wr (x199 + 1)), .agg (List.set y12_4 (26 + x199.toNat * 1) (.str (x207 ++ x211)))])))))))))) (
ret (.exit 3 [.agg y12_4])))) [I 0, .agg y12_3]) fun vs_5 =>
uA vs_5 fun y12_5 r_53 =>
nl r_53 (
gxN y12_5 0 33 fun x218l =>
gx y12_5 40 fun v_11 => asI .i64 v_11 fun x220 =>
gxN y12_5 36 4 fun x223l =>
uI .i64 x223l fun x223c0 r_54 =>
uI .i64 r_54 fun x223c1 r_55 =>
uI .i64 r_55 fun x223c2 r_56 =>
uI .i64 r_56 fun x223c3 r_57 =>
nl r_57 (
gd (Nat.beq x218l.length 33) (
gd (Nat.ble (0 + x218l.length) (([I 0, I 0, I 0, I 0, I 0, I 0, I 0, I 0, .bool false, .str (ByteArray.mk #[]), .bool false, .str (ByteArray.mk #[]), .bool false, .str (ByteArray.mk #[]), .bool false, .str (ByteArray.mk #[]), .bool false, .str (ByteArray.mk #[]), .bool false, .str (ByteArray.mk #[]), I 0, I 0, I 0, .str (ByteArray.mk #[]), .str (ByteArray.mk #[]), .str (ByteArray.mk #[]), .str (ByteArray.mk #[]), .str (ByteArray.mk #[]), .str (ByteArray.mk #[]), I 0, I 0, I 0, I 0]) : List HV).length) (
gxN (putN [I 0, I 0, I 0, I 0, I 0, I 0, I 0, I 0, .bool false, .str (ByteArray.mk #[]), .bool false, .str (ByteArray.mk #[]), .bool false, .str (ByteArray.mk #[]), .bool false, .str (ByteArray.mk #[]), .bool false, .str (ByteArray.mk #[]), .bool false, .str (ByteArray.mk #[]), I 0, I 0, I 0, .str (ByteArray.mk #[]), .str (ByteArray.mk #[]), .str (ByteArray.mk #[]), .str (ByteArray.mk #[]), .str (ByteArray.mk #[]), .str (ByteArray.mk #[]), I 0, I 0, I 0, I 0] 0 x218l) 0 33 fun z0l_2 =>
ret (.ret [.agg z0l_2, I (wr (x220 + 1)), .agg [I x223c0, I x223c1, I x223c2, I x223c3], .bool true]))))))))))))

/-- countermand/trim.Idle$1 -/
def f_trim_Idle_1 (D : HV → List HV → M HV) (args : List HV) : M HV :=
fin (
uc args fun x0 r =>
uP r fun x1 r_1 =>
nl r_1 (
mP x1 fun x5b x5o =>
ldC x5b x5o fun v => asSl v fun x5 =>
bnd (f_trim_idle D [.sl x5]) fun r_2 =>
asSl r_2 fun x6 =>
blk 0 (
loopD (fun vs_1 =>
uI .i64 vs_1 fun x8 r_3 =>
nl r_3 (
cond (decide (x8 < (x6.len : Int))) (
ix x6 x8 1 fun x11b x11o =>
ldC x11b x11o fun v_1 => asB v_1 fun x12 =>
jn (
cond x12 (
bnd (D x0 [I x8]) fun r_4 =>
asB r_4 fun x17 =>
ret (.norm [.bool (!x17)])) (
ret (.norm [.bool false]))) fun vs_2 =>
uB vs_2 fun x19 r_5 =>
nl r_5 (
cond x19 (
ret (.ret [])) (
ret (.norm [I (wr (x8 + 1))])))) (
ret (.exit 0 [])))) [I 0]) fun vs =>
nl vs (
ret (.ret []))))

/-- countermand/trim.Idle -/
def f_trim_Idle (D : HV → List HV → M HV) (args : List HV) : M HV :=
fin (
uL args fun x0 r =>
nl r (
nw [.sl x0] fun b1 =>
ret (.ret [.func n_trim_Idle_1 [] [.ptr (some (b1, 0))]])))

/-- countermand/countermandref29.Idle -/
def f_ref29_Idle (D : HV → List HV → M HV) (args : List HV) : M HV :=
fin (
uL args fun x0 r =>
uI .i64 r fun x1 r_1 =>
nl r_1 (
bnd (f_ref29_Idles D [.sl x0]) fun r_2 =>
asA r_2 fun x6l =>
gd (decide (0 ≤ x1)) (gd (decide (x1 < (48 : Int))) (
gx x6l (x1.toNat * 1) fun v => asB v fun x8 =>
ret (.ret [.bool x8])))))

/-- a round of countermand/countermandlaw29.TrimIdle -/
def r0_law29_TrimIdle (D : HV → List HV → M HV) (l : Nat) (vs : List (Nat × HV)) (args : List HV) : M Leaf :=
gdS [6] vs fun vs' =>
uP vs' fun x6 r =>
nl r (
uI .i64 args fun x20 r_1 =>
nl r_1 (
busyL l (
mP x6 fun qb qo =>
stC qb qo (.bool false) (
ret (.ret [])))))

/-- a round of countermand/countermandlaw29.TrimIdle -/
def r1_law29_TrimIdle (D : HV → List HV → M HV) (l : Nat) (vs : List (Nat × HV)) (args : List HV) : M Leaf :=
gdS [3, 5, 6, 7, 8] vs fun vs' =>
uP vs' fun x3 r =>
uP r fun x5 r_1 =>
uP r_1 fun x6 r_2 =>
uP r_2 fun x7 r_3 =>
uP r_3 fun x8 r_4 =>
nl r_4 (
uI .i64 args fun x27 r_5 =>
nl r_5 (
busyL l (
jn (
mP x8 fun x29b x29o =>
ldC x29b x29o fun v => asI .i64 v fun x29 =>
cond (decide (x27 ≤ x29)) (
ret (.norm [.bool true])) (
mP x3 fun x33b x33o =>
ldC x33b x33o fun v_1 => asSl v_1 fun x33 =>
cond (decide (x27 ≥ (x33.len : Int))) (
ret (.norm [.bool true])) (
mP x3 fun x38b x38o =>
ldC x38b x38o fun v_2 => asSl v_2 fun x38 =>
bnd (f_ref29_Idle D [.sl x38, I x27]) fun r_6 =>
asB r_6 fun x40 =>
ret (.norm [.bool (!x40)])))) fun vs_1 =>
uB vs_1 fun x42 r_7 =>
nl r_7 (
cond x42 (
mP x6 fun qb qo =>
stC qb qo (.bool false) (
ret (.ret []))) (
mP x8 fun qb_1 qo_1 =>
stC qb_1 qo_1 (I x27) (
mP x7 fun x44b x44o =>
ldC x44b x44o fun v_3 => asI .i64 v_3 fun x44 =>
mP x7 fun qb_2 qo_2 =>
stC qb_2 qo_2 (I (wr (x44 + 1))) (
mP x7 fun x46b x46o =>
ldC x46b x46o fun v_4 => asI .i64 v_4 fun x46 =>
mP x5 fun x47b x47o =>
ldC x47b x47o fun v_5 => asI .i64 v_5 fun x47 =>
cond (x46 == x47) (
ret (.exit 2 [])) (
ret (.norm [])))))))))

/-- a round of countermand/countermandlaw29.TrimKeeps -/
def r0_law29_TrimKeeps (D : HV → List HV → M HV) (l : Nat) (vs : List (Nat × HV)) (args : List HV) : M Leaf :=
gdS [2] vs fun vs' =>
uP vs' fun x2 r =>
nl r (
uI .i64 args fun x44 r_1 =>
nl r_1 (
busyL l (
mP x2 fun qb qo =>
stC qb qo (.bool false) (
ret (.ret [])))))

/-- countermand/scope.end -/
def f_scope_end (D : HV → List HV → M HV) (args : List HV) : M HV :=
fin (
uL args fun x0 r =>
uI .i64 r fun x1 r_1 =>
nl r_1 (
blk 0 (
loopD (fun vs_1 =>
uI .i64 vs_1 fun x1_1 r_2 =>
nl r_2 (
ix x0 x1_1 4 fun x7b x7o =>
ldC x7b x7o fun v => asI .i64 v fun x9 =>
cond (x9 != 5) (
ret (.norm [I (wr (x1_1 + 1))])) (
ret (.exit 0 [I x1_1])))) [I x1]) fun vs =>
uI .i64 vs fun x1_2 r_3 =>
nl r_3 (
ret (.ret [I x1_2]))))

/-- (countermand/scope.Things).with -/
def f_scope_Things_with (D : HV → List HV → M HV) (args : List HV) : M HV :=
fin (
uA args fun x0l r =>
uI .u8 x0l fun x0c0 r_1 =>
uI .u8 r_1 fun x0c1 r_2 =>
uI .u8 r_2 fun x0c2 r_3 =>
nl r_3 (
uI .i64 r fun x1 r_4 =>
uI .i64 r_4 fun x2 r_5 =>
nl r_5 (
gd (decide (0 ≤ x1)) (gd (decide (x1 < (3 : Int))) (
gx [.int .u8 x0c0, .int .u8 x0c1, .int .u8 x0c2] (0 + x1.toNat * 1) fun v => asI .u8 v fun x9 =>
gd (decide (0 ≤ x2)) (
gd (decide (0 ≤ x1)) (gd (decide (x1 < (3 : Int))) (
gd (decide (0 + x1.toNat * 1 < (([.int .u8 x0c0, .int .u8 x0c1, .int .u8 x0c2]) : List HV).length)) (
gxN (List.set ([.int .u8 x0c0, .int .u8 x0c1, .int .u8 x0c2]) (0 + x1.toNat * 1) (.int .u8 (IntKind.wrap .u8 ((BitVec.ofInt 8 x9 ||| BitVec.ofInt 8 (IntKind.wrap .u8 (1 * 2 ^ (min x2.toNat 8)))).toNat : Int)))) 0 3 fun x14l =>
uI .u8 x14l fun x14c0 r_6 =>
uI .u8 r_6 fun x14c1 r_7 =>
uI .u8 r_7 fun x14c2 r_8 =>
nl r_8 (
ret (.ret [.agg [.int .u8 x14c0, .int .u8 x14c1, .int .u8 x14c2]])))))))))))

/-- (*countermand/scope.Scope).read -/
def f_scope_Scope_read (D : HV → List HV → M HV) (args : List HV) : M HV :=
fin (
uP args fun x0 r =>
uI .i64 r fun x1 r_1 =>
uI .i64 r_1 fun x2 r_2 =>
nl r_2 (
mP x0 fun x8b x8o =>
ldN x8b x8o 3 fun x10l =>
uI .u8 x10l fun x10c0 r_3 =>
uI .u8 r_3 fun x10c1 r_4 =>
uI .u8 r_4 fun x10c2 r_5 =>
nl r_5 (
bnd (f_scope_Things_with D [.agg [.int .u8 x10c0, .int .u8 x10c1, .int .u8 x10c2], I x1, I x2]) fun r_6 =>
asA r_6 fun x13l => uI .u8 x13l fun x13c0 r_7 =>
uI .u8 r_7 fun x13c1 r_8 =>
uI .u8 r_8 fun x13c2 r_9 =>
nl r_9 (
mP x0 fun x14b x14o =>
stN x14b x14o [.int .u8 x13c0, .int .u8 x13c1, .int .u8 x13c2] (
ret (.ret []))))))

/-- (*countermand/scope.Scope).both -/
def f_scope_Scope_both (D : HV → List HV → M HV) (args : List HV) : M HV :=
fin (
uP args fun x0 r =>
uI .i64 r fun x1 r_1 =>
uI .i64 r_1 fun x2 r_2 =>
nl r_2 (
bnd (f_scope_Scope_read D [.ptr x0, I x1, I x2]) fun r_3 =>
asT r_3 fun x9l => nl x9l (
mP x0 fun x12b x12o =>
ldN x12b (x12o + 3) 3 fun x14l =>
uI .u8 x14l fun x14c0 r_4 =>
uI .u8 r_4 fun x14c1 r_5 =>
uI .u8 r_5 fun x14c2 r_6 =>
nl r_6 (
bnd (f_scope_Things_with D [.agg [.int .u8 x14c0, .int .u8 x14c1, .int .u8 x14c2], I x1, I x2]) fun r_7 =>
asA r_7 fun x17l => uI .u8 x17l fun x17c0 r_8 =>
uI .u8 r_8 fun x17c1 r_9 =>
uI .u8 r_9 fun x17c2 r_10 =>
nl r_10 (
mP x0 fun x18b x18o =>
stN x18b (x18o + 3) [.int .u8 x17c0, .int .u8 x17c1, .int .u8 x17c2] (
ret (.ret [])))))))

/-- (*countermand/scope.Scope).take -/
def f_scope_Scope_take (D : HV → List HV → M HV) (args : List HV) : M HV :=
fin (
uP args fun x0 r =>
uA r fun x1l r_1 =>
uI .i64 x1l fun x1c0 r_2 =>
uI .i64 r_2 fun x1c1 r_3 =>
uI .i64 r_3 fun x1c2 r_4 =>
uI .i64 r_4 fun x1c3 r_5 =>
nl r_5 (
nl r_1 (
cond (x1c0 == 6) (
bnd (f_scope_Scope_read D [.ptr x0, I 0, I x1c2]) fun r_6 =>
asT r_6 fun x11l => nl x11l (
ret (.ret []))) (
cond (x1c0 == 7) (
mP x0 fun x16b x16o =>
ldN x16b (x16o + 3) 3 fun x18l =>
uI .u8 x18l fun x18c0 r_7 =>
uI .u8 r_7 fun x18c1 r_8 =>
uI .u8 r_8 fun x18c2 r_9 =>
nl r_9 (
bnd (f_scope_Things_with D [.agg [.int .u8 x18c0, .int .u8 x18c1, .int .u8 x18c2], I 0, I x1c1]) fun r_10 =>
asA r_10 fun x21l => uI .u8 x21l fun x21c0 r_11 =>
uI .u8 r_11 fun x21c1 r_12 =>
uI .u8 r_12 fun x21c2 r_13 =>
nl r_13 (
mP x0 fun x22b x22o =>
stN x22b (x22o + 3) [.int .u8 x21c0, .int .u8 x21c1, .int .u8 x21c2] (
ret (.ret []))))) (
cond (x1c0 == 8) (
bnd (f_scope_Scope_read D [.ptr x0, I 1, I x1c2]) fun r_14 =>
asT r_14 fun x29l => nl x29l (
ret (.ret []))) (
jn (
cond (x1c0 == 9) (
ret (.norm [.bool (x1c0 == 9)])) (
cond (x1c0 == 13) (
ret (.norm [.bool (x1c0 == 13)])) (
cond (x1c0 == 10) (
ret (.norm [.bool (x1c0 == 10)])) (
ret (.norm [.bool (x1c0 == 11)]))))) fun vs =>
uB vs fun x30 r_15 =>
nl r_15 (
cond x30 (
bnd (f_scope_Scope_both D [.ptr x0, I 1, I x1c1]) fun r_16 =>
asT r_16 fun x38l => nl x38l (
ret (.ret []))) (
cond (x1c0 == 12) (
bnd (f_scope_Scope_both D [.ptr x0, I 1, I x1c1]) fun r_17 =>
asT r_17 fun x44l => nl x44l (
bnd (f_scope_Scope_both D [.ptr x0, I 1, I x1c2]) fun r_18 =>
asT r_18 fun x48l => nl x48l (
ret (.ret [])))) (
cond (x1c0 == 14) (
bnd (f_scope_Scope_both D [.ptr x0, I 2, I x1c2]) fun r_19 =>
asT r_19 fun x54l => nl x54l (
mP x0 fun x56b x56o =>
stC x56b (x56o + 14) (.bool true) (
ret (.ret [])))) (
cond (x1c0 == 19) (
mP x0 fun x61b x61o =>
stC x61b (x61o + 14) (.bool true) (
ret (.ret []))) (
jn (
cond (x1c0 == 15) (
ret (.norm [.bool (x1c0 == 15)])) (
ret (.norm [.bool (x1c0 == 16)]))) fun vs_1 =>
uB vs_1 fun x63 r_20 =>
nl r_20 (
cond x63 (
mP x0 fun x69b x69o =>
gd (decide (0 ≤ x1c1)) (gd (decide (x1c1 < (3 : Int))) (
stC x69b (x69o + 6 + x1c1.toNat * 1) (.bool true) (
ret (.ret []))))) (
cond (x1c0 == 18) (
mP x0 fun x77b x77o =>
gd (decide (0 ≤ x1c1)) (gd (decide (x1c1 < (4 : Int))) (
stC x77b (x77o + 9 + x1c1.toNat * 1) (.bool true) (
ret (.ret []))))) (
cond (x1c0 == 21) (
mP x0 fun x83b x83o =>
stC x83b (x83o + 13) (.bool true) (
ret (.ret []))) (
ret (.ret []))))))))))))))))

/-- countermand/scope.Of -/
def f_scope_Of (D : HV → List HV → M HV) (args : List HV) : M HV :=
fin (
uL args fun x0 r =>
uI .i64 r fun x1 r_1 =>
nl r_1 (
nw [.sl x0] fun b2 =>
nw [.int .u8 0, .int .u8 0, .int .u8 0, .int .u8 0, .int .u8 0, .int .u8 0, .bool false, .bool false, .bool false, .bool false, .bool false, .bool false, .bool false, .bool false, .bool false] fun b6 =>
jn (
cond (decide (x1 < 0)) (
ret (.norm [.bool true])) (
ldC b2 0 fun v => asSl v fun x13 =>
cond (decide (x1 ≥ (x13.len : Int))) (
ret (.norm [.bool true])) (
ldC b2 0 fun v_1 => asSl v_1 fun x18 =>
ix x18 x1 4 fun x20b x20o =>
ldC x20b x20o fun v_2 => asI .i64 v_2 fun x22 =>
cond (x22 != 4) (
ret (.norm [.bool true])) (
ldC b2 0 fun v_3 => asSl v_3 fun x26 =>
bnd (f_bound_Reach D [.sl x26]) fun r_2 =>
asSl r_2 fun x27 =>
ret (.norm [.bool ((x27.len : Int) == 0)]))))) fun vs =>
uB vs fun x30 r_3 =>
nl r_3 (
cond x30 (
ldN b6 0 15 fun x31l =>
gd (Nat.beq x31l.length 15) (
gd (Nat.ble (0 + x31l.length) (([.int .u8 0, .int .u8 0, .int .u8 0, .int .u8 0, .int .u8 0, .int .u8 0, .bool false, .bool false, .bool false, .bool false, .bool false, .bool false, .bool false, .bool false, .bool false]) : List HV).length) (
gxN (putN [.int .u8 0, .int .u8 0, .int .u8 0, .int .u8 0, .int .u8 0, .int .u8 0, .bool false, .bool false, .bool false, .bool false, .bool false, .bool false, .bool false, .bool false, .bool false] 0 x31l) 0 15 fun z0l =>
ret (.ret [.agg z0l, .bool false])))) (
ldC b2 0 fun v_4 => asSl v_4 fun x32 =>
bnd (f_scope_end D [.sl x32, I x1]) fun r_4 =>
asI .i64 r_4 fun x34 =>
nw [I 0] fun b7 =>
stC b7 0 (I x34) (
ldC b2 0 fun v_5 => asSl v_5 fun x35 =>
bnd (f_bound_From D [.sl x35, I x1]) fun r_5 =>
blk 0 (
ny r_5 (nwL 82468377 [(2, .ptr (some (b2, 0))), (6, .ptr (some (b6, 0))), (7, .ptr (some (b7, 0)))] fun l =>
bnd (D r_5 [.yld l]) fun q =>
endL l (
ret (.norm []))
(onX 0 (ret (.exit 0 [])) noX) (
ret (.ret [.agg [.int .u8 0, .int .u8 0, .int .u8 0, .int .u8 0, .int .u8 0, .int .u8 0, .bool false, .bool false, .bool false, .bool false, .bool false, .bool false, .bool false, .bool false, .bool false], .bool false])))) fun vs_1 =>
nl vs_1 (
ldN b6 0 15 fun x47l =>
gd (Nat.beq x47l.length 15) (
gd (Nat.ble (0 + x47l.length) (([.int .u8 0, .int .u8 0, .int .u8 0, .int .u8 0, .int .u8 0, .int .u8 0, .bool false, .bool false, .bool false, .bool false, .bool false, .bool false, .bool false, .bool false, .bool false]) : List HV).length) (
gxN (putN [.int .u8 0, .int .u8 0, .int .u8 0, .int .u8 0, .int .u8 0, .int .u8 0, .bool false, .bool false, .bool false, .bool false, .bool false, .bool false, .bool false, .bool false, .bool false] 0 x47l) 0 15 fun z0l_1 =>
ret (.ret [.agg z0l_1, .bool true])))))))))

/-- a round of countermand/scope.Of -/
def r0_scope_Of (D : HV → List HV → M HV) (l : Nat) (vs : List (Nat × HV)) (args : List HV) : M Leaf :=
gdS [2, 6, 7] vs fun vs' =>
uP vs' fun x2 r =>
uP r fun x6 r_1 =>
uP r_1 fun x7 r_2 =>
nl r_2 (
uI .i64 args fun x38 r_3 =>
nl r_3 (
busyL l (
mP x7 fun x40b x40o =>
ldC x40b x40o fun v => asI .i64 v fun x40 =>
cond (decide (x38 ≥ x40)) (
ret (.exit 0 [])) (
mP x2 fun x42b x42o =>
ldC x42b x42o fun v_1 => asSl v_1 fun x42 =>
ix x42 x38 4 fun x44b x44o =>
ldN x44b x44o 4 fun x45l =>
uI .i64 x45l fun x45c0 r_4 =>
uI .i64 r_4 fun x45c1 r_5 =>
uI .i64 r_5 fun x45c2 r_6 =>
uI .i64 r_6 fun x45c3 r_7 =>
nl r_7 (
bnd (f_scope_Scope_take D [.ptr x6, .agg [I x45c0, I x45c1, I x45c2, I x45c3]]) fun r_8 =>
asT r_8 fun x46l => nl x46l (
ret (.norm [])))))))

/-- countermand/scope.All$1 -/
def f_scope_All_1 (D : HV → List HV → M HV) (args : List HV) : M HV :=
fin (
uc args fun x0 r =>
uP r fun x1 r_1 =>
nl r_1 (
mP x1 fun x6b x6o =>
ldC x6b x6o fun v => asSl v fun x6 =>
blk 0 (
loopD (fun vs_1 =>
uI .i64 vs_1 fun x8 r_2 =>
nl r_2 (
cond (decide (x8 < (x6.len : Int))) (
mP x1 fun x12b x12o =>
ldC x12b x12o fun v_1 => asSl v_1 fun x12 =>
bnd (f_scope_Of D [.sl x12, I x8]) fun r_3 =>
asT r_3 fun x14l => uA x14l fun x14t0l r_4 =>
uB r_4 fun x14t1 r_5 =>
nl r_5 (
gd (Nat.beq x14t0l.length 15) (
gd (Nat.ble (0 + x14t0l.length) (([.int .u8 0, .int .u8 0, .int .u8 0, .int .u8 0, .int .u8 0, .int .u8 0, .bool false, .bool false, .bool false, .bool false, .bool false, .bool false, .bool false, .bool false, .bool false]) : List HV).length) (
jn (
cond x14t1 (
gxN (putN [.int .u8 0, .int .u8 0, .int .u8 0, .int .u8 0, .int .u8 0, .int .u8 0, .bool false, .bool false, .bool false, .bool false, .bool false, .bool false, .bool false, .bool false, .bool false] 0 x14t0l) 0 15 fun x21l =>
bnd (D x0 [I x8, .agg x21l]) fun r_6 =>
asB r_6 fun x22 =>
ret (.norm [.bool (!x22)])) (
ret (.norm [.bool false]))) fun vs_2 =>
uB vs_2 fun x24 r_7 =>
nl r_7 (
cond x24 (
ret (.ret [])) (
ret (.norm [I (wr (x8 + 1))]))))))) (
ret (.exit 0 [])))) [I 0]) fun vs =>
nl vs (
ret (.ret []))))

/-- a round of countermand/countermandlaw29.TrimBound -/
def r0_law29_TrimBound (D : HV → List HV → M HV) (l : Nat) (vs : List (Nat × HV)) (args : List HV) : M Leaf :=
gdS [7, 8] vs fun vs' =>
uP vs' fun x7 r =>
uP r fun x8 r_1 =>
nl r_1 (
uI .i64 args fun x63 r_2 =>
uA r_2 fun x64l r_3 =>
nl r_3 (
gd (Nat.beq x64l.length 15) (
gd (Nat.ble (0 + x64l.length) (([.int .u8 0, .int .u8 0, .int .u8 0, .int .u8 0, .int .u8 0, .int .u8 0, .bool false, .bool false, .bool false, .bool false, .bool false, .bool false, .bool false, .bool false, .bool false]) : List HV).length) (
busyL l (
jn (
cond (decide (x63 ≥ 0)) (
mP x7 fun x69b x69o =>
ldC x69b x69o fun v => asSl v fun x69 =>
cond (decide (x63 < (x69.len : Int))) (
mP x7 fun x74b x74o =>
ldC x74b x74o fun v_1 => asSl v_1 fun x74 =>
ix x74 x63 1 fun x76b x76o =>
ldC x76b x76o fun v_2 => asB v_2 fun x77 =>
ret (.norm [.bool x77])) (
ret (.norm [.bool false]))) (
ret (.norm [.bool false]))) fun vs_1 =>
uB vs_1 fun x78 r_4 =>
nl r_4 (
cond x78 (
mP x8 fun x79b x79o =>
ldC x79b x79o fun v_3 => asSl v_3 fun x79 =>
gxN (putN [.int .u8 0, .int .u8 0, .int .u8 0, .int .u8 0, .int .u8 0, .int .u8 0, .bool false, .bool false, .bool false, .bool false, .bool false, .bool false, .bool false, .bool false, .bool false] 0 x64l) 0 15 fun x80l =>
gd (Nat.beq x80l.length 15) (apd x79 15 15 1 (putN [.int .u8 0, .int .u8 0, .int .u8 0, .int .u8 0, .int .u8 0, .int .u8 0, .bool false, .bool false, .bool false, .bool false, .bool false, .bool false, .bool false, .bool false, .bool false] 0 x80l) fun x82 =>
mP x8 fun qb qo =>
stC qb qo (.sl x82) (
ret (.norm [])))) (
ret (.norm []))))))))

/-- a round of countermand/countermandlaw29.TrimBound -/
def r1_law29_TrimBound (D : HV → List HV → M HV) (l : Nat) (vs : List (Nat × HV)) (args : List HV) : M Leaf :=
gdS [9] vs fun vs' =>
uP vs' fun x9 r =>
nl r (
uI .i64 args fun x85 r_1 =>
uA r_1 fun x86l r_2 =>
nl r_2 (
gd (Nat.beq x86l.length 15) (
gd (Nat.ble (0 + x86l.length) (([.int .u8 0, .int .u8 0, .int .u8 0, .int .u8 0, .int .u8 0, .int .u8 0, .bool false, .bool false, .bool false, .bool false, .bool false, .bool false, .bool false, .bool false, .bool false]) : List HV).length) (
busyL l (
mP x9 fun x87b x87o =>
ldC x87b x87o fun v => asSl v fun x87 =>
gxN (putN [.int .u8 0, .int .u8 0, .int .u8 0, .int .u8 0, .int .u8 0, .int .u8 0, .bool false, .bool false, .bool false, .bool false, .bool false, .bool false, .bool false, .bool false, .bool false] 0 x86l) 0 15 fun x88l =>
gd (Nat.beq x88l.length 15) (apd x87 15 15 1 (putN [.int .u8 0, .int .u8 0, .int .u8 0, .int .u8 0, .int .u8 0, .int .u8 0, .bool false, .bool false, .bool false, .bool false, .bool false, .bool false, .bool false, .bool false, .bool false] 0 x88l) fun x90 =>
mP x9 fun qb qo =>
stC qb qo (.sl x90) (
ret (.norm []))))))))

end Go.Proofs.Ytolchnaegifckaa.HS
