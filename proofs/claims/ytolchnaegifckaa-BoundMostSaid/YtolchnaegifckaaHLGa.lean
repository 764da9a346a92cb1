/- The texts of functions, printed out of the dump by hlgen2.py. Conditions: none (definitions). -/
import Derived.Test.YtolchnaegifckaaHLZa
namespace Go.Proofs.Ytolchnaegifckaa.HL
open Go
set_option maxRecDepth 100000
set_option linter.unusedVariables false

/-- countermand/code.spans -/
def f_code_spans (D : HV → List HV → M HV) (args : List HV) : M HV :=
fin (
uL args fun x0 r =>
nl r (
gd (decide (0 ≤ (x0.len : Int))) (gd (decide ((x0.len : Int) ≤ (x0.len : Int))) (gd (decide ((x0.len : Int).toNat * 8 ≤ room)) (
nw (repL (x0.len : Int).toNat [I 0]) fun b10 =>
blk 0 (
loopD (fun vs_1 =>
uI .i64 vs_1 fun x5 r_1 =>
uI .i64 r_1 fun x13 r_2 =>
nl r_2 (
cond (decide (x13 < (x0.len : Int))) (
blk 1 (
ix x0 x13 4 fun x16b x16o =>
ldN x16b x16o 4 fun x17l =>
uI .i64 x17l fun x17c0 r_3 =>
uI .i64 r_3 fun x17c1 r_4 =>
uI .i64 r_4 fun x17c2 r_5 =>
uI .i64 r_5 fun x17c3 r_6 =>
nl r_6 (
ix (⟨some (b10, 0), (x0.len : Int).toNat, (x0.len : Int).toNat, none⟩) x13 1 fun x21b x21o =>
stC x21b x21o (I x5) (
cond (x17c0 == 4) (
cond (decide (x5 ≥ 0)) (
ret (.ret [.sl (⟨none, 0, 0, none⟩), .bool false])) (
ret (.norm [I x13]))) (
cond (x17c0 == 5) (
cond (decide (x5 < 0)) (
ret (.ret [.sl (⟨none, 0, 0, none⟩), .bool false])) (
ret (.norm [I (-1)]))) (
ret (.norm [I x5])))))) fun vs_2 =>
uI .i64 vs_2 fun x5_1 r_7 =>
nl r_7 (
ret (.norm [I x5_1, I (wr (x13 + 1))]))) (
ret (.exit 0 [I x5])))) [I (-1), I 0]) fun vs =>
uI .i64 vs fun x5_2 r_8 =>
nl r_8 (
ret (.ret [.sl (⟨some (b10, 0), (x0.len : Int).toNat, (x0.len : Int).toNat, none⟩), .bool (decide (x5_2 < 0))])))))))

/-- countermand/code.in -/
def f_code_in (D : HV → List HV → M HV) (args : List HV) : M HV :=
fin (
uI .i64 args fun x0 r =>
uI .i64 r fun x1 r_1 =>
nl r_1 (
jn (
cond (decide (x0 ≥ 0)) (
ret (.norm [.bool (decide (x0 < x1))])) (
ret (.norm [.bool false]))) fun vs =>
uB vs fun x4 r_2 =>
nl r_2 (
ret (.ret [.bool x4]))))

/-- countermand/code.things -/
def f_code_things (D : HV → List HV → M HV) (args : List HV) : M HV :=
fin (
uA args fun x0l r =>
uI .i64 x0l fun x0c0 r_1 =>
uI .i64 r_1 fun x0c1 r_2 =>
uI .i64 r_2 fun x0c2 r_3 =>
uI .i64 r_3 fun x0c3 r_4 =>
nl r_4 (
nl r (
cond (x0c0 == 8) (
jn (
bnd (f_code_in D [I x0c1, I 4]) fun r_5 =>
asB r_5 fun x9 =>
cond x9 (
bnd (f_code_in D [I x0c2, I 6]) fun r_6 =>
asB r_6 fun x13 =>
cond x13 (
bnd (f_code_in D [I x0c3, I 32]) fun r_7 =>
asB r_7 fun x18 =>
ret (.norm [.bool x18])) (
ret (.norm [.bool false]))) (
ret (.norm [.bool false]))) fun vs =>
uB vs fun x2 r_8 =>
nl r_8 (
ret (.ret [.bool x2]))) (
cond (x0c0 == 9) (
jn (
bnd (f_code_in D [I x0c1, I 6]) fun r_9 =>
asB r_9 fun x24 =>
cond x24 (
bnd (f_code_in D [I x0c2, I 32]) fun r_10 =>
asB r_10 fun x28 =>
cond x28 (
bnd (f_code_in D [I x0c3, I 4]) fun r_11 =>
asB r_11 fun x33 =>
ret (.norm [.bool x33])) (
ret (.norm [.bool false]))) (
ret (.norm [.bool false]))) fun vs_1 =>
uB vs_1 fun x2_1 r_12 =>
nl r_12 (
ret (.ret [.bool x2_1]))) (
jn (
cond (x0c0 == 10) (
ret (.norm [.bool (x0c0 == 10)])) (
ret (.norm [.bool (x0c0 == 11)]))) fun vs_2 =>
uB vs_2 fun x35 r_13 =>
nl r_13 (
cond x35 (
jn (
bnd (f_code_in D [I x0c1, I 6]) fun r_14 =>
asB r_14 fun x40 =>
cond x40 (
cond (x0c2 == 0) (
ret (.norm [.bool (x0c3 == 0)])) (
ret (.norm [.bool false]))) (
ret (.norm [.bool false]))) fun vs_3 =>
uB vs_3 fun x2_2 r_15 =>
nl r_15 (
ret (.ret [.bool x2_2]))) (
cond (x0c0 == 12) (
jn (
bnd (f_code_in D [I x0c1, I 6]) fun r_16 =>
asB r_16 fun x55 =>
cond x55 (
bnd (f_code_in D [I x0c2, I 6]) fun r_17 =>
asB r_17 fun x59 =>
cond x59 (
cond (x0c1 != x0c2) (
ret (.norm [.bool (x0c3 == 0)])) (
ret (.norm [.bool false]))) (
ret (.norm [.bool false]))) (
ret (.norm [.bool false]))) fun vs_4 =>
uB vs_4 fun x2_3 r_18 =>
nl r_18 (
ret (.ret [.bool x2_3]))) (
cond (x0c0 == 13) (
jn (
bnd (f_code_in D [I x0c1, I 6]) fun r_19 =>
asB r_19 fun x77 =>
cond x77 (
bnd (f_code_in D [I x0c2, I 33]) fun r_20 =>
asB r_20 fun x81 =>
cond x81 (
ret (.norm [.bool (x0c3 == 0)])) (
ret (.norm [.bool false]))) (
ret (.norm [.bool false]))) fun vs_5 =>
uB vs_5 fun x2_4 r_21 =>
nl r_21 (
ret (.ret [.bool x2_4]))) (
cond (x0c0 == 14) (
jn (
bnd (f_code_in D [I x0c1, I 4]) fun r_22 =>
asB r_22 fun x92 =>
cond x92 (
bnd (f_code_in D [I x0c2, I 3]) fun r_23 =>
asB r_23 fun x96 =>
cond x96 (
ret (.norm [.bool (x0c3 == 0)])) (
ret (.norm [.bool false]))) (
ret (.norm [.bool false]))) fun vs_6 =>
uB vs_6 fun x2_5 r_24 =>
nl r_24 (
ret (.ret [.bool x2_5]))) (
cond (x0c0 == 15) (
jn (
bnd (f_code_in D [I x0c1, I 3]) fun r_25 =>
asB r_25 fun x107 =>
cond x107 (
bnd (f_code_in D [I x0c2, I 4]) fun r_26 =>
asB r_26 fun x111 =>
cond x111 (
ret (.norm [.bool (x0c3 == 0)])) (
ret (.norm [.bool false]))) (
ret (.norm [.bool false]))) fun vs_7 =>
uB vs_7 fun x2_6 r_27 =>
nl r_27 (
ret (.ret [.bool x2_6]))) (
cond (x0c0 == 16) (
jn (
bnd (f_code_in D [I x0c1, I 3]) fun r_28 =>
asB r_28 fun x122 =>
cond x122 (
bnd (f_code_in D [I x0c2, I 256]) fun r_29 =>
asB r_29 fun x126 =>
cond x126 (
ret (.norm [.bool (x0c3 == 0)])) (
ret (.norm [.bool false]))) (
ret (.norm [.bool false]))) fun vs_8 =>
uB vs_8 fun x2_7 r_30 =>
nl r_30 (
ret (.ret [.bool x2_7]))) (
cond (x0c0 == 17) (
jn (
bnd (f_code_in D [I x0c1, I 256]) fun r_31 =>
asB r_31 fun x137 =>
cond x137 (
cond (x0c2 == 0) (
ret (.norm [.bool (x0c3 == 0)])) (
ret (.norm [.bool false]))) (
ret (.norm [.bool false]))) fun vs_9 =>
uB vs_9 fun x2_8 r_32 =>
nl r_32 (
ret (.ret [.bool x2_8]))) (
cond (x0c0 == 18) (
jn (
bnd (f_code_in D [I x0c1, I 4]) fun r_33 =>
asB r_33 fun x152 =>
cond x152 (
cond (decide (x0c2 ≥ (-100))) (
cond (decide (x0c2 ≤ 100)) (
ret (.norm [.bool (x0c3 == 0)])) (
ret (.norm [.bool false]))) (
ret (.norm [.bool false]))) (
ret (.norm [.bool false]))) fun vs_10 =>
uB vs_10 fun x2_9 r_34 =>
nl r_34 (
ret (.ret [.bool x2_9]))) (
ret (.ret [.bool false])))))))))))))))

/-- countermand/code.fields -/
def f_code_fields (D : HV → List HV → M HV) (args : List HV) : M HV :=
fin (
uA args fun x0l r =>
uI .i64 x0l fun x0c0 r_1 =>
uI .i64 r_1 fun x0c1 r_2 =>
uI .i64 r_2 fun x0c2 r_3 =>
uI .i64 r_3 fun x0c3 r_4 =>
nl r_4 (
nl r (
jn (
cond (x0c0 == 0) (
ret (.norm [.bool (x0c0 == 0)])) (
cond (x0c0 == 4) (
ret (.norm [.bool (x0c0 == 4)])) (
cond (x0c0 == 5) (
ret (.norm [.bool (x0c0 == 5)])) (
cond (x0c0 == 19) (
ret (.norm [.bool (x0c0 == 19)])) (
ret (.norm [.bool (x0c0 == 21)])))))) fun vs =>
uB vs fun x5 r_5 =>
nl r_5 (
cond x5 (
ret (.ret [.bool (cond (x0c0 == x0c0) (cond (x0c1 == 0) (cond (x0c2 == 0) (cond (x0c3 == 0) true false) false) false) false)])) (
cond (x0c0 == 1) (
jn (
bnd (f_code_in D [I x0c1, I 4]) fun r_6 =>
asB r_6 fun x20 =>
cond x20 (
ret (.norm [.bool (x0c3 == 0)])) (
ret (.norm [.bool false]))) fun vs_1 =>
uB vs_1 fun x2 r_7 =>
nl r_7 (
ret (.ret [.bool x2]))) (
cond (x0c0 == 2) (
jn (
bnd (f_code_in D [I x0c1, I 4]) fun r_8 =>
asB r_8 fun x30 =>
cond x30 (
bnd (f_code_in D [I x0c2, I 4]) fun r_9 =>
asB r_9 fun x34 =>
cond x34 (
ret (.norm [.bool (x0c3 == 0)])) (
ret (.norm [.bool false]))) (
ret (.norm [.bool false]))) fun vs_2 =>
uB vs_2 fun x2_1 r_10 =>
nl r_10 (
ret (.ret [.bool x2_1]))) (
cond (x0c0 == 3) (
jn (
bnd (f_code_in D [I x0c2, I 4]) fun r_11 =>
asB r_11 fun x45 =>
cond x45 (
bnd (f_code_in D [I x0c3, I 3]) fun r_12 =>
asB r_12 fun x49 =>
ret (.norm [.bool x49])) (
ret (.norm [.bool false]))) fun vs_3 =>
uB vs_3 fun x2_2 r_13 =>
nl r_13 (
ret (.ret [.bool x2_2]))) (
cond (x0c0 == 6) (
jn (
bnd (f_code_in D [I x0c1, I 4]) fun r_14 =>
asB r_14 fun x55 =>
cond x55 (
bnd (f_code_in D [I x0c2, I 8]) fun r_15 =>
asB r_15 fun x59 =>
cond x59 (
ret (.norm [.bool (x0c3 == 0)])) (
ret (.norm [.bool false]))) (
ret (.norm [.bool false]))) fun vs_4 =>
uB vs_4 fun x2_3 r_16 =>
nl r_16 (
ret (.ret [.bool x2_3]))) (
cond (x0c0 == 7) (
jn (
bnd (f_code_in D [I x0c1, I 8]) fun r_17 =>
asB r_17 fun x70 =>
cond x70 (
bnd (f_code_in D [I x0c2, I 4]) fun r_18 =>
asB r_18 fun x74 =>
cond x74 (
ret (.norm [.bool (x0c3 == 0)])) (
ret (.norm [.bool false]))) (
ret (.norm [.bool false]))) fun vs_5 =>
uB vs_5 fun x2_4 r_19 =>
nl r_19 (
ret (.ret [.bool x2_4]))) (
cond (x0c0 == 20) (
jn (
cond (x0c2 == 0) (
ret (.norm [.bool (x0c3 == 0)])) (
ret (.norm [.bool false]))) fun vs_6 =>
uB vs_6 fun x2_5 r_20 =>
nl r_20 (
ret (.ret [.bool x2_5]))) (
bnd (f_code_things D [.agg [I x0c0, I x0c1, I x0c2, I x0c3]]) fun r_21 =>
asB r_21 fun x92 =>
ret (.ret [.bool x92]))))))))))))

/-- countermand/code.placed -/
def f_code_placed (D : HV → List HV → M HV) (args : List HV) : M HV :=
fin (
uI .i64 args fun x0 r =>
uB r fun x1 r_1 =>
nl r_1 (
jn (
cond (x0 == 1) (
ret (.norm [.bool (x0 == 1)])) (
cond (x0 == 2) (
ret (.norm [.bool (x0 == 2)])) (
ret (.norm [.bool (x0 == 3)])))) fun vs =>
uB vs fun x6 r_2 =>
nl r_2 (
cond x6 (
ret (.ret [.bool true])) (
jn (
cond (x0 == 0) (
ret (.norm [.bool (x0 == 0)])) (
ret (.norm [.bool (x0 == 4)]))) fun vs_1 =>
uB vs_1 fun x10 r_3 =>
nl r_3 (
cond x10 (
ret (.ret [.bool (!x1)])) (
ret (.ret [.bool x1])))))))

/-- countermand/code.lands -/
def f_code_lands (D : HV → List HV → M HV) (args : List HV) : M HV :=
fin (
uL args fun x0 r =>
uL r fun x1 r_1 =>
uI .i64 r_1 fun x2 r_2 =>
nl r_2 (
ix x0 x2 4 fun x10b x10o =>
ldC x10b (x10o + 1) fun v => asI .i64 v fun x12 =>
jn (
cond (decide (x12 ≤ x2)) (
ret (.norm [.bool true])) (
ret (.norm [.bool (decide (x12 > (x0.len : Int)))]))) fun vs =>
uB vs fun x21 r_3 =>
nl r_3 (
cond x21 (
ret (.ret [.bool false])) (
cond (x12 == (x0.len : Int)) (
ix x1 x2 1 fun x28b x28o =>
ldC x28b x28o fun v_1 => asI .i64 v_1 fun x29 =>
ret (.ret [.bool (decide (x29 < 0))])) (
ix x1 x12 1 fun x33b x33o =>
ldC x33b x33o fun v_2 => asI .i64 v_2 fun x34 =>
ix x1 x2 1 fun x37b x37o =>
ldC x37b x37o fun v_3 => asI .i64 v_3 fun x38 =>
ret (.ret [.bool (x34 == x38)]))))))

/-- countermand/code.Check -/
def f_code_Check (D : HV → List HV → M HV) (args : List HV) : M HV :=
fin (
uL args fun x0 r =>
nl r (
cond (decide ((x0.len : Int) > 48)) (
ret (.ret [I 0, I 3])) (
bnd (f_code_spans D [.sl x0]) fun r_1 =>
asT r_1 fun x15l => uL x15l fun x15t0 r_2 =>
uB r_2 fun x15t1 r_3 =>
nl r_3 (
cond (!x15t1) (
ret (.ret [I 0, I 11])) (
blk 0 (
loopD (fun vs_1 =>
uB vs_1 fun x6 r_4 =>
uI .i64 r_4 fun x7 r_5 =>
uI .i64 r_5 fun x22 r_6 =>
nl r_6 (
cond (decide (x22 < (x0.len : Int))) (
blk 1 (
ix x0 x22 4 fun x25b x25o =>
ldN x25b x25o 4 fun x26l =>
uI .i64 x26l fun x26c0 r_7 =>
uI .i64 r_7 fun x26c1 r_8 =>
uI .i64 r_8 fun x26c2 r_9 =>
uI .i64 r_9 fun x26c3 r_10 =>
nl r_10 (
jn (
bnd (f_code_fields D [.agg [I x26c0, I x26c1, I x26c2, I x26c3]]) fun r_11 =>
asB r_11 fun x28 =>
cond (!x28) (
ret (.norm [.bool true])) (
ix x15t0 x22 1 fun x35b x35o =>
ldC x35b x35o fun v => asI .i64 v fun x36 =>
bnd (f_code_placed D [I x26c0, .bool (decide (x36 ≥ 0))]) fun r_12 =>
asB r_12 fun x38 =>
ret (.norm [.bool (!x38)]))) fun vs_3 =>
uB vs_3 fun x40 r_13 =>
nl r_13 (
cond x40 (
ret (.ret [I x22, I 11])) (
blk 2 (
jn (
cond (x26c0 == 3) (
ret (.norm [.bool (x26c0 == 3)])) (
ret (.norm [.bool (x26c0 == 20)]))) fun vs_5 =>
uB vs_5 fun x44 r_14 =>
nl r_14 (
cond x44 (
bnd (f_code_lands D [.sl x0, .sl x15t0, I x22]) fun r_15 =>
asB r_15 fun x50 =>
cond (!x50) (
ret (.ret [I x22, I 11])) (
ret (.norm [.bool x6, I x7]))) (
cond (x26c0 == 4) (
ret (.norm [.bool false, I 0])) (
ret (.norm [.bool x6, I x7]))))) fun vs_4 =>
uB vs_4 fun x6_1 r_16 =>
uI .i64 r_16 fun x7_1 r_17 =>
nl r_17 (
jn (
cond (x26c0 == 20) (
ret (.norm [I (wr (x7_1 + 1))])) (
ret (.norm [I x7_1]))) fun vs_6 =>
uI .i64 vs_6 fun x7_2 r_18 =>
nl r_18 (
cond (decide (x7_2 > 3)) (
ret (.ret [I x22, I 11])) (
jn (
cond x6_1 (
cond (x26c0 == 14) (
ret (.norm [.bool true])) (
cond (x26c0 == 19) (
ret (.norm [.bool true])) (
cond (x26c0 == 20) (
ret (.norm [.bool true])) (
ret (.norm [.bool (x26c0 == 21)]))))) (
ret (.norm [.bool false]))) fun vs_7 =>
uB vs_7 fun x83 r_19 =>
nl r_19 (
cond x83 (
ret (.ret [I x22, I 11])) (
cond x6_1 (
ret (.norm [.bool true, I x7_2])) (
ret (.norm [.bool (x26c0 == 21), I x7_2]))))))))))) fun vs_2 =>
uB vs_2 fun x6_2 r_20 =>
uI .i64 r_20 fun x7_3 r_21 =>
nl r_21 (
ret (.norm [.bool x6_2, I x7_3, I (wr (x22 + 1))]))) (
ret (.exit 0 [])))) [.bool false, I 0, I 0]) fun vs =>
nl vs (
ret (.ret [I 0, I 0])))))))

/-- countermand/bound.can -/
def f_bound_can (D : HV → List HV → M HV) (args : List HV) : M HV :=
fin (
uL args fun x0 r =>
nl r (
bnd (f_code_Check D [.sl x0]) fun r_1 =>
asT r_1 fun x7l => uI .i64 x7l fun x7t0 r_2 =>
uI .i64 r_2 fun x7t1 r_3 =>
nl r_3 (
ret (.ret [.bool (x7t1 == 0)]))))

/-- countermand/bound.one -/
def f_bound_one (D : HV → List HV → M HV) (args : List HV) : M HV :=
fin (
uA args fun x0l r =>
uI .i64 x0l fun x0c0 r_1 =>
uI .i64 r_1 fun x0c1 r_2 =>
uI .i64 r_2 fun x0c2 r_3 =>
uI .i64 r_3 fun x0c3 r_4 =>
nl r_4 (
uI .i64 r fun x1 r_5 =>
uL r_5 fun x2 r_6 =>
nl r_6 (
jn (
cond (x0c0 == 0) (
ret (.norm [.bool (x0c0 == 0)])) (
cond (x0c0 == 5) (
ret (.norm [.bool (x0c0 == 5)])) (
ret (.norm [.bool (x0c0 == 19)])))) fun vs =>
uB vs fun x9 r_7 =>
nl r_7 (
cond x9 (
ret (.ret [I 1])) (
cond (x0c0 == 20) (
ix x2 (wr (x1 + 1)) 1 fun x18b x18o =>
ldC x18b x18o fun v => asI .i64 v fun x19 =>
ix x2 x0c1 1 fun x24b x24o =>
ldC x24b x24o fun v_1 => asI .i64 v_1 fun x25 =>
ret (.ret [I (wr ((wr (1 + x19)) + x25))])) (
cond (x0c0 == 3) (
cond (x0c3 == 2) (
ix x2 x0c1 1 fun x35b x35o =>
ldC x35b x35o fun v_2 => asI .i64 v_2 fun x36 =>
ret (.ret [I (wr (1 + x36))])) (
ix x2 (wr (x1 + 1)) 1 fun x41b x41o =>
ldC x41b x41o fun v_3 => asI .i64 v_3 fun x42 =>
ix x2 x0c1 1 fun x46b x46o =>
ldC x46b x46o fun v_4 => asI .i64 v_4 fun x47 =>
ret (.ret [I (wr (1 + (bif decide (x47 > x42) then x47 else x42)))]))) (
ix x2 (wr (x1 + 1)) 1 fun x53b x53o =>
ldC x53b x53o fun v_5 => asI .i64 v_5 fun x54 =>
ret (.ret [I (wr (1 + x54))]))))))))

/-- countermand/bound.Most -/
def f_bound_Most (D : HV → List HV → M HV) (args : List HV) : M HV :=
fin (
uL args fun x0 r =>
nl r (
bnd (f_bound_can D [.sl x0]) fun r_1 =>
asB r_1 fun x6 =>
cond (!x6) (
ret (.ret [.sl (⟨none, 0, 0, none⟩)])) (
gd (decide (0 ≤ wr ((x0.len : Int) + 1))) (gd (decide (wr ((x0.len : Int) + 1) ≤ wr ((x0.len : Int) + 1))) (gd (decide ((wr ((x0.len : Int) + 1)).toNat * 8 ≤ room)) (
nw (repL (wr ((x0.len : Int) + 1)).toNat [I 0]) fun b11 =>
blk 0 (
loopD (fun vs_1 =>
uI .i64 vs_1 fun x4 r_2 =>
nl r_2 (
cond (decide (x4 ≥ 0)) (
ix x0 x4 4 fun x23b x23o =>
ldN x23b x23o 4 fun x24l =>
uI .i64 x24l fun x24c0 r_3 =>
uI .i64 r_3 fun x24c1 r_4 =>
uI .i64 r_4 fun x24c2 r_5 =>
uI .i64 r_5 fun x24c3 r_6 =>
nl r_6 (
bnd (f_bound_one D [.agg [I x24c0, I x24c1, I x24c2, I x24c3], I x4, .sl (⟨some (b11, 0), (wr ((x0.len : Int) + 1)).toNat, (wr ((x0.len : Int) + 1)).toNat, none⟩)]) fun r_7 =>
asI .i64 r_7 fun x27 =>
ix (⟨some (b11, 0), (wr ((x0.len : Int) + 1)).toNat, (wr ((x0.len : Int) + 1)).toNat, none⟩) x4 1 fun x28b x28o =>
stC x28b x28o (I x27) (
ret (.norm [I (wr (x4 - 1))])))) (
ret (.exit 0 [])))) [I (wr ((x0.len : Int) - 1))]) fun vs =>
nl vs (
ret (.ret [.sl (⟨some (b11, 0), (wr ((x0.len : Int) + 1)).toNat, (wr ((x0.len : Int) + 1)).toNat, none⟩)]))))))))

/-- countermand/countermandlaw27.alive -/
def f_law27_alive (D : HV → List HV → M HV) (args : List HV) : M HV :=
fin (
nl args (
nw [I 4, I 0, I 0, I 0, I 20, I 3, I 0, I 0, I 19, I 0, I 0, I 0, I 5, I 0, I 0, I 0] fun b6 =>
bnd (f_bound_Most D [.sl (⟨some (b6, 0), 4, 4, none⟩)]) fun r =>
asSl r fun x7 =>
jn (
cond ((x7.len : Int) == 5) (
ix x7 0 1 fun x13b x13o =>
ldC x13b x13o fun v => asI .i64 v fun x14 =>
cond (x14 == 4) (
ix x7 1 1 fun x19b x19o =>
ldC x19b x19o fun v_1 => asI .i64 v_1 fun x20 =>
cond (x20 == 3) (
ix x7 2 1 fun x25b x25o =>
ldC x25b x25o fun v_2 => asI .i64 v_2 fun x26 =>
cond (x26 == 1) (
ix x7 3 1 fun x31b x31o =>
ldC x31b x31o fun v_3 => asI .i64 v_3 fun x32 =>
cond (x32 == 1) (
ix x7 4 1 fun x37b x37o =>
ldC x37b x37o fun v_4 => asI .i64 v_4 fun x38 =>
ret (.norm [.bool (x38 == 0)])) (
ret (.norm [.bool false]))) (
ret (.norm [.bool false]))) (
ret (.norm [.bool false]))) (
ret (.norm [.bool false]))) (
ret (.norm [.bool false]))) fun vs =>
uB vs fun x0 r_1 =>
nl r_1 (
ret (.ret [.bool x0]))))

/-- countermand/countermandref07.Shaped -/
def f_ref07_Shaped (D : HV → List HV → M HV) (args : List HV) : M HV :=
fin (
uL args fun x0 r =>
nl r (
blk 0 (
loopD (fun vs_1 =>
uI .i64 vs_1 fun x3 r_1 =>
uI .i64 r_1 fun x8 r_2 =>
nl r_2 (
cond (decide (x8 < (x0.len : Int))) (
ix x0 x8 4 fun x10b x10o =>
ldN x10b x10o 4 fun x11l =>
uI .i64 x11l fun x11c0 r_3 =>
uI .i64 r_3 fun x11c1 r_4 =>
uI .i64 r_4 fun x11c2 r_5 =>
uI .i64 r_5 fun x11c3 r_6 =>
nl r_6 (
jn (
cond (x11c0 == 4) (
ret (.norm [I (wr (x3 + 1))])) (
ret (.norm [I x3]))) fun vs_2 =>
uI .i64 vs_2 fun x3_1 r_7 =>
nl r_7 (
jn (
cond (x11c0 == 5) (
ret (.norm [I (wr (x3_1 - 1))])) (
ret (.norm [I x3_1]))) fun vs_3 =>
uI .i64 vs_3 fun x3_2 r_8 =>
nl r_8 (
jn (
cond (decide (x3_2 < 0)) (
ret (.norm [.bool true])) (
ret (.norm [.bool (decide (x3_2 > 1))]))) fun vs_4 =>
uB vs_4 fun x27 r_9 =>
nl r_9 (
cond x27 (
ret (.ret [.bool false])) (
ret (.norm [I x3_2, I (wr (x8 + 1))]))))))) (
ret (.exit 0 [I x3])))) [I 0, I 0]) fun vs =>
uI .i64 vs fun x3_3 r_10 =>
nl r_10 (
ret (.ret [.bool (x3_3 == 0)]))))

/-- countermand/countermandref07.Block -/
def f_ref07_Block (D : HV → List HV → M HV) (args : List HV) : M HV :=
fin (
uL args fun x0 r =>
uI .i64 r fun x1 r_1 =>
nl r_1 (
ix x0 x1 4 fun x8b x8o =>
ldC x8b x8o fun v => asI .i64 v fun x10 =>
cond (x10 == 4) (
ret (.ret [I (-1)])) (
blk 0 (
loopD (fun vs_1 =>
uI .i64 vs_1 fun x5 r_2 =>
nl r_2 (
cond (decide (x5 ≥ 0)) (
ix x0 x5 4 fun x20b x20o =>
ldC x20b x20o fun v_1 => asI .i64 v_1 fun x22 =>
cond (x22 == 5) (
ret (.ret [I (-1)])) (
ix x0 x5 4 fun x26b x26o =>
ldC x26b x26o fun v_2 => asI .i64 v_2 fun x28 =>
cond (x28 == 4) (
ret (.ret [I x5])) (
ret (.norm [I (wr (x5 - 1))])))) (
ret (.exit 0 [])))) [I (wr (x1 - 1))]) fun vs =>
nl vs (
ret (.ret [I (-1)])))))

/-- countermand/countermandref07.limits -/
def f_ref07_limits (D : HV → List HV → M HV) (args : List HV) : M HV :=
fin (
uI .i64 args fun x0 r =>
nl r (
jn (
cond (x0 == 0) (
ret (.norm [.bool (x0 == 0)])) (
cond (x0 == 4) (
ret (.norm [.bool (x0 == 4)])) (
cond (x0 == 5) (
ret (.norm [.bool (x0 == 5)])) (
cond (x0 == 19) (
ret (.norm [.bool (x0 == 19)])) (
ret (.norm [.bool (x0 == 21)])))))) fun vs =>
uB vs fun x17 r_1 =>
nl r_1 (
cond x17 (
ret (.ret [.agg [I 0, I 0, I 0, I 0, I 0, I 0], .bool true])) (
cond (x0 == 1) (
ret (.ret [.agg [I 0, I 3, I (-9223372036854775808), I 9223372036854775807, I 0, I 0], .bool true])) (
cond (x0 == 2) (
ret (.ret [.agg [I 0, I 3, I 0, I 3, I 0, I 0], .bool true])) (
cond (x0 == 3) (
ret (.ret [.agg [I (-9223372036854775808), I 9223372036854775807, I 0, I 3, I 0, I 2], .bool true])) (
cond (x0 == 6) (
ret (.ret [.agg [I 0, I 3, I 0, I 7, I 0, I 0], .bool true])) (
cond (x0 == 7) (
ret (.ret [.agg [I 0, I 7, I 0, I 3, I 0, I 0], .bool true])) (
cond (x0 == 8) (
ret (.ret [.agg [I 0, I 3, I 0, I 5, I 0, I 31], .bool true])) (
cond (x0 == 9) (
ret (.ret [.agg [I 0, I 5, I 0, I 31, I 0, I 3], .bool true])) (
jn (
cond (x0 == 10) (
ret (.norm [.bool (x0 == 10)])) (
ret (.norm [.bool (x0 == 11)]))) fun vs_1 =>
uB vs_1 fun x62 r_2 =>
nl r_2 (
cond x62 (
ret (.ret [.agg [I 0, I 5, I 0, I 0, I 0, I 0], .bool true])) (
cond (x0 == 12) (
ret (.ret [.agg [I 0, I 5, I 0, I 5, I 0, I 0], .bool true])) (
cond (x0 == 13) (
ret (.ret [.agg [I 0, I 5, I 0, I 32, I 0, I 0], .bool true])) (
cond (x0 == 14) (
ret (.ret [.agg [I 0, I 3, I 0, I 2, I 0, I 0], .bool true])) (
cond (x0 == 15) (
ret (.ret [.agg [I 0, I 2, I 0, I 3, I 0, I 0], .bool true])) (
cond (x0 == 16) (
ret (.ret [.agg [I 0, I 2, I 0, I 255, I 0, I 0], .bool true])) (
cond (x0 == 17) (
ret (.ret [.agg [I 0, I 255, I 0, I 0, I 0, I 0], .bool true])) (
cond (x0 == 18) (
ret (.ret [.agg [I 0, I 3, I (-100), I 100, I 0, I 0], .bool true])) (
cond (x0 == 20) (
ret (.ret [.agg [I (-9223372036854775808), I 9223372036854775807, I 0, I 0, I 0, I 0], .bool true])) (
ret (.ret [.agg [I 0, I 0, I 0, I 0, I 0, I 0], .bool false]))))))))))))))))))))))

/-- countermand/countermandref07.One -/
def f_ref07_One (D : HV → List HV → M HV) (args : List HV) : M HV :=
fin (
uL args fun x0 r =>
uI .i64 r fun x1 r_1 =>
nl r_1 (
ix x0 x1 4 fun x13b x13o =>
ldN x13b x13o 4 fun x14l =>
uI .i64 x14l fun x14c0 r_2 =>
uI .i64 r_2 fun x14c1 r_3 =>
uI .i64 r_3 fun x14c2 r_4 =>
uI .i64 r_4 fun x14c3 r_5 =>
nl r_5 (
bnd (f_ref07_limits D [I x14c0]) fun r_6 =>
asT r_6 fun x18l => uA x18l fun x18t0l r_7 =>
uI .i64 x18t0l fun x18t0c0 r_8 =>
uI .i64 r_8 fun x18t0c1 r_9 =>
uI .i64 r_9 fun x18t0c2 r_10 =>
uI .i64 r_10 fun x18t0c3 r_11 =>
uI .i64 r_11 fun x18t0c4 r_12 =>
uI .i64 r_12 fun x18t0c5 r_13 =>
nl r_13 (
uB r_7 fun x18t1 r_14 =>
nl r_14 (
jn (
cond (!x18t1) (
ret (.norm [.bool true])) (
cond (decide (x14c1 < x18t0c0)) (
ret (.norm [.bool true])) (
cond (decide (x14c1 > x18t0c1)) (
ret (.norm [.bool true])) (
cond (decide (x14c2 < x18t0c2)) (
ret (.norm [.bool true])) (
cond (decide (x14c2 > x18t0c3)) (
ret (.norm [.bool true])) (
cond (decide (x14c3 < x18t0c4)) (
ret (.norm [.bool true])) (
cond (decide (x14c3 > x18t0c5)) (
ret (.norm [.bool true])) (
cond (x14c0 == 12) (
ret (.norm [.bool (x14c1 == x14c2)])) (
ret (.norm [.bool false])))))))))) fun vs =>
uB vs fun x82 r_15 =>
nl r_15 (
cond x82 (
ret (.ret [.bool false])) (
bnd (f_ref07_Block D [.sl x0, I x1]) fun r_16 =>
asI .i64 r_16 fun x85 =>
jn (
cond (x14c0 == 0) (
cond (decide (x85 ≥ 0)) (
ret (.norm [.bool true])) (
cond (decide (x14c0 > 4)) (
ret (.norm [.bool (decide (x85 < 0))])) (
ret (.norm [.bool false])))) (
cond (x14c0 == 4) (
cond (decide (x85 ≥ 0)) (
ret (.norm [.bool true])) (
cond (decide (x14c0 > 4)) (
ret (.norm [.bool (decide (x85 < 0))])) (
ret (.norm [.bool false])))) (
cond (decide (x14c0 > 4)) (
ret (.norm [.bool (decide (x85 < 0))])) (
ret (.norm [.bool false]))))) fun vs_1 =>
uB vs_1 fun x106 r_17 =>
nl r_17 (
cond x106 (
ret (.ret [.bool false])) (
jn (
cond (x14c0 == 3) (
ret (.norm [.bool true])) (
ret (.norm [.bool (x14c0 == 20)]))) fun vs_2 =>
uB vs_2 fun x114 r_18 =>
nl r_18 (
jn (
cond x114 (
jn (
cond (decide (x14c1 ≤ x1)) (
ret (.norm [.bool true])) (
cond (decide (x14c1 > (x0.len : Int))) (
ret (.norm [.bool true])) (
cond (x14c1 == (x0.len : Int)) (
cond (decide (x85 ≥ 0)) (
ret (.norm [.bool true])) (
cond (decide (x14c1 < (x0.len : Int))) (
bnd (f_ref07_Block D [.sl x0, I x14c1]) fun r_19 =>
asI .i64 r_19 fun x147 =>
ret (.norm [.bool (x147 != x85)])) (
ret (.norm [.bool false])))) (
cond (decide (x14c1 < (x0.len : Int))) (
bnd (f_ref07_Block D [.sl x0, I x14c1]) fun r_20 =>
asI .i64 r_20 fun x147_1 =>
ret (.norm [.bool (x147_1 != x85)])) (
ret (.norm [.bool false])))))) fun vs_4 =>
uB vs_4 fun x151 r_21 =>
nl r_21 (
cond x151 (
ret (.ret [.bool false])) (
ret (.norm [])))) (
ret (.norm []))) fun vs_3 =>
nl vs_3 (
blk 0 (
loopD (fun vs_6 =>
uI .i64 vs_6 fun x9 r_22 =>
uI .i64 r_22 fun x10 r_23 =>
nl r_23 (
cond (decide (x10 < x1)) (
blk 1 (
jn (
ix x0 x10 4 fun x161b x161o =>
ldC x161b x161o fun v => asI .i64 v fun x163 =>
cond (x163 == 21) (
cond (x14c0 == 14) (
ret (.norm [.bool true])) (
cond (x14c0 == 19) (
ret (.norm [.bool true])) (
cond (x14c0 == 20) (
ret (.norm [.bool true])) (
ret (.norm [.bool (x14c0 == 21)]))))) (
ret (.norm [.bool false]))) fun vs_8 =>
uB vs_8 fun x184 r_24 =>
nl r_24 (
cond x184 (
ret (.ret [.bool false])) (
ix x0 x10 4 fun x187b x187o =>
ldC x187b x187o fun v_1 => asI .i64 v_1 fun x189 =>
cond (x189 == 20) (
ret (.norm [I (wr (x9 + 1))])) (
ret (.norm [I x9]))))) fun vs_7 =>
uI .i64 vs_7 fun x9_1 r_25 =>
nl r_25 (
ret (.norm [I x9_1, I (wr (x10 + 1))]))) (
ret (.exit 0 [I x9])))) [I 0, I (wr (x85 + 1))]) fun vs_5 =>
uI .i64 vs_5 fun x9_2 r_26 =>
nl r_26 (
jn (
cond (x14c0 != 20) (
ret (.norm [.bool true])) (
ret (.norm [.bool (decide (x9_2 < 3))]))) fun vs_9 =>
uB vs_9 fun x4 r_27 =>
nl r_27 (
ret (.ret [.bool x4]))))))))))))))

/-- countermand/countermandref07.Check -/
def f_ref07_Check (D : HV → List HV → M HV) (args : List HV) : M HV :=
fin (
uL args fun x0 r =>
nl r (
cond (decide ((x0.len : Int) > 48)) (
ret (.ret [I 0, I 3])) (
bnd (f_ref07_Shaped D [.sl x0]) fun r_1 =>
asB r_1 fun x9 =>
cond (!x9) (
ret (.ret [I 0, I 11])) (
blk 0 (
loopD (fun vs_1 =>
uI .i64 vs_1 fun x13 r_2 =>
nl r_2 (
cond (decide (x13 < (x0.len : Int))) (
bnd (f_ref07_One D [.sl x0, I x13]) fun r_3 =>
asB r_3 fun x18 =>
cond (!x18) (
ret (.ret [I x13, I 11])) (
ret (.norm [I (wr (x13 + 1))]))) (
ret (.exit 0 [])))) [I 0]) fun vs =>
nl vs (
ret (.ret [I 0, I 0]))))))

/-- countermand/countermandref27.Can -/
def f_ref27_Can (D : HV → List HV → M HV) (args : List HV) : M HV :=
fin (
uL args fun x0 r =>
nl r (
bnd (f_ref07_Check D [.sl x0]) fun r_1 =>
asT r_1 fun x7l => uI .i64 x7l fun x7t0 r_2 =>
uI .i64 r_2 fun x7t1 r_3 =>
nl r_3 (
ret (.ret [.bool (x7t1 == 0)]))))

/-- countermand/countermandlaw27.BoundBlocks -/
def f_law27_BoundBlocks (D : HV → List HV → M HV) (args : List HV) : M HV :=
fin (
uL args fun x0 r =>
uI .i64 r fun x1 r_1 =>
nl r_1 (
bnd (f_law27_alive D []) fun r_2 =>
asB r_2 fun x11 =>
cond (!x11) (
ret (.ret [.bool false])) (
jn (
bnd (f_ref27_Can D [.sl x0]) fun r_3 =>
asB r_3 fun x14 =>
cond (!x14) (
ret (.norm [.bool true])) (
cond (decide (x1 < 0)) (
ret (.norm [.bool true])) (
cond (decide (x1 ≥ (x0.len : Int))) (
ret (.norm [.bool true])) (
ix x0 x1 4 fun x29b x29o =>
ldC x29b x29o fun v => asI .i64 v fun x31 =>
ret (.norm [.bool (x31 != 4)]))))) fun vs =>
uB vs fun x33 r_4 =>
nl r_4 (
cond x33 (
ret (.ret [.bool true])) (
gd (decide (0 ≤ x1)) (gd (decide (x1 ≤ (x0.len : Int))) (gd (decide ((x0.len : Int) ≤ (x0.cap : Int))) (gd (decide ((x0.cap : Int) ≤ (x0.cap : Int))) (gd (slOk x0.opn 4 (decide (x1 < (x0.cap : Int)))) (
blk 0 (
loopD (fun vs_2 =>
uL vs_2 fun x5 r_5 =>
uI .i64 r_5 fun x38 r_6 =>
nl r_6 (
cond (decide (x38 < (((x0.len : Int) - x1 : Int).toNat : Int))) (
ix (⟨bif decide ((x0.cap : Int) = x1) then x0.p else x0.p.map (fun q => (q.1, q.2 + x1.toNat * 4)), ((x0.len : Int) - x1 : Int).toNat, ((x0.cap : Int) - x1 : Int).toNat, x0.opn⟩) x38 4 fun x40b x40o =>
ldN x40b x40o 4 fun x41l =>
uI .i64 x41l fun x41c0 r_7 =>
uI .i64 r_7 fun x41c1 r_8 =>
uI .i64 r_8 fun x41c2 r_9 =>
uI .i64 r_9 fun x41c3 r_10 =>
nl r_10 (
jn (
cond (x41c0 == 3) (
ret (.norm [.bool true])) (
ret (.norm [.bool (x41c0 == 20)]))) fun vs_3 =>
uB vs_3 fun x49 r_11 =>
nl r_11 (
jn (
cond x49 (
ret (.norm [.agg [I x41c0, I (wr (x41c1 - x1)), I x41c2, I x41c3]])) (
ret (.norm [.agg [I x41c0, I x41c1, I x41c2, I x41c3]]))) fun vs_4 =>
uA vs_4 fun y7 r_12 =>
uI .i64 y7 fun y7c0 r_13 =>
uI .i64 r_13 fun y7c1 r_14 =>
uI .i64 r_14 fun y7c2 r_15 =>
uI .i64 r_15 fun y7c3 r_16 =>
nl r_16 (
nl r_12 (
apd x5 4 32 1 [I y7c0, I y7c1, I y7c2, I y7c3] fun x58 =>
cond (y7c0 == 5) (
ret (.exit 0 [.sl x58])) (
ret (.norm [.sl x58, I (wr (x38 + 1))]))))))) (
ret (.exit 0 [.sl x5])))) [.sl (⟨none, 0, 0, none⟩), I 0]) fun vs_1 =>
uL vs_1 fun x5_1 r_17 =>
nl r_17 (
bnd (f_bound_Most D [.sl x0]) fun r_18 =>
asSl r_18 fun x64 =>
bnd (f_bound_Most D [.sl x5_1]) fun r_19 =>
asSl r_19 fun x66 =>
jn (
bnd (f_ref27_Can D [.sl x5_1]) fun r_20 =>
asB r_20 fun x68 =>
cond (!x68) (
ret (.norm [.bool true])) (
cond ((x64.len : Int) != (wr ((x0.len : Int) + 1))) (
ret (.norm [.bool true])) (
cond ((x66.len : Int) != (wr ((x5_1.len : Int) + 1))) (
ret (.norm [.bool true])) (
bnd (f_ref07_Block D [.sl x0, I x1]) fun r_21 =>
asI .i64 r_21 fun x89 =>
ret (.norm [.bool (x89 != (-1))]))))) fun vs_5 =>
uB vs_5 fun x91 r_22 =>
nl r_22 (
cond x91 (
ret (.ret [.bool false])) (
blk 2 (
loopD (fun vs_7 =>
uI .i64 vs_7 fun x94 r_23 =>
nl r_23 (
cond (decide (x94 < (x5_1.len : Int))) (
ix x64 (wr (x1 + x94)) 1 fun x101b x101o =>
ldC x101b x101o fun v_1 => asI .i64 v_1 fun x102 =>
ix x66 x94 1 fun x105b x105o =>
ldC x105b x105o fun v_2 => asI .i64 v_2 fun x106 =>
cond (x102 != x106) (
ret (.ret [.bool false])) (
ret (.norm [I (wr (x94 + 1))]))) (
ret (.exit 2 [])))) [I 0]) fun vs_6 =>
nl vs_6 (
ret (.ret [.bool true])))))))))))))))

/-- countermand/bound.next -/
def f_bound_next (D : HV → List HV → M HV) (args : List HV) : M HV :=
fin (
uL args fun x0 r =>
uI .i64 r fun x1 r_1 =>
nl r_1 (
ix x0 x1 4 fun x8b x8o =>
ldN x8b x8o 4 fun x9l =>
uI .i64 x9l fun x9c0 r_2 =>
uI .i64 r_2 fun x9c1 r_3 =>
uI .i64 r_3 fun x9c2 r_4 =>
uI .i64 r_4 fun x9c3 r_5 =>
nl r_5 (
jn (
cond (x9c0 == 0) (
ret (.norm [.bool true])) (
ret (.norm [.bool (x9c0 == 19)]))) fun vs =>
uB vs fun x10 r_6 =>
nl r_6 (
cond x10 (
ret (.ret [.sl (⟨none, 0, 0, none⟩)])) (
jn (
cond (x9c0 == 3) (
ret (.norm [.bool (x9c3 == 2)])) (
ret (.norm [.bool false]))) fun vs_1 =>
uB vs_1 fun x19 r_7 =>
nl r_7 (
cond x19 (
nw [I x9c1] fun b30 =>
ret (.ret [.sl (⟨some (b30, 0), 1, 1, none⟩)])) (
jn (
cond (x9c0 == 3) (
ret (.norm [.bool (decide (x9c1 > (wr (x1 + 1))))])) (
cond (x9c0 == 20) (
ret (.norm [.bool (decide (x9c1 > (wr (x1 + 1))))])) (
ret (.norm [.bool false])))) fun vs_2 =>
uB vs_2 fun x31 r_8 =>
nl r_8 (
cond x31 (
nw [I (wr (x1 + 1)), I x9c1] fun b51 =>
ret (.ret [.sl (⟨some (b51, 0), 2, 2, none⟩)])) (
nw [I (wr (x1 + 1))] fun b54 =>
ret (.ret [.sl (⟨some (b54, 0), 1, 1, none⟩)]))))))))))

/-- countermand/bound.Next -/
def f_bound_Next (D : HV → List HV → M HV) (args : List HV) : M HV :=
fin (
uL args fun x0 r =>
uI .i64 r fun x1 r_1 =>
nl r_1 (
jn (
bnd (f_bound_can D [.sl x0]) fun r_2 =>
asB r_2 fun x6 =>
cond (!x6) (
ret (.norm [.bool true])) (
cond (decide (x1 < 0)) (
ret (.norm [.bool true])) (
ret (.norm [.bool (decide (x1 ≥ (x0.len : Int)))])))) fun vs =>
uB vs fun x17 r_3 =>
nl r_3 (
cond x17 (
ret (.ret [.sl (⟨none, 0, 0, none⟩)])) (
bnd (f_bound_next D [.sl x0, I x1]) fun r_4 =>
asSl r_4 fun x20 =>
ret (.ret [.sl x20])))))

/-- countermand/countermandref27.Leads -/
def f_ref27_Leads (D : HV → List HV → M HV) (args : List HV) : M HV :=
fin (
uL args fun x0 r =>
uI .i64 r fun x1 r_1 =>
uI .i64 r_1 fun x2 r_2 =>
nl r_2 (
ix x0 x1 4 fun x10b x10o =>
ldN x10b x10o 4 fun x11l =>
uI .i64 x11l fun x11c0 r_3 =>
uI .i64 r_3 fun x11c1 r_4 =>
uI .i64 r_4 fun x11c2 r_5 =>
uI .i64 r_5 fun x11c3 r_6 =>
nl r_6 (
jn (
cond (x11c0 == 0) (
ret (.norm [.bool (x11c0 == 0)])) (
ret (.norm [.bool (x11c0 == 19)]))) fun vs =>
uB vs fun x14 r_7 =>
nl r_7 (
cond x14 (
ret (.ret [.bool false])) (
cond (x11c0 == 3) (
jn (
cond (x2 == x11c1) (
ret (.norm [.bool true])) (
cond (decide (x11c3 < 2)) (
ret (.norm [.bool (x2 == (wr (x1 + 1)))])) (
ret (.norm [.bool false])))) fun vs_1 =>
uB vs_1 fun x6 r_8 =>
nl r_8 (
ret (.ret [.bool x6]))) (
cond (x11c0 == 20) (
jn (
cond (x2 == x11c1) (
ret (.norm [.bool true])) (
ret (.norm [.bool (x2 == (wr (x1 + 1)))]))) fun vs_2 =>
uB vs_2 fun x6_1 r_9 =>
nl r_9 (
ret (.ret [.bool x6_1]))) (
ret (.ret [.bool (x2 == (wr (x1 + 1)))]))))))))

/-- countermand/countermandlaw27.BoundNext -/
def f_law27_BoundNext (D : HV → List HV → M HV) (args : List HV) : M HV :=
fin (
uL args fun x0 r =>
uI .i64 r fun x1 r_1 =>
nl r_1 (
bnd (f_law27_alive D []) fun r_2 =>
asB r_2 fun x8 =>
cond (!x8) (
ret (.ret [.bool false])) (
bnd (f_bound_Next D [.sl x0, I x1]) fun r_3 =>
asSl r_3 fun x12 =>
jn (
bnd (f_ref27_Can D [.sl x0]) fun r_4 =>
asB r_4 fun x14 =>
cond (!x14) (
ret (.norm [.bool true])) (
cond (decide (x1 < 0)) (
ret (.norm [.bool true])) (
ret (.norm [.bool (decide (x1 ≥ (x0.len : Int)))])))) fun vs =>
uB vs fun x25 r_5 =>
nl r_5 (
cond x25 (
ret (.ret [.bool ((x12.len : Int) == 0)])) (
blk 0 (
loopD (fun vs_2 =>
uI .i64 vs_2 fun x6 r_6 =>
uI .i64 r_6 fun x7 r_7 =>
nl r_7 (
cond (decide (x7 ≤ (x0.len : Int))) (
blk 1 (
bnd (f_ref27_Leads D [.sl x0, I x1, I x7]) fun r_8 =>
asB r_8 fun x38 =>
cond x38 (
jn (
cond (decide (x6 ≥ (x12.len : Int))) (
ret (.norm [.bool true])) (
ix x12 x6 1 fun x46b x46o =>
ldC x46b x46o fun v => asI .i64 v fun x47 =>
ret (.norm [.bool (x47 != x7)]))) fun vs_4 =>
uB vs_4 fun x50 r_9 =>
nl r_9 (
cond x50 (
ret (.ret [.bool false])) (
ret (.norm [I (wr (x6 + 1))])))) (
ret (.norm [I x6]))) fun vs_3 =>
uI .i64 vs_3 fun x6_1 r_10 =>
nl r_10 (
ret (.norm [I x6_1, I (wr (x7 + 1))]))) (
ret (.exit 0 [I x6])))) [I 0, I 0]) fun vs_1 =>
uI .i64 vs_1 fun x6_2 r_11 =>
nl r_11 (
ret (.ret [.bool (x6_2 == (x12.len : Int))])))))))

/-- countermand/countermandlaw27.BoundSmall -/
def f_law27_BoundSmall (D : HV → List HV → M HV) (args : List HV) : M HV :=
fin (
uL args fun x0 r =>
nl r (
bnd (f_law27_alive D []) fun r_1 =>
asB r_1 fun x7 =>
cond (!x7) (
ret (.ret [.bool false])) (
bnd (f_ref27_Can D [.sl x0]) fun r_2 =>
asB r_2 fun x10 =>
cond (!x10) (
ret (.ret [.bool true])) (
bnd (f_bound_Most D [.sl x0]) fun r_3 =>
asSl r_3 fun x13 =>
cond ((x13.len : Int) != (wr ((x0.len : Int) + 1))) (
ret (.ret [.bool false])) (
blk 0 (
loopD (fun vs_1 =>
uI .i64 vs_1 fun x22 r_4 =>
nl r_4 (
cond (decide (x22 < (x0.len : Int))) (
jn (
ix x13 x22 1 fun x27b x27o =>
ldC x27b x27o fun v => asI .i64 v fun x28 =>
cond (decide (x28 < 1)) (
ret (.norm [.bool true])) (
ix x13 x22 1 fun x33b x33o =>
ldC x33b x33o fun v_1 => asI .i64 v_1 fun x34 =>
ret (.norm [.bool (decide (x34 > (wr (8 * (wr ((x0.len : Int) - x22))))))]))) fun vs_2 =>
uB vs_2 fun x41 r_5 =>
nl r_5 (
cond x41 (
ret (.ret [.bool false])) (
bnd (f_bound_Next D [.sl x0, I x22]) fun r_6 =>
asSl r_6 fun x44 =>
blk 2 (
loopD (fun vs_4 =>
uI .i64 vs_4 fun x46 r_7 =>
nl r_7 (
cond (decide (x46 < (x44.len : Int))) (
ix x44 x46 1 fun x48b x48o =>
ldC x48b x48o fun v_2 => asI .i64 v_2 fun x49 =>
jn (
cond (decide (x49 < 0)) (
ret (.norm [.bool true])) (
cond (decide (x49 > (x0.len : Int))) (
ret (.norm [.bool true])) (
ix x0 x22 4 fun x61b x61o =>
ldC x61b x61o fun v_3 => asI .i64 v_3 fun x63 =>
cond (x63 != 5) (
ix x13 x49 1 fun x68b x68o =>
ldC x68b x68o fun v_4 => asI .i64 v_4 fun x69 =>
ix x13 x22 1 fun x72b x72o =>
ldC x72b x72o fun v_5 => asI .i64 v_5 fun x73 =>
ret (.norm [.bool (decide (x69 ≥ x73))])) (
ret (.norm [.bool false]))))) fun vs_5 =>
uB vs_5 fun x76 r_8 =>
nl r_8 (
cond x76 (
ret (.ret [.bool false])) (
ret (.norm [I (wr (x46 + 1))])))) (
ret (.exit 2 [])))) [I 0]) fun vs_3 =>
nl vs_3 (
ret (.norm [I (wr (x22 + 1))]))))) (
ret (.exit 0 [])))) [I 0]) fun vs =>
nl vs (
ix x13 (x0.len : Int) 1 fun x82b x82o =>
ldC x82b x82o fun v_6 => asI .i64 v_6 fun x83 =>
ret (.ret [.bool (x83 == 0)])))))))

/-- countermand/bound.Total -/
def f_bound_Total (D : HV → List HV → M HV) (args : List HV) : M HV :=
fin (
uL args fun x0 r =>
nl r (
bnd (f_bound_can D [.sl x0]) fun r_1 =>
asB r_1 fun x9 =>
cond (!x9) (
ret (.ret [I 0])) (
bnd (f_bound_Most D [.sl x0]) fun r_2 =>
asSl r_2 fun x12 =>
blk 0 (
loopD (fun vs_1 =>
uI .i64 vs_1 fun x4 r_3 =>
uB r_3 fun x5 r_4 =>
uI .i64 r_4 fun x15 r_5 =>
nl r_5 (
cond (decide (x15 < (x0.len : Int))) (
blk 1 (
ix x0 x15 4 fun x18b x18o =>
ldN x18b x18o 4 fun x19l =>
uI .i64 x19l fun x19c0 r_6 =>
uI .i64 r_6 fun x19c1 r_7 =>
uI .i64 r_7 fun x19c2 r_8 =>
uI .i64 r_8 fun x19c3 r_9 =>
nl r_9 (
cond (x19c0 == 4) (
ix x12 x15 1 fun x27b x27o =>
ldC x27b x27o fun v => asI .i64 v fun x28 =>
ret (.norm [I (wr (x4 + (wr (x28 + 3)))), .bool true])) (
cond (x19c0 == 5) (
ret (.norm [I x4, .bool false])) (
cond (!x5) (
ret (.norm [I (wr (x4 + 1)), .bool x5])) (
ret (.norm [I x4, .bool x5])))))) fun vs_2 =>
uI .i64 vs_2 fun x4_1 r_10 =>
uB r_10 fun x5_1 r_11 =>
nl r_11 (
ret (.norm [I x4_1, .bool x5_1, I (wr (x15 + 1))]))) (
ret (.exit 0 [I x4])))) [I 1, .bool false, I 0]) fun vs =>
uI .i64 vs fun x4_2 r_12 =>
nl r_12 (
ret (.ret [I x4_2])))))

/-- countermand/countermandref27.Most -/
def f_ref27_Most (D : HV → List HV → M HV) (args : List HV) : M HV :=
fin (
uL args fun x0 r =>
nl r (
blk 0 (
loopD (fun vs_1 =>
uI .i64 vs_1 fun x10 r_1 =>
uA r_1 fun y3 r_2 =>
nl r_2 (
cond (decide (x10 < (wr ((x0.len : Int) + 1)))) (
blk 2 (
loopD (fun vs_3 =>
uI .i64 vs_3 fun x14 r_3 =>
uA r_3 fun y3_1 r_4 =>
nl r_4 (
cond (decide (x14 < (x0.len : Int))) (
blk 3 (
ix x0 x14 4 fun x17b x17o =>
ldN x17b x17o 4 fun x18l =>
uI .i64 x18l fun x18c0 r_5 =>
uI .i64 r_5 fun x18c1 r_6 =>
uI .i64 r_6 fun x18c2 r_7 =>
uI .i64 r_7 fun x18c3 r_8 =>
nl r_8 (
jn (
cond (x18c0 == 0) (
ret (.norm [.bool (x18c0 == 0)])) (
cond (x18c0 == 5) (
ret (.norm [.bool (x18c0 == 5)])) (
ret (.norm [.bool (x18c0 == 19)])))) fun vs_5 =>
uB vs_5 fun x28 r_9 =>
nl r_9 (
cond x28 (
gd (decide (0 ≤ x14)) (gd (decide (x14 < (49 : Int))) (
gd (decide (0 + x14.toNat * 1 < y3_1.length)) (
ret (.norm [.agg (List.set y3_1 (0 + x14.toNat * 1) (I 1))]))))) (
cond (x18c0 == 3) (
gd (decide (0 ≤ x18c1)) (gd (decide (x18c1 < (49 : Int))) (
gx y3_1 (0 + x18c1.toNat * 1) fun v => asI .i64 v fun x39 =>
jn (
cond (decide (x18c3 < 2)) (
gd (decide (0 ≤ wr (x14 + 1))) (gd (decide (wr (x14 + 1) < (49 : Int))) (
gx y3_1 (0 + (wr (x14 + 1)).toNat * 1) fun v_1 => asI .i64 v_1 fun x47 =>
ret (.norm [.bool (decide (x47 > x39))])))) (
ret (.norm [.bool false]))) fun vs_6 =>
uB vs_6 fun x50 r_10 =>
nl r_10 (
jn (
cond x50 (
gd (decide (0 ≤ wr (x14 + 1))) (gd (decide (wr (x14 + 1) < (49 : Int))) (
gx y3_1 (0 + (wr (x14 + 1)).toNat * 1) fun v_2 => asI .i64 v_2 fun x54 =>
ret (.norm [I x54])))) (
ret (.norm [I x39]))) fun vs_7 =>
uI .i64 vs_7 fun x6 r_11 =>
nl r_11 (
gd (decide (0 ≤ x14)) (gd (decide (x14 < (49 : Int))) (
gd (decide (0 + x14.toNat * 1 < y3_1.length)) (
ret (.norm [.agg (List.set y3_1 (0 + x14.toNat * 1) (I (wr (x6 + 1))))]))))))))) (
cond (x18c0 == 20) (
gd (decide (0 ≤ wr (x14 + 1))) (gd (decide (wr (x14 + 1) < (49 : Int))) (
gx y3_1 (0 + (wr (x14 + 1)).toNat * 1) fun v_3 => asI .i64 v_3 fun x65 =>
gd (decide (0 ≤ x18c1)) (gd (decide (x18c1 < (49 : Int))) (
gx y3_1 (0 + x18c1.toNat * 1) fun v_4 => asI .i64 v_4 fun x69 =>
gd (decide (0 ≤ x14)) (gd (decide (x14 < (49 : Int))) (
gd (decide (0 + x14.toNat * 1 < y3_1.length)) (
ret (.norm [.agg (List.set y3_1 (0 + x14.toNat * 1) (I (wr ((wr (x65 + x69)) + 1))))]))))))))) (
gd (decide (0 ≤ wr (x14 + 1))) (gd (decide (wr (x14 + 1) < (49 : Int))) (
gx y3_1 (0 + (wr (x14 + 1)).toNat * 1) fun v_5 => asI .i64 v_5 fun x25 =>
gd (decide (0 ≤ x14)) (gd (decide (x14 < (49 : Int))) (
gd (decide (0 + x14.toNat * 1 < y3_1.length)) (
ret (.norm [.agg (List.set y3_1 (0 + x14.toNat * 1) (I (wr (x25 + 1))))])))))))))))) fun vs_4 =>
uA vs_4 fun y3_2 r_12 =>
nl r_12 (
ret (.norm [I (wr (x14 + 1)), .agg y3_2]))) (
ret (.exit 2 [.agg y3_1])))) [I 0, .agg y3]) fun vs_2 =>
uA vs_2 fun y3_3 r_13 =>
nl r_13 (
ret (.norm [I (wr (x10 + 1)), .agg y3_3]))) (
ret (.exit 0 [.agg y3])))) [I 0, .agg [I 0, I 0, I 0, I 0, I 0, I 0, I 0, I 0, I 0, I 0, I 0, I 0, I 0, I 0, I 0, I 0, I 0, I 0, I 0, I 0, I 0, I 0, I 0, I 0, I 0, I 0, I 0, I 0, I 0, I 0, I 0, I 0, I 0, I 0, I 0, I 0, I 0, I 0, I 0, I 0, I 0, I 0, I 0, I 0, I 0, I 0, I 0, I 0, I 0]]) fun vs =>
uA vs fun y3_4 r_14 =>
nl r_14 (
gxN y3_4 0 49 fun x75l =>
gd (Nat.beq x75l.length 49) (
gd (Nat.ble (0 + x75l.length) ([I 0, I 0, I 0, I 0, I 0, I 0, I 0, I 0, I 0, I 0, I 0, I 0, I 0, I 0, I 0, I 0, I 0, I 0, I 0, I 0, I 0, I 0, I 0, I 0, I 0, I 0, I 0, I 0, I 0, I 0, I 0, I 0, I 0, I 0, I 0, I 0, I 0, I 0, I 0, I 0, I 0, I 0, I 0, I 0, I 0, I 0, I 0, I 0, I 0]).length) (
gxN (putN [I 0, I 0, I 0, I 0, I 0, I 0, I 0, I 0, I 0, I 0, I 0, I 0, I 0, I 0, I 0, I 0, I 0, I 0, I 0, I 0, I 0, I 0, I 0, I 0, I 0, I 0, I 0, I 0, I 0, I 0, I 0, I 0, I 0, I 0, I 0, I 0, I 0, I 0, I 0, I 0, I 0, I 0, I 0, I 0, I 0, I 0, I 0, I 0, I 0] 0 x75l) 0 49 fun z0l =>
ret (.ret [.agg z0l]))))))

/-- countermand/countermandref27.Total -/
def f_ref27_Total (D : HV → List HV → M HV) (args : List HV) : M HV :=
fin (
uL args fun x0 r =>
nl r (
bnd (f_ref27_Most D [.sl x0]) fun r_1 =>
asA r_1 fun x8l =>
gd (Nat.beq x8l.length 49) (
gd (Nat.ble (0 + x8l.length) ([I 0, I 0, I 0, I 0, I 0, I 0, I 0, I 0, I 0, I 0, I 0, I 0, I 0, I 0, I 0, I 0, I 0, I 0, I 0, I 0, I 0, I 0, I 0, I 0, I 0, I 0, I 0, I 0, I 0, I 0, I 0, I 0, I 0, I 0, I 0, I 0, I 0, I 0, I 0, I 0, I 0, I 0, I 0, I 0, I 0, I 0, I 0, I 0, I 0]).length) (
blk 0 (
loopD (fun vs_1 =>
uI .i64 vs_1 fun x4 r_2 =>
uI .i64 r_2 fun x11 r_3 =>
nl r_3 (
cond (decide (x11 < (x0.len : Int))) (
blk 1 (
ix x0 x11 4 fun x14b x14o =>
ldN x14b x14o 4 fun x15l =>
uI .i64 x15l fun x15c0 r_4 =>
uI .i64 r_4 fun x15c1 r_5 =>
uI .i64 r_5 fun x15c2 r_6 =>
uI .i64 r_6 fun x15c3 r_7 =>
nl r_7 (
cond (x15c0 == 4) (
gd (decide (0 ≤ x11)) (gd (decide (x11 < (49 : Int))) (
gx (putN [I 0, I 0, I 0, I 0, I 0, I 0, I 0, I 0, I 0, I 0, I 0, I 0, I 0, I 0, I 0, I 0, I 0, I 0, I 0, I 0, I 0, I 0, I 0, I 0, I 0, I 0, I 0, I 0, I 0, I 0, I 0, I 0, I 0, I 0, I 0, I 0, I 0, I 0, I 0, I 0, I 0, I 0, I 0, I 0, I 0, I 0, I 0, I 0, I 0] 0 x8l) (0 + x11.toNat * 1) fun v => asI .i64 v fun x22 =>
ret (.norm [I (wr ((wr (x4 + x22)) + 3))])))) (
bnd (f_ref07_Block D [.sl x0, I x11]) fun r_8 =>
asI .i64 r_8 fun x27 =>
cond (decide (x27 < 0)) (
ret (.norm [I (wr (x4 + 1))])) (
ret (.norm [I x4]))))) fun vs_2 =>
uI .i64 vs_2 fun x4_1 r_9 =>
nl r_9 (
ret (.norm [I x4_1, I (wr (x11 + 1))]))) (
ret (.exit 0 [I x4])))) [I 1, I 0]) fun vs =>
uI .i64 vs fun x4_2 r_10 =>
nl r_10 (
ret (.ret [I x4_2]))))))

/-- countermand/countermandlaw27.BoundMost -/
def f_law27_BoundMost (D : HV → List HV → M HV) (args : List HV) : M HV :=
fin (
uL args fun x0 r =>
nl r (
bnd (f_law27_alive D []) fun r_1 =>
asB r_1 fun x7 =>
cond (!x7) (
ret (.ret [.bool false])) (
bnd (f_bound_Most D [.sl x0]) fun r_2 =>
asSl r_2 fun x10 =>
bnd (f_ref27_Can D [.sl x0]) fun r_3 =>
asB r_3 fun x12 =>
cond (!x12) (
jn (
cond ((x10.len : Int) == 0) (
bnd (f_bound_Total D [.sl x0]) fun r_4 =>
asI .i64 r_4 fun x19 =>
ret (.norm [.bool (x19 == 0)])) (
ret (.norm [.bool false]))) fun vs =>
uB vs fun x2 r_5 =>
nl r_5 (
ret (.ret [.bool x2]))) (
bnd (f_ref27_Most D [.sl x0]) fun r_6 =>
asA r_6 fun x23l =>
gd (Nat.beq x23l.length 49) (
gd (Nat.ble (0 + x23l.length) ([I 0, I 0, I 0, I 0, I 0, I 0, I 0, I 0, I 0, I 0, I 0, I 0, I 0, I 0, I 0, I 0, I 0, I 0, I 0, I 0, I 0, I 0, I 0, I 0, I 0, I 0, I 0, I 0, I 0, I 0, I 0, I 0, I 0, I 0, I 0, I 0, I 0, I 0, I 0, I 0, I 0, I 0, I 0, I 0, I 0, I 0, I 0, I 0, I 0]).length) (
jn (
cond ((x10.len : Int) != (wr ((x0.len : Int) + 1))) (
ret (.norm [.bool true])) (
bnd (f_bound_Total D [.sl x0]) fun r_7 =>
asI .i64 r_7 fun x32 =>
bnd (f_ref27_Total D [.sl x0]) fun r_8 =>
asI .i64 r_8 fun x34 =>
ret (.norm [.bool (x32 != x34)]))) fun vs_1 =>
uB vs_1 fun x36 r_9 =>
nl r_9 (
cond x36 (
ret (.ret [.bool false])) (
blk 0 (
loopD (fun vs_3 =>
uI .i64 vs_3 fun x39 r_10 =>
nl r_10 (
cond (decide (x39 < (x10.len : Int))) (
ix x10 x39 1 fun x42b x42o =>
ldC x42b x42o fun v => asI .i64 v fun x43 =>
gd (decide (0 ≤ x39)) (gd (decide (x39 < (49 : Int))) (
gx (putN [I 0, I 0, I 0, I 0, I 0, I 0, I 0, I 0, I 0, I 0, I 0, I 0, I 0, I 0, I 0, I 0, I 0, I 0, I 0, I 0, I 0, I 0, I 0, I 0, I 0, I 0, I 0, I 0, I 0, I 0, I 0, I 0, I 0, I 0, I 0, I 0, I 0, I 0, I 0, I 0, I 0, I 0, I 0, I 0, I 0, I 0, I 0, I 0, I 0] 0 x23l) (0 + x39.toNat * 1) fun v_1 => asI .i64 v_1 fun x47 =>
cond (x43 != x47) (
ret (.ret [.bool false])) (
ret (.norm [I (wr (x39 + 1))]))))) (
ret (.exit 0 [])))) [I 0]) fun vs_2 =>
nl vs_2 (
ret (.ret [.bool true]))))))))))

end Go.Proofs.Ytolchnaegifckaa.HL
