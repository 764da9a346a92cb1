/- The texts of functions, printed out of the dump by hlgen3.py. Conditions: none (definitions). -/
import Derived.Test.YtoogohhlmdgdpaaGreatHL5i
import Derived.Test.YtoogohhlmdgdpaaGreatHL5n
namespace Go.Proofs.YtoogohhlmdgdpaaGreat.HL
open Go
set_option maxRecDepth 100000
set_option linter.unusedVariables false

/-- countermand/witness.alike -/
noncomputable def f_witness_alike (D : HV → List HV → M HV) (args : List HV) : M HV :=
fin (
uA args fun x0l r =>
uI .i64 x0l fun x0c0 r_1 =>
uI .i64 r_1 fun x0c1 r_2 =>
uI .i64 r_2 fun x0c2 r_3 =>
nl r_3 (
uA r fun x1l r_4 =>
uI .i64 x1l fun x1c0 r_5 =>
uI .i64 r_5 fun x1c1 r_6 =>
uI .i64 r_6 fun x1c2 r_7 =>
nl r_7 (
nl r_4 (
jn (
cond (x0c0 == x1c0) (
ret (.norm [.bool (x0c1 == x1c1)])) (
ret (.norm [.bool false]))) fun vs =>
uB vs fun x4 r_8 =>
nl r_8 (
ret (.ret [.bool x4]))))))

/-- countermand/witness.younger -/
noncomputable def f_witness_younger (D : HV → List HV → M HV) (args : List HV) : M HV :=
fin (
uL args fun x0 r =>
uL r fun x1 r_1 =>
uI .i64 r_1 fun x2 r_2 =>
nl r_2 (
blk 0 (
loopD (fun vs_1 =>
uI .i64 vs_1 fun x13 r_3 =>
nl r_3 (
cond (decide (x13 < (x0.len : Int))) (
ix x0 x13 3 fun x15b x15o =>
ldN x15b x15o 3 fun x16l =>
uI .i64 x16l fun x16c0 r_4 =>
uI .i64 r_4 fun x16c1 r_5 =>
uI .i64 r_5 fun x16c2 r_6 =>
nl r_6 (
blk 2 (
loopD (fun vs_3 =>
uI .i64 vs_3 fun x19 r_7 =>
nl r_7 (
cond (decide (x19 < (x1.len : Int))) (
ix x1 x19 3 fun x21b x21o =>
ldN x21b x21o 3 fun x22l =>
uI .i64 x22l fun x22c0 r_8 =>
uI .i64 r_8 fun x22c1 r_9 =>
uI .i64 r_9 fun x22c2 r_10 =>
nl r_10 (
jn (
bnd (f_witness_alike D [.agg [I x16c0, I x16c1, I x16c2], .agg [I x22c0, I x22c1, I x22c2]]) fun r_11 =>
asB r_11 fun x25 =>
cond x25 (
cond (decide (x22c2 ≥ x2)) (
ret (.norm [.bool (decide (x16c2 ≤ (wr (x22c2 - x2))))])) (
ret (.norm [.bool false]))) (
ret (.norm [.bool false]))) fun vs_4 =>
uB vs_4 fun x40 r_12 =>
nl r_12 (
cond x40 (
ret (.ret [.bool true])) (
ret (.norm [I (wr (x19 + 1))]))))) (
ret (.exit 2 [])))) [I 0]) fun vs_2 =>
nl vs_2 (
ret (.norm [I (wr (x13 + 1))])))) (
ret (.exit 0 [])))) [I 0]) fun vs =>
nl vs (
ret (.ret [.bool false]))))

/-- countermand/witness.ahead -/
noncomputable def f_witness_ahead (D : HV → List HV → M HV) (args : List HV) : M HV :=
fin (
uA args fun x0l r =>
uL x0l fun x0c0 r_1 =>
uL r_1 fun x0c1 r_2 =>
nl r_2 (
uA r fun x1l r_3 =>
uL x1l fun x1c0 r_4 =>
uL r_4 fun x1c1 r_5 =>
nl r_5 (
nl r_3 (
jn (
bnd (f_witness_younger D [.sl x0c1, .sl x1c0, I 0]) fun r_6 =>
asB r_6 fun x9 =>
cond x9 (
ret (.norm [.bool true])) (
bnd (f_witness_younger D [.sl x0c1, .sl x1c1, I 1]) fun r_7 =>
asB r_7 fun x15 =>
cond x15 (
ret (.norm [.bool true])) (
bnd (f_witness_younger D [.sl x0c0, .sl x1c1, I 1]) fun r_8 =>
asB r_8 fun x22 =>
ret (.norm [.bool x22])))) fun vs =>
uB vs fun x4 r_9 =>
nl r_9 (
ret (.ret [.bool x4]))))))

/-- countermand/witness.single -/
noncomputable def f_witness_single (D : HV → List HV → M HV) (args : List HV) : M HV :=
fin (
uL args fun x0 r =>
uI .i64 r fun x1 r_1 =>
nl r_1 (
cond (decide ((x0.len : Int) > 24)) (
ret (.ret [.bool false])) (
blk 0 (
loopD (fun vs_1 =>
uI .i64 vs_1 fun x14 r_2 =>
nl r_2 (
cond (decide (x14 < (x0.len : Int))) (
ix x0 x14 3 fun x17b x17o =>
ldN x17b x17o 3 fun x18l =>
uI .i64 x18l fun x18c0 r_3 =>
uI .i64 r_3 fun x18c1 r_4 =>
uI .i64 r_4 fun x18c2 r_5 =>
nl r_5 (
jn (
cond (decide (x18c0 < 0)) (
ret (.norm [.bool true])) (
cond (decide (x18c0 > 2)) (
ret (.norm [.bool true])) (
cond (decide (x18c1 < 0)) (
ret (.norm [.bool true])) (
cond (decide (x18c1 ≥ 8)) (
ret (.norm [.bool true])) (
ret (.norm [.bool (decide (x18c2 < x1))])))))) fun vs_2 =>
uB vs_2 fun x42 r_6 =>
nl r_6 (
cond x42 (
ret (.ret [.bool false])) (
gd (decide (0 ≤ 0)) (gd (decide (0 ≤ x14)) (gd (decide (x14 ≤ (x0.cap : Int))) (gd (decide ((x0.cap : Int) ≤ (x0.cap : Int))) (gd (slOk x0.opn 3) (
blk 2 (
loopD (fun vs_4 =>
uI .i64 vs_4 fun x47 r_7 =>
nl r_7 (
cond (decide (x47 < ((x14 - 0 : Int).toNat : Int))) (
ix (⟨bif decide ((x0.cap : Int) = 0) then x0.p else x0.p.map (fun q => (q.1, q.2 + (0 : Int).toNat * 3)), (x14 - 0 : Int).toNat, ((x0.cap : Int) - 0 : Int).toNat, slOp x0.opn (decide (0 < (x0.cap : Int)))⟩) x47 3 fun x49b x49o =>
ldN x49b x49o 3 fun x50l =>
uI .i64 x50l fun x50c0 r_8 =>
uI .i64 r_8 fun x50c1 r_9 =>
uI .i64 r_9 fun x50c2 r_10 =>
nl r_10 (
bnd (f_witness_alike D [.agg [I x18c0, I x18c1, I x18c2], .agg [I x50c0, I x50c1, I x50c2]]) fun r_11 =>
asB r_11 fun x53 =>
cond x53 (
ret (.ret [.bool false])) (
ret (.norm [I (wr (x47 + 1))])))) (
ret (.exit 2 [])))) [I 0]) fun vs_3 =>
nl vs_3 (
ret (.norm [I (wr (x14 + 1))]))))))))))) (
ret (.exit 0 [])))) [I 0]) fun vs =>
nl vs (
ret (.ret [.bool true])))))

/-- slices.Index[[]countermand/reads.Entry,countermand/reads.Entry] -/
noncomputable def f_slices_Index_reads_Entry_reads_Entry (D : HV → List HV → M HV) (args : List HV) : M HV :=
fin (
uL args fun x0 r =>
uA r fun x1l r_1 =>
uI .i64 x1l fun x1c0 r_2 =>
uI .i64 r_2 fun x1c1 r_3 =>
uI .i64 r_3 fun x1c2 r_4 =>
nl r_4 (
nl r_1 (
blk 0 (
loopD (fun vs_1 =>
uI .i64 vs_1 fun x8 r_5 =>
nl r_5 (
cond (decide (x8 < (x0.len : Int))) (
ix x0 x8 3 fun x14b x14o =>
ldN x14b x14o 3 fun x15l =>
uI .i64 x15l fun x15c0 r_6 =>
uI .i64 r_6 fun x15c1 r_7 =>
uI .i64 r_7 fun x15c2 r_8 =>
nl r_8 (
cond (cond (x1c0 == x15c0) (cond (x1c1 == x15c1) (cond (x1c2 == x15c2) true false) false) false) (
ret (.ret [I x8])) (
ret (.norm [I (wr (x8 + 1))])))) (
ret (.exit 0 [])))) [I 0]) fun vs =>
nl vs (
ret (.ret [I (-1)])))))

/-- slices.Contains[[]countermand/reads.Entry,countermand/reads.Entry] -/
noncomputable def f_slices_Contains_reads_Entry_reads_Entry (D : HV → List HV → M HV) (args : List HV) : M HV :=
fin (
uL args fun x0 r =>
uA r fun x1l r_1 =>
uI .i64 x1l fun x1c0 r_2 =>
uI .i64 r_2 fun x1c1 r_3 =>
uI .i64 r_3 fun x1c2 r_4 =>
nl r_4 (
nl r_1 (
bnd (f_slices_Index_reads_Entry_reads_Entry D [.sl x0, .agg [I x1c0, I x1c1, I x1c2]]) fun r_5 =>
asI .i64 r_5 fun x7 =>
ret (.ret [.bool (decide (x7 ≥ 0))]))))

/-- countermand/witness.writers -/
noncomputable def f_witness_writers (D : HV → List HV → M HV) (args : List HV) : M HV :=
fin (
uL args fun x0 r =>
uA r fun x1l r_1 =>
uI .i64 x1l fun x1c0 r_2 =>
uI .i64 r_2 fun x1c1 r_3 =>
uI .i64 r_3 fun x1c2 r_4 =>
nl r_4 (
nl r_1 (
blk 0 (
loopD (fun vs_1 =>
uI .i64 vs_1 fun x5 r_5 =>
uI .i64 r_5 fun x10 r_6 =>
nl r_6 (
cond (decide (x10 < (x0.len : Int))) (
blk 1 (
ix x0 x10 2 fun x12b x12o =>
ldN x12b x12o 2 fun x13l =>
uL x13l fun x13c0 r_7 =>
uL r_7 fun x13c1 r_8 =>
nl r_8 (
bnd (f_slices_Contains_reads_Entry_reads_Entry D [.sl x13c1, .agg [I x1c0, I x1c1, I x1c2]]) fun r_9 =>
asB r_9 fun x17 =>
cond x17 (
ret (.norm [I (wr (x5 + 1))])) (
ret (.norm [I x5])))) fun vs_2 =>
uI .i64 vs_2 fun x5_1 r_10 =>
nl r_10 (
ret (.norm [I x5_1, I (wr (x10 + 1))]))) (
ret (.exit 0 [I x5])))) [I 0, I 0]) fun vs =>
uI .i64 vs fun x5_2 r_11 =>
nl r_11 (
ret (.ret [I x5_2])))))

/-- countermand/witness.can -/
noncomputable def f_witness_can (D : HV → List HV → M HV) (args : List HV) : M HV :=
fin (
uL args fun x0 r =>
nl r (
blk 0 (
loopD (fun vs_1 =>
uI .i64 vs_1 fun x13 r_1 =>
nl r_1 (
cond (decide (x13 < (x0.len : Int))) (
ix x0 x13 2 fun x15b x15o =>
ldN x15b x15o 2 fun x16l =>
uL x16l fun x16c0 r_2 =>
uL r_2 fun x16c1 r_3 =>
nl r_3 (
jn (
bnd (f_witness_single D [.sl x16c0, I 0]) fun r_4 =>
asB r_4 fun x19 =>
cond (!x19) (
ret (.norm [.bool true])) (
bnd (f_witness_single D [.sl x16c1, I 1]) fun r_5 =>
asB r_5 fun x24 =>
ret (.norm [.bool (!x24)]))) fun vs_2 =>
uB vs_2 fun x26 r_6 =>
nl r_6 (
cond x26 (
ret (.ret [.bool false])) (
ret (.norm [I (wr (x13 + 1))]))))) (
ret (.exit 0 [])))) [I 0]) fun vs =>
nl vs (
blk 2 (
loopD (fun vs_4 =>
uI .i64 vs_4 fun x30 r_7 =>
nl r_7 (
cond (decide (x30 < (x0.len : Int))) (
ix x0 x30 2 fun x32b x32o =>
ldN x32b x32o 2 fun x33l =>
uL x33l fun x33c0 r_8 =>
uL r_8 fun x33c1 r_9 =>
nl r_9 (
blk 4 (
loopD (fun vs_6 =>
uI .i64 vs_6 fun x37 r_10 =>
nl r_10 (
cond (decide (x37 < (x33c1.len : Int))) (
ix x33c1 x37 3 fun x39b x39o =>
ldN x39b x39o 3 fun x40l =>
uI .i64 x40l fun x40c0 r_11 =>
uI .i64 r_11 fun x40c1 r_12 =>
uI .i64 r_12 fun x40c2 r_13 =>
nl r_13 (
bnd (f_witness_writers D [.sl x0, .agg [I x40c0, I x40c1, I x40c2]]) fun r_14 =>
asI .i64 r_14 fun x43 =>
cond (x43 != 1) (
ret (.ret [.bool false])) (
ret (.norm [I (wr (x37 + 1))])))) (
ret (.exit 4 [])))) [I 0]) fun vs_5 =>
nl vs_5 (
blk 6 (
loopD (fun vs_8 =>
uI .i64 vs_8 fun x49 r_15 =>
nl r_15 (
cond (decide (x49 < (x33c0.len : Int))) (
ix x33c0 x49 3 fun x51b x51o =>
ldN x51b x51o 3 fun x52l =>
uI .i64 x52l fun x52c0 r_16 =>
uI .i64 r_16 fun x52c1 r_17 =>
uI .i64 r_17 fun x52c2 r_18 =>
nl r_18 (
jn (
cond (decide (x52c2 > 0)) (
bnd (f_witness_writers D [.sl x0, .agg [I x52c0, I x52c1, I x52c2]]) fun r_19 =>
asI .i64 r_19 fun x59 =>
ret (.norm [.bool (x59 != 1)])) (
ret (.norm [.bool false]))) fun vs_9 =>
uB vs_9 fun x61 r_20 =>
nl r_20 (
cond x61 (
ret (.ret [.bool false])) (
ret (.norm [I (wr (x49 + 1))]))))) (
ret (.exit 6 [])))) [I 0]) fun vs_7 =>
nl vs_7 (
ret (.norm [I (wr (x30 + 1))]))))) (
ret (.exit 2 [])))) [I 0]) fun vs_3 =>
nl vs_3 (
ret (.ret [.bool true])))))

/-- slices.Index[[]int,int] -/
noncomputable def f_slices_Index_int_int (D : HV → List HV → M HV) (args : List HV) : M HV :=
fin (
uL args fun x0 r =>
uI .i64 r fun x1 r_1 =>
nl r_1 (
blk 0 (
loopD (fun vs_1 =>
uI .i64 vs_1 fun x8 r_2 =>
nl r_2 (
cond (decide (x8 < (x0.len : Int))) (
ix x0 x8 1 fun x14b x14o =>
ldC x14b x14o fun v => asI .i64 v fun x15 =>
cond (x1 == x15) (
ret (.ret [I x8])) (
ret (.norm [I (wr (x8 + 1))]))) (
ret (.exit 0 [])))) [I 0]) fun vs =>
nl vs (
ret (.ret [I (-1)]))))

/-- countermand/witness.order[countermand/witness.Deed] -/
noncomputable def f_witness_order_witness_Deed (D : HV → List HV → M HV) (args : List HV) : M HV :=
fin (
uL args fun x0 r =>
uc r fun x1 r_1 =>
nl r_1 (
gd (decide (0 ≤ (x0.len : Int))) (gd (decide ((x0.len : Int) ≤ (x0.len : Int))) (gd (decide ((x0.len : Int).toNat * 8 ≤ room)) (
nw (repL (x0.len : Int).toNat [I 0]) fun b17 =>
blk 0 (
loopD (fun vs_1 =>
uI .i64 vs_1 fun x20 r_2 =>
nl r_2 (
cond (decide (x20 < (x0.len : Int))) (
ix x0 x20 2 fun x23b x23o =>
ldN x23b x23o 2 fun x24l =>
uL x24l fun x24c0 r_3 =>
uL r_3 fun x24c1 r_4 =>
nl r_4 (
blk 2 (
loopD (fun vs_3 =>
uI .i64 vs_3 fun x27 r_5 =>
nl r_5 (
cond (decide (x27 < (x0.len : Int))) (
blk 3 (
ix x0 x27 2 fun x30b x30o =>
ldN x30b x30o 2 fun x31l =>
uL x31l fun x31c0 r_6 =>
uL r_6 fun x31c1 r_7 =>
nl r_7 (
jn (
cond (x20 != x27) (
bnd (D x1 [.agg [.sl x24c0, .sl x24c1], .agg [.sl x31c0, .sl x31c1]]) fun r_8 =>
asB r_8 fun x39 =>
ret (.norm [.bool x39])) (
ret (.norm [.bool false]))) fun vs_5 =>
uB vs_5 fun x40 r_9 =>
nl r_9 (
cond x40 (
ix (⟨some (b17, 0), (x0.len : Int).toNat, (x0.len : Int).toNat, none⟩) x27 1 fun x43b x43o =>
ldC x43b x43o fun v => asI .i64 v fun x44 =>
ix (⟨some (b17, 0), (x0.len : Int).toNat, (x0.len : Int).toNat, none⟩) x27 1 fun x46b x46o =>
stC x46b x46o (I (wr (x44 + 1))) (
ret (.norm []))) (
ret (.norm []))))) fun vs_4 =>
nl vs_4 (
ret (.norm [I (wr (x27 + 1))]))) (
ret (.exit 2 [])))) [I 0]) fun vs_2 =>
nl vs_2 (
ret (.norm [I (wr (x20 + 1))])))) (
ret (.exit 0 [])))) [I 0]) fun vs =>
nl vs (
blk 4 (
loopD (fun vs_7 =>
uL vs_7 fun x11 r_10 =>
uI .i64 r_10 fun x51 r_11 =>
nl r_11 (
cond (decide (x51 < (x0.len : Int))) (
bnd (f_slices_Index_int_int D [.sl (⟨some (b17, 0), (x0.len : Int).toNat, (x0.len : Int).toNat, none⟩), I 0]) fun r_12 =>
asI .i64 r_12 fun x54 =>
cond (decide (x54 < 0)) (
ret (.ret [.sl (⟨none, 0, 0, none⟩), .bool false])) (
ix (⟨some (b17, 0), (x0.len : Int).toNat, (x0.len : Int).toNat, none⟩) x54 1 fun x59b x59o =>
stC x59b x59o (I (-1)) (
blk 6 (
loopD (fun vs_9 =>
uI .i64 vs_9 fun x62 r_13 =>
nl r_13 (
cond (decide (x62 < (x0.len : Int))) (
blk 7 (
ix x0 x62 2 fun x65b x65o =>
ldN x65b x65o 2 fun x66l =>
uL x66l fun x66c0 r_14 =>
uL r_14 fun x66c1 r_15 =>
nl r_15 (
jn (
cond (x62 != x54) (
ix x0 x54 2 fun x74b x74o =>
ldN x74b x74o 2 fun x75l =>
uL x75l fun x75c0 r_16 =>
uL r_16 fun x75c1 r_17 =>
nl r_17 (
bnd (D x1 [.agg [.sl x75c0, .sl x75c1], .agg [.sl x66c0, .sl x66c1]]) fun r_18 =>
asB r_18 fun x77 =>
ret (.norm [.bool x77]))) (
ret (.norm [.bool false]))) fun vs_11 =>
uB vs_11 fun x78 r_19 =>
nl r_19 (
cond x78 (
ix (⟨some (b17, 0), (x0.len : Int).toNat, (x0.len : Int).toNat, none⟩) x62 1 fun x81b x81o =>
ldC x81b x81o fun v_1 => asI .i64 v_1 fun x82 =>
ix (⟨some (b17, 0), (x0.len : Int).toNat, (x0.len : Int).toNat, none⟩) x62 1 fun x84b x84o =>
stC x84b x84o (I (wr (x82 - 1))) (
ret (.norm []))) (
ret (.norm []))))) fun vs_10 =>
nl vs_10 (
ret (.norm [I (wr (x62 + 1))]))) (
ret (.exit 6 [])))) [I 0]) fun vs_8 =>
nl vs_8 (
apd x11 1 8 1 [I x54] fun x89 =>
ret (.norm [.sl x89, I (wr (x51 + 1))]))))) (
ret (.exit 4 [.sl x11])))) [.sl (⟨none, 0, 0, none⟩), I 0]) fun vs_6 =>
uL vs_6 fun x11_1 r_20 =>
nl r_20 (
ret (.ret [.sl x11_1, .bool true]))))))))

/-- countermand/witness.Serial -/
noncomputable def f_witness_Serial (D : HV → List HV → M HV) (args : List HV) : M HV :=
fin (
uL args fun x0 r =>
nl r (
cond (decide ((x0.len : Int) > 160)) (
ret (.ret [.sl (⟨none, 0, 0, none⟩), I 3])) (
bnd (f_witness_can D [.sl x0]) fun r_1 =>
asB r_1 fun x14 =>
cond (!x14) (
ret (.ret [.sl (⟨none, 0, 0, none⟩), I 1])) (
blk 1 (
loopD (fun vs_1 =>
uI .i64 vs_1 fun x18 r_2 =>
nl r_2 (
cond (decide (x18 < (x0.len : Int))) (
ix x0 x18 2 fun x20b x20o =>
ldN x20b x20o 2 fun x21l =>
uL x21l fun x21c0 r_3 =>
uL r_3 fun x21c1 r_4 =>
nl r_4 (
bnd (f_witness_younger D [.sl x21c1, .sl x21c0, I 0]) fun r_5 =>
asB r_5 fun x26 =>
cond x26 (
ret (.ret [.sl (⟨none, 0, 0, none⟩), I 5])) (
ret (.norm [I (wr (x18 + 1))])))) (
ret (.exit 1 [])))) [I 0]) fun vs =>
nl vs (
bnd (f_witness_order_witness_Deed D [.sl x0, .func n_witness_ahead [] []]) fun r_6 =>
asT r_6 fun x30l => uL x30l fun x30t0 r_7 =>
uB r_7 fun x30t1 r_8 =>
nl r_8 (
cond (!x30t1) (
ret (.ret [.sl (⟨none, 0, 0, none⟩), I 5])) (
ret (.ret [.sl x30t0, I 0]))))))))

/-- (*countermand/witness.board).done -/
noncomputable def f_witness_board_done (D : HV → List HV → M HV) (args : List HV) : M HV :=
fin (
uP args fun x0 r =>
uA r fun x1l r_1 =>
uL x1l fun x1c0 r_2 =>
uL r_2 fun x1c1 r_3 =>
nl r_3 (
nl r_1 (
blk 0 (
loopD (fun vs_1 =>
uI .i64 vs_1 fun x12 r_4 =>
nl r_4 (
cond (decide (x12 < (x1c0.len : Int))) (
ix x1c0 x12 3 fun x14b x14o =>
ldN x14b x14o 3 fun x15l =>
uI .i64 x15l fun x15c0 r_5 =>
uI .i64 r_5 fun x15c1 r_6 =>
uI .i64 r_6 fun x15c2 r_7 =>
nl r_7 (
mP x0 fun x21b x21o =>
gd (decide (0 ≤ x15c0)) (gd (decide (x15c0 < (3 : Int))) (
gd (decide (0 ≤ x15c1)) (gd (decide (x15c1 < (8 : Int))) (
ldC x21b (x21o + x15c0.toNat * 8 + x15c1.toNat * 1) fun v => asI .i64 v fun x24 =>
cond (x24 != x15c2) (
ret (.ret [.bool false])) (
ret (.norm [I (wr (x12 + 1))])))))))) (
ret (.exit 0 [])))) [I 0]) fun vs =>
nl vs (
blk 2 (
loopD (fun vs_3 =>
uI .i64 vs_3 fun x32 r_8 =>
nl r_8 (
cond (decide (x32 < (x1c1.len : Int))) (
ix x1c1 x32 3 fun x34b x34o =>
ldN x34b x34o 3 fun x35l =>
uI .i64 x35l fun x35c0 r_9 =>
uI .i64 r_9 fun x35c1 r_10 =>
uI .i64 r_10 fun x35c2 r_11 =>
nl r_11 (
mP x0 fun x41b x41o =>
gd (decide (0 ≤ x35c0)) (gd (decide (x35c0 < (3 : Int))) (
gd (decide (0 ≤ x35c1)) (gd (decide (x35c1 < (8 : Int))) (
ldC x41b (x41o + x35c0.toNat * 8 + x35c1.toNat * 1) fun v_1 => asI .i64 v_1 fun x44 =>
cond (decide (x44 ≥ x35c2)) (
ret (.ret [.bool false])) (
mP x0 fun x55b x55o =>
gd (decide (0 ≤ x35c0)) (gd (decide (x35c0 < (3 : Int))) (
gd (decide (0 ≤ x35c1)) (gd (decide (x35c1 < (8 : Int))) (
stC x55b (x55o + x35c0.toNat * 8 + x35c1.toNat * 1) (I x35c2) (
ret (.norm [I (wr (x32 + 1))]))))))))))))) (
ret (.exit 2 [])))) [I 0]) fun vs_2 =>
nl vs_2 (
ret (.ret [.bool true]))))))

/-- countermand/witness.Replays -/
noncomputable def f_witness_Replays (D : HV → List HV → M HV) (args : List HV) : M HV :=
fin (
uL args fun x0 r =>
uL r fun x1 r_1 =>
nl r_1 (
jn (
cond (decide ((x0.len : Int) > 160)) (
ret (.norm [.bool true])) (
cond ((x1.len : Int) != (x0.len : Int)) (
ret (.norm [.bool true])) (
bnd (f_witness_can D [.sl x0]) fun r_2 =>
asB r_2 fun x21 =>
ret (.norm [.bool (!x21)])))) fun vs =>
uB vs fun x23 r_3 =>
nl r_3 (
cond x23 (
ret (.ret [.bool false])) (
nw [I 0, I 0, I 0, I 0, I 0, I 0, I 0, I 0, I 0, I 0, I 0, I 0, I 0, I 0, I 0, I 0, I 0, I 0, I 0, I 0, I 0, I 0, I 0, I 0] fun b5 =>
gd (decide (0 ≤ (x0.len : Int))) (gd (decide ((x0.len : Int) ≤ (x0.len : Int))) (gd (decide ((x0.len : Int).toNat * 1 ≤ room)) (
nw (repL (x0.len : Int).toNat [.bool false]) fun b26 =>
blk 0 (
loopD (fun vs_2 =>
uI .i64 vs_2 fun x29 r_4 =>
nl r_4 (
cond (decide (x29 < (x1.len : Int))) (
ix x1 x29 1 fun x31b x31o =>
ldC x31b x31o fun v => asI .i64 v fun x32 =>
jn (
cond (decide (x32 < 0)) (
ret (.norm [.bool true])) (
cond (decide (x32 ≥ (x0.len : Int))) (
ret (.norm [.bool true])) (
ix (⟨some (b26, 0), (x0.len : Int).toNat, (x0.len : Int).toNat, none⟩) x32 1 fun x44b x44o =>
ldC x44b x44o fun v_1 => asB v_1 fun x45 =>
cond x45 (
ret (.norm [.bool true])) (
ix x0 x32 2 fun x50b x50o =>
ldN x50b x50o 2 fun x51l =>
uL x51l fun x51c0 r_5 =>
uL r_5 fun x51c1 r_6 =>
nl r_6 (
bnd (f_witness_board_done D [.ptr (some (b5, 0)), .agg [.sl x51c0, .sl x51c1]]) fun r_7 =>
asB r_7 fun x52 =>
ret (.norm [.bool (!x52)])))))) fun vs_3 =>
uB vs_3 fun x54 r_8 =>
nl r_8 (
cond x54 (
ret (.ret [.bool false])) (
ix (⟨some (b26, 0), (x0.len : Int).toNat, (x0.len : Int).toNat, none⟩) x32 1 fun x57b x57o =>
stC x57b x57o (.bool true) (
ret (.norm [I (wr (x29 + 1))]))))) (
ret (.exit 0 [])))) [I 0]) fun vs_1 =>
nl vs_1 (
ret (.ret [.bool true])))))))))

/-- countermand/countermandlaw30.alive -/
noncomputable def f_law30_alive (D : HV → List HV → M HV) (args : List HV) : M HV :=
fin (
nl args (
nw [I 0, I 0, I 0] fun b8 =>
nw [I 0, I 0, I 1] fun b11 =>
nw [I 0, I 0, I 2] fun b15 =>
nw [.sl (⟨some (b8, 0), 1, 1, none⟩), .sl (⟨some (b11, 0), 1, 1, none⟩), .sl (⟨some (b8, 0), 1, 1, none⟩), .sl (⟨some (b15, 0), 1, 1, none⟩)] fun b17 =>
bnd (f_witness_Serial D [.sl (⟨some (b17, 0), 2, 2, none⟩)]) fun r =>
asT r fun x20l => uL x20l fun x20t0 r_1 =>
uI .i64 r_1 fun x20t1 r_2 =>
nl r_2 (
gd (decide (0 ≤ 0)) (gd (decide (0 ≤ 1)) (gd (decide (1 ≤ (2 : Int))) (gd (decide ((2 : Int) ≤ (2 : Int))) (gd (slOk none 2) (
bnd (f_witness_Serial D [.sl (⟨bif decide ((2 : Int) = 0) then some (b17, 0) else (some (b17, 0)).map (fun q => (q.1, q.2 + (0 : Int).toNat * 2)), (1 - 0 : Int).toNat, ((2 : Int) - 0 : Int).toNat, none⟩)]) fun r_3 =>
asT r_3 fun x26l => uL x26l fun x26t0 r_4 =>
uI .i64 r_4 fun x26t1 r_5 =>
nl r_5 (
jn (
cond (x20t1 == 5) (
cond (x26t1 == 0) (
cond ((x26t0.len : Int) == 1) (
ix x26t0 0 1 fun x42b x42o =>
ldC x42b x42o fun v => asI .i64 v fun x43 =>
cond (x43 == 0) (
gd (decide (0 ≤ 0)) (gd (decide (0 ≤ 1)) (gd (decide (1 ≤ (2 : Int))) (gd (decide ((2 : Int) ≤ (2 : Int))) (gd (slOk none 2) (
bnd (f_witness_Replays D [.sl (⟨bif decide ((2 : Int) = 0) then some (b17, 0) else (some (b17, 0)).map (fun q => (q.1, q.2 + (0 : Int).toNat * 2)), (1 - 0 : Int).toNat, ((2 : Int) - 0 : Int).toNat, none⟩), .sl x26t0]) fun r_6 =>
asB r_6 fun x50 =>
ret (.norm [.bool x50]))))))) (
ret (.norm [.bool false]))) (
ret (.norm [.bool false]))) (
ret (.norm [.bool false]))) (
ret (.norm [.bool false]))) fun vs =>
uB vs fun x0 r_7 =>
nl r_7 (
ret (.ret [.bool x0])))))))))))

/-- countermand/cell.New[int] -/
noncomputable def f_cell_New_int (D : HV → List HV → M HV) (args : List HV) : M HV :=
fin (
uI .i64 args fun x0 r =>
uI .i64 r fun x1 r_1 =>
nl r_1 (
nw [.sl (⟨none, 0, 0, none⟩)] fun b7 =>
blk 0 (
loopD (fun vs_1 =>
uI .i64 vs_1 fun x9 r_2 =>
nl r_2 (
cond (decide (x9 < x0)) (
ldC b7 0 fun v => asSl v fun x15 =>
apd x15 2 16 1 [I x1, I 0] fun x19 =>
stC b7 0 (.sl x19) (
ret (.norm [I (wr (x9 + 1))]))) (
ret (.exit 0 [])))) [I 0]) fun vs =>
nl vs (
ret (.ret [.ptr (some (b7, 0))]))))

/-- countermand/cell.New[countermand/file.File] -/
noncomputable def f_cell_New_file_File (D : HV → List HV → M HV) (args : List HV) : M HV :=
fin (
uI .i64 args fun x0 r =>
uA r fun x1l r_1 =>
uB x1l fun x1c0 r_2 =>
uS r_2 fun x1c1 r_3 =>
nl r_3 (
nl r_1 (
nw [.sl (⟨none, 0, 0, none⟩)] fun b7 =>
blk 0 (
loopD (fun vs_1 =>
uI .i64 vs_1 fun x9 r_4 =>
nl r_4 (
cond (decide (x9 < x0)) (
ldC b7 0 fun v => asSl v fun x15 =>
apd x15 3 32 1 [.bool x1c0, .str x1c1, I 0] fun x19 =>
stC b7 0 (.sl x19) (
ret (.norm [I (wr (x9 + 1))]))) (
ret (.exit 0 [])))) [I 0]) fun vs =>
nl vs (
ret (.ret [.ptr (some (b7, 0))])))))

/-- countermand/tome.New -/
noncomputable def f_tome_New (D : HV → List HV → M HV) (args : List HV) : M HV :=
fin (
nl args (
bnd (f_cell_New_file_File D [I 6, .agg [.bool false, .str (ByteArray.mk #[])]]) fun r =>
asP r fun x2 =>
nw [.ptr x2] fun b4 =>
ret (.ret [.ptr (some (b4, 0))])))

/-- countermand/feed.New -/
noncomputable def f_feed_New (D : HV → List HV → M HV) (args : List HV) : M HV :=
fin (
nl args (
bnd (f_cell_New_int D [I 3, I 0]) fun r =>
asP r fun x1 =>
nw [.str (ByteArray.mk #[]), .str (ByteArray.mk #[]), .str (ByteArray.mk #[]), .ptr x1] fun b3 =>
ret (.ret [.ptr (some (b3, 0))])))

/-- countermand/attempt.NewView -/
noncomputable def f_attempt_NewView (D : HV → List HV → M HV) (args : List HV) : M HV :=
fin (
nl args (
bnd (f_cell_New_int D [I 8, I 0]) fun r =>
asP r fun x1 =>
bnd (f_tome_New D []) fun r_1 =>
asP r_1 fun x2 =>
bnd (f_feed_New D []) fun r_2 =>
asP r_2 fun x3 =>
nw [.ptr x1, .ptr x2, .ptr x3, I 0] fun b5 =>
ret (.ret [.ptr (some (b5, 0))])))

/-- (*countermand/feed.Feed).is -/
noncomputable def f_feed_Feed_is (D : HV → List HV → M HV) (args : List HV) : M HV :=
fin (
uP args fun x0 r =>
uI .i64 r fun x1 r_1 =>
nl r_1 (
jn (
cond (!(Option.isNone x0)) (
cond (decide (x1 ≥ 0)) (
ret (.norm [.bool (decide (x1 < 3))])) (
ret (.norm [.bool false]))) (
ret (.norm [.bool false]))) fun vs =>
uB vs fun x4 r_2 =>
nl r_2 (
ret (.ret [.bool x4]))))

/-- (*countermand/feed.Feed).Arrive -/
noncomputable def f_feed_Feed_Arrive (D : HV → List HV → M HV) (args : List HV) : M HV :=
fin (
uP args fun x0 r =>
uI .i64 r fun x1 r_1 =>
uS r_1 fun x2 r_2 =>
nl r_2 (
cond (Option.isNone x0) (
ret (.ret [I 2])) (
bnd (f_feed_Feed_is D [.ptr x0, I x1]) fun r_3 =>
asB r_3 fun x13 =>
cond (!x13) (
ret (.ret [I 1])) (
mP x0 fun x20b x20o =>
gd (decide (0 ≤ x1)) (gd (decide (x1 < (3 : Int))) (
ldC x20b (x20o + x1.toNat * 1) fun v => asS v fun x23 =>
cond (decide ((x2.size : Int) > (wr (64 - (x23.size : Int))))) (
ret (.ret [I 6])) (
mP x0 fun x29b x29o =>
gd (decide (0 ≤ x1)) (gd (decide (x1 < (3 : Int))) (
ldC x29b (x29o + x1.toNat * 1) fun v_1 => asS v_1 fun x32 =>
gd (decide (x32.size + x2.size ≤ 9223372036854775807)) (
mP x0 fun x35b x35o =>
gd (decide (0 ≤ x1)) (gd (decide (x1 < (3 : Int))) (
stC x35b (x35o + x1.toNat * 1) (.str (x32 ++ x2)) (
ret (.ret [I 0]))))))))))))))

/-- countermand/reads.New -/
noncomputable def f_reads_New (D : HV → List HV → M HV) (args : List HV) : M HV :=
fin (
uI .i64 args fun x0 r =>
nl r (
nw [.sl (⟨none, 0, 0, none⟩), I x0] fun b5 =>
ret (.ret [.ptr (some (b5, 0))])))

/-- countermand/sheet.New -/
noncomputable def f_sheet_New (D : HV → List HV → M HV) (args : List HV) : M HV :=
fin (
nl args (
nw [.sl (⟨none, 0, 0, none⟩)] fun b2 =>
nw [.ptr (some (b2, 0))] fun b4 =>
ret (.ret [.ptr (some (b4, 0))])))

/-- countermand/mark.Fresh -/
noncomputable def f_mark_Fresh (D : HV → List HV → M HV) (args : List HV) : M HV :=
fin (
uA args fun x0l r =>
uI .i64 x0l fun x0c0 r_1 =>
uI .i64 r_1 fun x0c1 r_2 =>
uI .i64 r_2 fun x0c2 r_3 =>
uI .i64 r_3 fun x0c3 r_4 =>
nl r_4 (
nl r (
bnd (f_sheet_New D []) fun r_5 =>
asP r_5 fun x5 =>
nw [.sl (⟨none, 0, 0, none⟩)] fun b4 =>
nw [I 0, I 0, I 0] fun b7 =>
ret (.ret [.agg [.ptr (some (b4, 0)), .ptr x5, .ptr (some (b7, 0)), I x0c0, I x0c1, I x0c2, I x0c3]]))))

/-- countermand/attempt.New -/
noncomputable def f_attempt_New (D : HV → List HV → M HV) (args : List HV) : M HV :=
fin (
uP args fun x0 r =>
uA r fun x1l r_1 =>
uI .i64 x1l fun x1c0 r_2 =>
uI .i64 r_2 fun x1c1 r_3 =>
uI .i64 r_3 fun x1c2 r_4 =>
uI .i64 r_4 fun x1c3 r_5 =>
nl r_5 (
nl r_1 (
jn (
cond (Option.isNone x0) (
bnd (f_attempt_NewView D []) fun r_6 =>
asP r_6 fun x7 =>
ret (.norm [.ptr x7])) (
ret (.norm [.ptr x0]))) fun vs =>
uP vs fun x0_1 r_7 =>
nl r_7 (
mP x0_1 fun x10b x10o =>
ldC x10b (x10o + 3) fun v => asI .i64 v fun x12 =>
bnd (f_reads_New D [I x12]) fun r_8 =>
asP r_8 fun x13 =>
bnd (f_mark_Fresh D [.agg [I x1c0, I x1c1, I x1c2, I x1c3]]) fun r_9 =>
asA r_9 fun x15l => uP x15l fun x15c0 r_10 =>
uP r_10 fun x15c1 r_11 =>
uP r_11 fun x15c2 r_12 =>
uI .i64 r_12 fun x15c3 r_13 =>
uI .i64 r_13 fun x15c4 r_14 =>
uI .i64 r_14 fun x15c5 r_15 =>
uI .i64 r_15 fun x15c6 r_16 =>
nl r_16 (
nw [.sl (⟨none, 0, 0, none⟩), .sl (⟨none, 0, 0, none⟩), .sl (⟨none, 0, 0, none⟩), .sl (⟨none, 0, 0, none⟩)] fun b17 =>
nw [.sl (⟨none, 0, 0, none⟩)] fun b19 =>
nw [.ptr x0_1, .ptr x13, .ptr x15c0, .ptr x15c1, .ptr x15c2, I x15c3, I x15c4, I x15c5, I x15c6, .ptr (some (b17, 0)), .ptr (some (b19, 0))] fun b21 =>
ret (.ret [.ptr (some (b21, 0))]))))))

/-- countermand/draft.by[int] -/
noncomputable def f_draft_by_int (D : HV → List HV → M HV) (args : List HV) : M HV :=
fin (
uA args fun x0l r =>
uI .i64 x0l fun x0c0 r_1 =>
uI .i64 r_1 fun x0c1 r_2 =>
nl r_2 (
uI .i64 r fun x1 r_3 =>
nl r_3 (
cond (decide (x0c0 < x1)) (
ret (.ret [I (-1)])) (
cond (decide (x0c0 > x1)) (
ret (.ret [I 1])) (
ret (.ret [I 0]))))))

/-- slices.BinarySearchFunc[[]countermand/draft.entry[int],countermand/draft.entry[int],int] -/
noncomputable def f_slices_BinarySearchFunc_draft_entry_int_draft_entry_int_int (D : HV → List HV → M HV) (args : List HV) : M HV :=
fin (
uL args fun x0 r =>
uI .i64 r fun x1 r_1 =>
uc r_1 fun x2 r_2 =>
nl r_2 (
blk 0 (
loopD (fun vs_1 =>
uI .i64 vs_1 fun x9 r_3 =>
uI .i64 r_3 fun x10 r_4 =>
nl r_4 (
cond (decide (x9 < x10)) (
ix x0 (wr (Int.fdiv (IntKind.wrap .u64 (wr (x9 + x10))) (2 ^ 1))) 2 fun x27b x27o =>
ldN x27b x27o 2 fun x28l =>
uI .i64 x28l fun x28c0 r_5 =>
uI .i64 r_5 fun x28c1 r_6 =>
nl r_6 (
bnd (D x2 [.agg [I x28c0, I x28c1], I x1]) fun r_7 =>
asI .i64 r_7 fun x30 =>
cond (decide (x30 < 0)) (
ret (.norm [I (wr ((wr (Int.fdiv (IntKind.wrap .u64 (wr (x9 + x10))) (2 ^ 1))) + 1)), I x10])) (
ret (.norm [I x9, I (wr (Int.fdiv (IntKind.wrap .u64 (wr (x9 + x10))) (2 ^ 1)))])))) (
ret (.exit 0 [I x9])))) [I 0, I (x0.len : Int)]) fun vs =>
uI .i64 vs fun x9_1 r_8 =>
nl r_8 (
jn (
cond (decide (x9_1 < (x0.len : Int))) (
ix x0 x9_1 2 fun x43b x43o =>
ldN x43b x43o 2 fun x44l =>
uI .i64 x44l fun x44c0 r_9 =>
uI .i64 r_9 fun x44c1 r_10 =>
nl r_10 (
bnd (D x2 [.agg [I x44c0, I x44c1], I x1]) fun r_11 =>
asI .i64 r_11 fun x46 =>
ret (.norm [I x9_1, .bool (x46 == 0)]))) (
ret (.norm [I x9_1, .bool false]))) fun vs_2 =>
uI .i64 vs_2 fun x6 r_12 =>
uB r_12 fun x7 r_13 =>
nl r_13 (
ret (.ret [I x6, .bool x7])))))

/-- (*countermand/draft.Draft[int]).find -/
noncomputable def f_draft_Draft_int_find (D : HV → List HV → M HV) (args : List HV) : M HV :=
fin (
uP args fun x0 r =>
uI .i64 r fun x1 r_1 =>
nl r_1 (
mP x0 fun x7b x7o =>
ldC x7b x7o fun v => asSl v fun x9 =>
bnd (f_slices_BinarySearchFunc_draft_entry_int_draft_entry_int_int D [.sl x9, I x1, .func n_draft_by_int [] []]) fun r_2 =>
asT r_2 fun x11l => uI .i64 x11l fun x11t0 r_3 =>
uB r_3 fun x11t1 r_4 =>
nl r_4 (
ret (.ret [I x11t0, .bool x11t1]))))

/-- (*countermand/draft.Draft[int]).Get -/
noncomputable def f_draft_Draft_int_Get (D : HV → List HV → M HV) (args : List HV) : M HV :=
fin (
uP args fun x0 r =>
uI .i64 r fun x1 r_1 =>
nl r_1 (
cond (Option.isNone x0) (
ret (.ret [I 0, .bool false])) (
bnd (f_draft_Draft_int_find D [.ptr x0, I x1]) fun r_2 =>
asT r_2 fun x15l => uI .i64 x15l fun x15t0 r_3 =>
uB r_3 fun x15t1 r_4 =>
nl r_4 (
cond (!x15t1) (
ret (.ret [I 0, .bool false])) (
mP x0 fun x22b x22o =>
ldC x22b x22o fun v => asSl v fun x24 =>
ix x24 x15t0 2 fun x26b x26o =>
ldC x26b (x26o + 1) fun v_1 => asI .i64 v_1 fun x28 =>
ret (.ret [I x28, .bool true]))))))

/-- (*countermand/cell.Row[int]).is -/
noncomputable def f_cell_Row_int_is (D : HV → List HV → M HV) (args : List HV) : M HV :=
fin (
uP args fun x0 r =>
uI .i64 r fun x1 r_1 =>
nl r_1 (
jn (
cond (!(Option.isNone x0)) (
cond (decide (x1 ≥ 0)) (
mP x0 fun x14b x14o =>
ldC x14b x14o fun v => asSl v fun x16 =>
ret (.norm [.bool (decide (x1 < (x16.len : Int)))])) (
ret (.norm [.bool false]))) (
ret (.norm [.bool false]))) fun vs =>
uB vs fun x4 r_2 =>
nl r_2 (
ret (.ret [.bool x4]))))

/-- (*countermand/cell.Row[int]).Get -/
noncomputable def f_cell_Row_int_Get (D : HV → List HV → M HV) (args : List HV) : M HV :=
fin (
uP args fun x0 r =>
uI .i64 r fun x1 r_1 =>
nl r_1 (
bnd (f_cell_Row_int_is D [.ptr x0, I x1]) fun r_2 =>
asB r_2 fun x9 =>
cond (!x9) (
ret (.ret [I 0, I 0])) (
mP x0 fun x13b x13o =>
ldC x13b x13o fun v => asSl v fun x15 =>
ix x15 x1 2 fun x17b x17o =>
ldC x17b x17o fun v_1 => asI .i64 v_1 fun x19 =>
mP x0 fun x21b x21o =>
ldC x21b x21o fun v_2 => asSl v_2 fun x23 =>
ix x23 x1 2 fun x25b x25o =>
ldC x25b (x25o + 1) fun v_3 => asI .i64 v_3 fun x27 =>
ret (.ret [I x19, I x27]))))

/-- (*countermand/feed.Feed).Place -/
noncomputable def f_feed_Feed_Place (D : HV → List HV → M HV) (args : List HV) : M HV :=
fin (
uP args fun x0 r =>
uI .i64 r fun x1 r_1 =>
nl r_1 (
cond (Option.isNone x0) (
ret (.ret [I 0, I 0])) (
mP x0 fun x9b x9o =>
ldC x9b (x9o + 3) fun v => asP v fun x11 =>
bnd (f_cell_Row_int_Get D [.ptr x11, I x1]) fun r_2 =>
asT r_2 fun x13l => uI .i64 x13l fun x13t0 r_3 =>
uI .i64 r_3 fun x13t1 r_4 =>
nl r_4 (
ret (.ret [I x13t0, I x13t1])))))

/-- (*countermand/cell.Row[int]).Version -/
noncomputable def f_cell_Row_int_Version (D : HV → List HV → M HV) (args : List HV) : M HV :=
fin (
uP args fun x0 r =>
uI .i64 r fun x1 r_1 =>
nl r_1 (
bnd (f_cell_Row_int_Get D [.ptr x0, I x1]) fun r_2 =>
asT r_2 fun x10l => uI .i64 x10l fun x10t0 r_3 =>
uI .i64 r_3 fun x10t1 r_4 =>
nl r_4 (
ret (.ret [I x10t1]))))

/-- (*countermand/cell.Row[countermand/file.File]).is -/
noncomputable def f_cell_Row_file_File_is (D : HV → List HV → M HV) (args : List HV) : M HV :=
fin (
uP args fun x0 r =>
uI .i64 r fun x1 r_1 =>
nl r_1 (
jn (
cond (!(Option.isNone x0)) (
cond (decide (x1 ≥ 0)) (
mP x0 fun x14b x14o =>
ldC x14b x14o fun v => asSl v fun x16 =>
ret (.norm [.bool (decide (x1 < (x16.len : Int)))])) (
ret (.norm [.bool false]))) (
ret (.norm [.bool false]))) fun vs =>
uB vs fun x4 r_2 =>
nl r_2 (
ret (.ret [.bool x4]))))

/-- (*countermand/cell.Row[countermand/file.File]).Get -/
noncomputable def f_cell_Row_file_File_Get (D : HV → List HV → M HV) (args : List HV) : M HV :=
fin (
uP args fun x0 r =>
uI .i64 r fun x1 r_1 =>
nl r_1 (
bnd (f_cell_Row_file_File_is D [.ptr x0, I x1]) fun r_2 =>
asB r_2 fun x9 =>
cond (!x9) (
ret (.ret [.agg [.bool false, .str (ByteArray.mk #[])], I 0])) (
mP x0 fun x13b x13o =>
ldC x13b x13o fun v => asSl v fun x15 =>
ix x15 x1 3 fun x17b x17o =>
ldN x17b x17o 2 fun x19l =>
uB x19l fun x19c0 r_3 =>
uS r_3 fun x19c1 r_4 =>
nl r_4 (
mP x0 fun x21b x21o =>
ldC x21b x21o fun v_1 => asSl v_1 fun x23 =>
ix x23 x1 3 fun x25b x25o =>
ldC x25b (x25o + 2) fun v_2 => asI .i64 v_2 fun x27 =>
ret (.ret [.agg [.bool x19c0, .str x19c1], I x27])))))

/-- (*countermand/tome.Tome).Get -/
noncomputable def f_tome_Tome_Get (D : HV → List HV → M HV) (args : List HV) : M HV :=
fin (
uP args fun x0 r =>
uI .i64 r fun x1 r_1 =>
nl r_1 (
cond (Option.isNone x0) (
ret (.ret [.agg [.bool false, .str (ByteArray.mk #[])], I 0])) (
mP x0 fun x10b x10o =>
ldC x10b x10o fun v => asP v fun x12 =>
bnd (f_cell_Row_file_File_Get D [.ptr x12, I x1]) fun r_2 =>
asT r_2 fun x14l => uA x14l fun x14t0l r_3 =>
uB x14t0l fun x14t0c0 r_4 =>
uS r_4 fun x14t0c1 r_5 =>
nl r_5 (
uI .i64 r_3 fun x14t1 r_6 =>
nl r_6 (
ret (.ret [.agg [.bool x14t0c0, .str x14t0c1], I x14t1]))))))

/-- (*countermand/attempt.View).Now -/
noncomputable def f_attempt_View_Now (D : HV → List HV → M HV) (args : List HV) : M HV :=
fin (
uP args fun x0 r =>
nl r (
cond (Option.isNone x0) (
ret (.ret [.agg [I 0, I 0, I 0, I 0, I 0, I 0, I 0, I 0, I 0, I 0, I 0, I 0, I 0, I 0, I 0, I 0, I 0, I 0, I 0, I 0, I 0, I 0, I 0, I 0, I 0]])) (
mP x0 fun x11b x11o =>
ldC x11b (x11o + 3) fun v => asI .i64 v fun x13 =>
blk 0 (
loopD (fun vs_1 =>
uI .i64 vs_1 fun x15 r_1 =>
uA r_1 fun y3 r_2 =>
nl r_2 (
cond (decide (x15 < 8)) (
mP x0 fun x20b x20o =>
ldC x20b x20o fun v_1 => asP v_1 fun x22 =>
bnd (f_cell_Row_int_Version D [.ptr x22, I x15]) fun r_3 =>
asI .i64 r_3 fun x24 =>
gd (decide (0 ≤ x15)) (gd (decide (x15 < (8 : Int))) (
gd (decide (0 + x15.toNat * 1 < y3.length)) (
ret (.norm [I (wr (x15 + 1)), .agg (List.set y3 (0 + x15.toNat * 1) (I x24))]))))) (
ret (.exit 0 [.agg y3])))) [I 0, .agg [I 0, I 0, I 0, I 0, I 0, I 0, I 0, I 0, I 0, I 0, I 0, I 0, I 0, I 0, I 0, I 0, I 0, I 0, I 0, I 0, I 0, I 0, I 0, I 0, I x13]]) fun vs =>
uA vs fun y3_1 r_4 =>
nl r_4 (
blk 2 (
loopD (fun vs_3 =>
uI .i64 vs_3 fun x29 r_5 =>
uA r_5 fun y3_2 r_6 =>
nl r_6 (
cond (decide (x29 < 6)) (
mP x0 fun x35b x35o =>
ldC x35b (x35o + 1) fun v_2 => asP v_2 fun x37 =>
bnd (f_tome_Tome_Get D [.ptr x37, I x29]) fun r_7 =>
asT r_7 fun x39l => uA x39l fun x39t0l r_8 =>
uB x39t0l fun x39t0c0 r_9 =>
uS r_9 fun x39t0c1 r_10 =>
nl r_10 (
uI .i64 r_8 fun x39t1 r_11 =>
nl r_11 (
gd (decide (0 ≤ x29)) (gd (decide (x29 < (8 : Int))) (
gd (decide (8 + x29.toNat * 1 < y3_2.length)) (
ret (.norm [I (wr (x29 + 1)), .agg (List.set y3_2 (8 + x29.toNat * 1) (I x39t1))]))))))) (
ret (.exit 2 [.agg y3_2])))) [I 0, .agg y3_1]) fun vs_2 =>
uA vs_2 fun y3_3 r_12 =>
nl r_12 (
blk 4 (
loopD (fun vs_5 =>
uI .i64 vs_5 fun x46 r_13 =>
uA r_13 fun y3_4 r_14 =>
nl r_14 (
cond (decide (x46 < 3)) (
mP x0 fun x52b x52o =>
ldC x52b (x52o + 2) fun v_3 => asP v_3 fun x54 =>
bnd (f_feed_Feed_Place D [.ptr x54, I x46]) fun r_15 =>
asT r_15 fun x56l => uI .i64 x56l fun x56t0 r_16 =>
uI .i64 r_16 fun x56t1 r_17 =>
nl r_17 (
gd (decide (0 ≤ x46)) (gd (decide (x46 < (8 : Int))) (
gd (decide (16 + x46.toNat * 1 < y3_4.length)) (
ret (.norm [I (wr (x46 + 1)), .agg (List.set y3_4 (16 + x46.toNat * 1) (I x56t1))])))))) (
ret (.exit 4 [.agg y3_4])))) [I 0, .agg y3_3]) fun vs_4 =>
uA vs_4 fun y3_5 r_18 =>
nl r_18 (
gxN y3_5 0 25 fun x63l =>
gd (Nat.beq x63l.length 25) (
gd (Nat.ble (0 + x63l.length) (([I 0, I 0, I 0, I 0, I 0, I 0, I 0, I 0, I 0, I 0, I 0, I 0, I 0, I 0, I 0, I 0, I 0, I 0, I 0, I 0, I 0, I 0, I 0, I 0, I 0]) : List HV).length) (
gxN (putN [I 0, I 0, I 0, I 0, I 0, I 0, I 0, I 0, I 0, I 0, I 0, I 0, I 0, I 0, I 0, I 0, I 0, I 0, I 0, I 0, I 0, I 0, I 0, I 0, I 0] 0 x63l) 0 25 fun z0l =>
ret (.ret [.agg z0l])))))))))

/-- (countermand/reads.Now).Of -/
noncomputable def f_reads_Now_Of (D : HV → List HV → M HV) (args : List HV) : M HV :=
fin (
uA args fun x0l r =>
uI .i64 r fun x1 r_1 =>
uI .i64 r_1 fun x2 r_2 =>
nl r_2 (
jn (
cond (decide (x1 < 0)) (
ret (.norm [.bool true])) (
cond (decide (x1 > 2)) (
ret (.norm [.bool true])) (
cond (decide (x2 < 0)) (
ret (.norm [.bool true])) (
ret (.norm [.bool (decide (x2 ≥ 8))]))))) fun vs =>
uB vs fun x20 r_3 =>
nl r_3 (
cond x20 (
ret (.ret [I 0])) (
gd (decide (0 ≤ x1)) (gd (decide (x1 < (3 : Int))) (
gd (decide (0 ≤ x2)) (gd (decide (x2 < (8 : Int))) (
gx x0l (0 + x1.toNat * 8 + x2.toNat * 1) fun v => asI .i64 v fun x26 =>
ret (.ret [I x26])))))))))

/-- (*countermand/reads.Set).Valid -/
noncomputable def f_reads_Set_Valid (D : HV → List HV → M HV) (args : List HV) : M HV :=
fin (
uP args fun x0 r =>
uA r fun x1l r_1 =>
nl r_1 (
cond (Option.isNone x0) (
ret (.ret [.bool true])) (
mP x0 fun x10b x10o =>
ldC x10b x10o fun v => asSl v fun x12 =>
blk 0 (
loopD (fun vs_1 =>
uI .i64 vs_1 fun x14 r_2 =>
nl r_2 (
cond (decide (x14 < (x12.len : Int))) (
ix x12 x14 3 fun x16b x16o =>
ldN x16b x16o 3 fun x17l =>
uI .i64 x17l fun x17c0 r_3 =>
uI .i64 r_3 fun x17c1 r_4 =>
uI .i64 r_4 fun x17c2 r_5 =>
nl r_5 (
gxN x1l 0 25 fun x18l =>
bnd (f_reads_Now_Of D [.agg x18l, I x17c0, I x17c1]) fun r_6 =>
asI .i64 r_6 fun x23 =>
cond (x23 != x17c2) (
ret (.ret [.bool false])) (
ret (.norm [I (wr (x14 + 1))])))) (
ret (.exit 0 [])))) [I 0]) fun vs =>
nl vs (
ret (.ret [.bool true])))))

/-- (*countermand/reads.Set).place$1 -/
noncomputable def f_reads_Set_place_1 (D : HV → List HV → M HV) (args : List HV) : M HV :=
fin (
uA args fun x0l r =>
uI .i64 x0l fun x0c0 r_1 =>
uI .i64 r_1 fun x0c1 r_2 =>
uI .i64 r_2 fun x0c2 r_3 =>
nl r_3 (
uP r fun x1 r_4 =>
uP r_4 fun x2 r_5 =>
nl r_5 (
jn (
mP x1 fun x7b x7o =>
ldC x7b x7o fun v => asI .i64 v fun x7 =>
cond (x0c0 == x7) (
mP x2 fun x12b x12o =>
ldC x12b x12o fun v_1 => asI .i64 v_1 fun x12 =>
ret (.norm [.bool (x0c1 == x12)])) (
ret (.norm [.bool false]))) fun vs =>
uB vs fun x4 r_6 =>
nl r_6 (
ret (.ret [.bool x4])))))

/-- slices.IndexFunc[[]countermand/reads.Entry,countermand/reads.Entry] -/
noncomputable def f_slices_IndexFunc_reads_Entry_reads_Entry (D : HV → List HV → M HV) (args : List HV) : M HV :=
fin (
uL args fun x0 r =>
uc r fun x1 r_1 =>
nl r_1 (
blk 0 (
loopD (fun vs_1 =>
uI .i64 vs_1 fun x8 r_2 =>
nl r_2 (
cond (decide (x8 < (x0.len : Int))) (
ix x0 x8 3 fun x14b x14o =>
ldN x14b x14o 3 fun x15l =>
uI .i64 x15l fun x15c0 r_3 =>
uI .i64 r_3 fun x15c1 r_4 =>
uI .i64 r_4 fun x15c2 r_5 =>
nl r_5 (
bnd (D x1 [.agg [I x15c0, I x15c1, I x15c2]]) fun r_6 =>
asB r_6 fun x16 =>
cond x16 (
ret (.ret [I x8])) (
ret (.norm [I (wr (x8 + 1))])))) (
ret (.exit 0 [])))) [I 0]) fun vs =>
nl vs (
ret (.ret [I (-1)]))))

/-- (*countermand/reads.Set).place -/
noncomputable def f_reads_Set_place (D : HV → List HV → M HV) (args : List HV) : M HV :=
fin (
uP args fun x0 r =>
uI .i64 r fun x1 r_1 =>
uI .i64 r_1 fun x2 r_2 =>
nl r_2 (
nw [I x1] fun b4 =>
nw [I x2] fun b5 =>
mP x0 fun x8b x8o =>
ldC x8b x8o fun v => asSl v fun x10 =>
bnd (f_slices_IndexFunc_reads_Entry_reads_Entry D [.sl x10, .func n_reads_Set_place_1 [] [.ptr (some (b4, 0)), .ptr (some (b5, 0))]]) fun r_3 =>
asI .i64 r_3 fun x12 =>
ret (.ret [I x12])))

/-- (*countermand/reads.Set).Note -/
noncomputable def f_reads_Set_Note (D : HV → List HV → M HV) (args : List HV) : M HV :=
fin (
uP args fun x0 r =>
uA r fun x1l r_1 =>
uI .i64 r_1 fun x2 r_2 =>
uI .i64 r_2 fun x3 r_3 =>
nl r_3 (
cond (Option.isNone x0) (
ret (.ret [.bool false])) (
gxN x1l 0 25 fun x13l =>
bnd (f_reads_Now_Of D [.agg x13l, I x2, I x3]) fun r_4 =>
asI .i64 r_4 fun x16 =>
bnd (f_reads_Set_place D [.ptr x0, I x2, I x3]) fun r_5 =>
asI .i64 r_5 fun x20 =>
cond (decide (x20 ≥ 0)) (
mP x0 fun x24b x24o =>
ldC x24b x24o fun v => asSl v fun x26 =>
ix x26 x20 3 fun x28b x28o =>
ldC x28b (x28o + 2) fun v_1 => asI .i64 v_1 fun x30 =>
ret (.ret [.bool (x30 == x16)])) (
mP x0 fun x35b x35o =>
ldC x35b (x35o + 1) fun v_2 => asI .i64 v_2 fun x37 =>
jn (
cond (decide (x16 > x37)) (
gxN x1l 0 25 fun x40l =>
bnd (f_reads_Set_Valid D [.ptr x0, .agg x40l]) fun r_6 =>
asB r_6 fun x41 =>
cond (!x41) (
ret (.ret [.bool false])) (
gx x1l 24 fun v_3 => asI .i64 v_3 fun x45 =>
mP x0 fun x46b x46o =>
stC x46b (x46o + 1) (I x45) (
ret (.norm [])))) (
ret (.norm []))) fun vs =>
nl vs (
mP x0 fun x50b x50o =>
ldC x50b x50o fun v_4 => asSl v_4 fun x52 =>
apd x52 3 24 1 [I x2, I x3, I x16] fun x58 =>
mP x0 fun x59b x59o =>
stC x59b x59o (.sl x58) (
ret (.ret [.bool true])))))))

/-- (*countermand/attempt.Attempt).note -/
noncomputable def f_attempt_Attempt_note (D : HV → List HV → M HV) (args : List HV) : M HV :=
fin (
uP args fun x0 r =>
uI .i64 r fun x1 r_1 =>
uI .i64 r_1 fun x2 r_2 =>
nl r_2 (
snp true fun h =>
snp true fun h_1 =>
mP x0 fun x8b x8o =>
snp true fun h_2 =>
snp true fun h_3 =>
ldC x8b (x8o + 1) fun v => asP v fun x10 =>
snp true fun h_4 =>
snp true fun h_5 =>
mP x0 fun x12b x12o =>
snp true fun h_6 =>
snp true fun h_7 =>
ldC x12b x12o fun v_1 => asP v_1 fun x14 =>
snp true fun h_8 =>
bnd (f_attempt_View_Now D [.ptr x14]) fun r_3 =>
asA r_3 fun x15l =>
snp true fun h_9 =>
snp true fun h_10 =>
snp true fun h_11 =>
gdP ((h_11.get x8b = h_10.get x8b ∧ h_10.get x8b = h_9.get x8b ∧ h_9.get x8b = h_8.get x8b ∧ h_8.get x8b = h_7.get x8b ∧ h_7.get x8b = h_6.get x8b ∧ h_6.get x8b = h_5.get x8b ∧ h_5.get x8b = h_4.get x8b ∧ h_4.get x8b = h_3.get x8b ∧ h_3.get x8b = h_2.get x8b ∧ h_2.get x8b = h_1.get x8b ∧ h_1.get x8b = h.get x8b ∧ True) ∧ True) (
bnd (f_reads_Set_Note D [.ptr x10, .agg x15l, I x1, I x2]) fun r_4 =>
asB r_4 fun x18 =>
cond (!x18) (
ret (.ret [I 9])) (
ret (.ret [I 0])))))

/-- (*countermand/attempt.Attempt).Load -/
noncomputable def f_attempt_Attempt_Load (D : HV → List HV → M HV) (args : List HV) : M HV :=
fin (
uP args fun x0 r =>
uI .i64 r fun x1 r_1 =>
nl r_1 (
cond (Option.isNone x0) (
ret (.ret [I 0, I 2])) (
jn (
cond (decide (x1 < 0)) (
ret (.norm [.bool true])) (
ret (.norm [.bool (decide (x1 ≥ 8))]))) fun vs =>
uB vs fun x14 r_2 =>
nl r_2 (
cond x14 (
ret (.ret [I 0, I 1])) (
mP x0 fun x23b x23o =>
ldC x23b (x23o + 2) fun v => asP v fun x26 =>
bnd (f_draft_Draft_int_Get D [.ptr x26, I x1]) fun r_3 =>
asT r_3 fun x28l => uI .i64 x28l fun x28t0 r_4 =>
uB r_4 fun x28t1 r_5 =>
nl r_5 (
cond x28t1 (
ret (.ret [I x28t0, I 0])) (
bnd (f_attempt_Attempt_note D [.ptr x0, I 0, I x1]) fun r_6 =>
asI .i64 r_6 fun x35 =>
cond (x35 != 0) (
ret (.ret [I 0, I x35])) (
mP x0 fun x41b x41o =>
ldC x41b x41o fun v_1 => asP v_1 fun x43 =>
mP x43 fun x44b x44o =>
ldC x44b x44o fun v_2 => asP v_2 fun x46 =>
bnd (f_cell_Row_int_Get D [.ptr x46, I x1]) fun r_7 =>
asT r_7 fun x48l => uI .i64 x48l fun x48t0 r_8 =>
uI .i64 r_8 fun x48t1 r_9 =>
nl r_9 (
ret (.ret [I x48t0, I 0]))))))))))

/-- (*countermand/draft.Draft[int]).Put -/
noncomputable def f_draft_Draft_int_Put (D : HV → List HV → M HV) (args : List HV) : M HV :=
fin (
uP args fun x0 r =>
uI .i64 r fun x1 r_1 =>
uI .i64 r_1 fun x2 r_2 =>
nl r_2 (
cond (Option.isNone x0) (
ret (.ret [.bool false])) (
bnd (f_draft_Draft_int_find D [.ptr x0, I x1]) fun r_3 =>
asT r_3 fun x14l => uI .i64 x14l fun x14t0 r_4 =>
uB r_4 fun x14t1 r_5 =>
nl r_5 (
jn (
cond x14t1 (
mP x0 fun x19b x19o =>
ldC x19b x19o fun v => asSl v fun x21 =>
ix x21 x14t0 2 fun x24b x24o =>
stC x24b (x24o + 1) (I x2) (
ret (.norm []))) (
mP x0 fun x28b x28o =>
ldC x28b x28o fun v_1 => asSl v_1 fun x30 =>
nw [I x1, I x2] fun b35 =>
bnd (f_slices_Insert_draft_entry_int_draft_entry_int D [.sl x30, I x14t0, .sl (⟨some (b35, 0), 1, 1, none⟩)]) fun r_6 =>
asSl r_6 fun x36 =>
mP x0 fun x37b x37o =>
stC x37b x37o (.sl x36) (
ret (.norm [])))) fun vs =>
nl vs (
ret (.ret [.bool true]))))))

/-- (*countermand/attempt.Attempt).Store -/
noncomputable def f_attempt_Attempt_Store (D : HV → List HV → M HV) (args : List HV) : M HV :=
fin (
uP args fun x0 r =>
uI .i64 r fun x1 r_1 =>
uI .i64 r_1 fun x2 r_2 =>
nl r_2 (
cond (Option.isNone x0) (
ret (.ret [I 2])) (
jn (
cond (decide (x1 < 0)) (
ret (.norm [.bool true])) (
ret (.norm [.bool (decide (x1 ≥ 8))]))) fun vs =>
uB vs fun x10 r_3 =>
nl r_3 (
cond x10 (
ret (.ret [I 1])) (
mP x0 fun x18b x18o =>
ldC x18b (x18o + 2) fun v => asP v fun x21 =>
bnd (f_draft_Draft_int_Put D [.ptr x21, I x1, I x2]) fun r_4 =>
asB r_4 fun x24 =>
ret (.ret [I 0]))))))

/-- countermand/draft.by[countermand/file.File] -/
noncomputable def f_draft_by_file_File (D : HV → List HV → M HV) (args : List HV) : M HV :=
fin (
uA args fun x0l r =>
uI .i64 x0l fun x0c0 r_1 =>
uB r_1 fun x0c1 r_2 =>
uS r_2 fun x0c2 r_3 =>
nl r_3 (
uI .i64 r fun x1 r_4 =>
nl r_4 (
cond (decide (x0c0 < x1)) (
ret (.ret [I (-1)])) (
cond (decide (x0c0 > x1)) (
ret (.ret [I 1])) (
ret (.ret [I 0]))))))

/-- slices.BinarySearchFunc[[]countermand/draft.entry[countermand/file.File],countermand/draft.entry[countermand/file.File],int] -/
noncomputable def f_slices_BinarySearchFunc_draft_entry_file_File_draft_entry_file_File_int (D : HV → List HV → M HV) (args : List HV) : M HV :=
fin (
uL args fun x0 r =>
uI .i64 r fun x1 r_1 =>
uc r_1 fun x2 r_2 =>
nl r_2 (
blk 0 (
loopD (fun vs_1 =>
uI .i64 vs_1 fun x9 r_3 =>
uI .i64 r_3 fun x10 r_4 =>
nl r_4 (
cond (decide (x9 < x10)) (
ix x0 (wr (Int.fdiv (IntKind.wrap .u64 (wr (x9 + x10))) (2 ^ 1))) 3 fun x27b x27o =>
ldN x27b x27o 3 fun x28l =>
uI .i64 x28l fun x28c0 r_5 =>
uB r_5 fun x28c1 r_6 =>
uS r_6 fun x28c2 r_7 =>
nl r_7 (
bnd (D x2 [.agg [I x28c0, .bool x28c1, .str x28c2], I x1]) fun r_8 =>
asI .i64 r_8 fun x30 =>
cond (decide (x30 < 0)) (
ret (.norm [I (wr ((wr (Int.fdiv (IntKind.wrap .u64 (wr (x9 + x10))) (2 ^ 1))) + 1)), I x10])) (
ret (.norm [I x9, I (wr (Int.fdiv (IntKind.wrap .u64 (wr (x9 + x10))) (2 ^ 1)))])))) (
ret (.exit 0 [I x9])))) [I 0, I (x0.len : Int)]) fun vs =>
uI .i64 vs fun x9_1 r_9 =>
nl r_9 (
jn (
cond (decide (x9_1 < (x0.len : Int))) (
ix x0 x9_1 3 fun x43b x43o =>
ldN x43b x43o 3 fun x44l =>
uI .i64 x44l fun x44c0 r_10 =>
uB r_10 fun x44c1 r_11 =>
uS r_11 fun x44c2 r_12 =>
nl r_12 (
bnd (D x2 [.agg [I x44c0, .bool x44c1, .str x44c2], I x1]) fun r_13 =>
asI .i64 r_13 fun x46 =>
ret (.norm [I x9_1, .bool (x46 == 0)]))) (
ret (.norm [I x9_1, .bool false]))) fun vs_2 =>
uI .i64 vs_2 fun x6 r_14 =>
uB r_14 fun x7 r_15 =>
nl r_15 (
ret (.ret [I x6, .bool x7])))))

/-- (*countermand/draft.Draft[countermand/file.File]).find -/
noncomputable def f_draft_Draft_file_File_find (D : HV → List HV → M HV) (args : List HV) : M HV :=
fin (
uP args fun x0 r =>
uI .i64 r fun x1 r_1 =>
nl r_1 (
mP x0 fun x7b x7o =>
ldC x7b x7o fun v => asSl v fun x9 =>
bnd (f_slices_BinarySearchFunc_draft_entry_file_File_draft_entry_file_File_int D [.sl x9, I x1, .func n_draft_by_file_File [] []]) fun r_2 =>
asT r_2 fun x11l => uI .i64 x11l fun x11t0 r_3 =>
uB r_3 fun x11t1 r_4 =>
nl r_4 (
ret (.ret [I x11t0, .bool x11t1]))))

/-- (*countermand/draft.Draft[countermand/file.File]).Get -/
noncomputable def f_draft_Draft_file_File_Get (D : HV → List HV → M HV) (args : List HV) : M HV :=
fin (
uP args fun x0 r =>
uI .i64 r fun x1 r_1 =>
nl r_1 (
cond (Option.isNone x0) (
ret (.ret [.agg [.bool false, .str (ByteArray.mk #[])], .bool false])) (
bnd (f_draft_Draft_file_File_find D [.ptr x0, I x1]) fun r_2 =>
asT r_2 fun x15l => uI .i64 x15l fun x15t0 r_3 =>
uB r_3 fun x15t1 r_4 =>
nl r_4 (
cond (!x15t1) (
ret (.ret [.agg [.bool false, .str (ByteArray.mk #[])], .bool false])) (
mP x0 fun x22b x22o =>
ldC x22b x22o fun v => asSl v fun x24 =>
ix x24 x15t0 3 fun x26b x26o =>
ldN x26b (x26o + 1) 2 fun x28l =>
uB x28l fun x28c0 r_5 =>
uS r_5 fun x28c1 r_6 =>
nl r_6 (
ret (.ret [.agg [.bool x28c0, .str x28c1], .bool true])))))))

/-- (*countermand/sheet.Sheet).Get -/
noncomputable def f_sheet_Sheet_Get (D : HV → List HV → M HV) (args : List HV) : M HV :=
fin (
uP args fun x0 r =>
uP r fun x1 r_1 =>
uI .i64 r_1 fun x2 r_2 =>
nl r_2 (
jn (
cond (!(Option.isNone x0)) (
mP x0 fun x16b x16o =>
ldC x16b x16o fun v => asP v fun x18 =>
bnd (f_draft_Draft_file_File_Get D [.ptr x18, I x2]) fun r_3 =>
asT r_3 fun x20l => uA x20l fun x20t0l r_4 =>
uB x20t0l fun x20t0c0 r_5 =>
uS r_5 fun x20t0c1 r_6 =>
nl r_6 (
uB r_4 fun x20t1 r_7 =>
nl r_7 (
cond x20t1 (
ret (.ret [.agg [.bool x20t0c0, .str x20t0c1], .bool true])) (
ret (.norm []))))) (
ret (.norm []))) fun vs =>
nl vs (
bnd (f_tome_Tome_Get D [.ptr x1, I x2]) fun r_8 =>
asT r_8 fun x28l => uA x28l fun x28t0l r_9 =>
uB x28t0l fun x28t0c0 r_10 =>
uS r_10 fun x28t0c1 r_11 =>
nl r_11 (
uI .i64 r_9 fun x28t1 r_12 =>
nl r_12 (
ret (.ret [.agg [.bool x28t0c0, .str x28t0c1], .bool false]))))))

/-- (*countermand/attempt.Attempt).touch -/
noncomputable def f_attempt_Attempt_touch (D : HV → List HV → M HV) (args : List HV) : M HV :=
fin (
uP args fun x0 r =>
uI .i64 r fun x1 r_1 =>
nl r_1 (
cond (Option.isNone x0) (
ret (.ret [.agg [.bool false, .str (ByteArray.mk #[])], I 2])) (
jn (
cond (decide (x1 < 0)) (
ret (.norm [.bool true])) (
ret (.norm [.bool (decide (x1 ≥ 6))]))) fun vs =>
uB vs fun x12 r_2 =>
nl r_2 (
cond x12 (
ret (.ret [.agg [.bool false, .str (ByteArray.mk #[])], I 1])) (
mP x0 fun x22b x22o =>
ldC x22b (x22o + 2 + 1) fun v => asP v fun x25 =>
mP x0 fun x27b x27o =>
ldC x27b x27o fun v_1 => asP v_1 fun x29 =>
mP x29 fun x30b x30o =>
ldC x30b (x30o + 1) fun v_2 => asP v_2 fun x32 =>
bnd (f_sheet_Sheet_Get D [.ptr x25, .ptr x32, I x1]) fun r_3 =>
asT r_3 fun x34l => uA x34l fun x34t0l r_4 =>
uB x34t0l fun x34t0c0 r_5 =>
uS r_5 fun x34t0c1 r_6 =>
nl r_6 (
uB r_4 fun x34t1 r_7 =>
nl r_7 (
cond x34t1 (
ret (.ret [.agg [.bool x34t0c0, .str x34t0c1], I 0])) (
bnd (f_attempt_Attempt_note D [.ptr x0, I 1, I x1]) fun r_8 =>
asI .i64 r_8 fun x42 =>
ret (.ret [.agg [.bool x34t0c0, .str x34t0c1], I x42])))))))))

/-- countermand/file.At -/
noncomputable def f_file_At (D : HV → List HV → M HV) (args : List HV) : M HV :=
fin (
uA args fun x0l r =>
uB x0l fun x0c0 r_1 =>
uS r_1 fun x0c1 r_2 =>
nl r_2 (
uI .i64 r fun x1 r_3 =>
nl r_3 (
jn (
cond (decide (x1 < 0)) (
ret (.norm [.bool true])) (
ret (.norm [.bool (decide (x1 ≥ (x0c1.size : Int)))]))) fun vs =>
uB vs fun x13 r_4 =>
nl r_4 (
cond x13 (
ret (.ret [I (-1)])) (
gd (decide (0 ≤ x1)) (gd (decide (x1 < (x0c1.size : Int))) (
ret (.ret [I (wr ((x0c1.data[x1.toNat]?.getD 0).toNat : Int))]))))))))

/-- (*countermand/attempt.Attempt).Read -/
noncomputable def f_attempt_Attempt_Read (D : HV → List HV → M HV) (args : List HV) : M HV :=
fin (
uP args fun x0 r =>
uI .i64 r fun x1 r_1 =>
uI .i64 r_1 fun x2 r_2 =>
nl r_2 (
bnd (f_attempt_Attempt_touch D [.ptr x0, I x1]) fun r_3 =>
asT r_3 fun x13l => uA x13l fun x13t0l r_4 =>
uB x13t0l fun x13t0c0 r_5 =>
uS r_5 fun x13t0c1 r_6 =>
nl r_6 (
uI .i64 r_4 fun x13t1 r_7 =>
nl r_7 (
cond (x13t1 != 0) (
ret (.ret [I 0, I x13t1])) (
bnd (f_file_At D [.agg [.bool x13t0c0, .str x13t0c1], I x2]) fun r_8 =>
asI .i64 r_8 fun x21 =>
ret (.ret [I x21, I 0]))))))

/-- (*countermand/draft.Draft[countermand/file.File]).Put -/
noncomputable def f_draft_Draft_file_File_Put (D : HV → List HV → M HV) (args : List HV) : M HV :=
fin (
uP args fun x0 r =>
uI .i64 r fun x1 r_1 =>
uA r_1 fun x2l r_2 =>
uB x2l fun x2c0 r_3 =>
uS r_3 fun x2c1 r_4 =>
nl r_4 (
nl r_2 (
cond (Option.isNone x0) (
ret (.ret [.bool false])) (
bnd (f_draft_Draft_file_File_find D [.ptr x0, I x1]) fun r_5 =>
asT r_5 fun x14l => uI .i64 x14l fun x14t0 r_6 =>
uB r_6 fun x14t1 r_7 =>
nl r_7 (
jn (
cond x14t1 (
mP x0 fun x19b x19o =>
ldC x19b x19o fun v => asSl v fun x21 =>
ix x21 x14t0 3 fun x24b x24o =>
stN x24b (x24o + 1) [.bool x2c0, .str x2c1] (
ret (.norm []))) (
snp true fun h =>
snp true fun h_1 =>
snp true fun h_2 =>
mP x0 fun x28b x28o =>
snp true fun h_3 =>
snp true fun h_4 =>
ldC x28b x28o fun v_1 => asSl v_1 fun x30 =>
snp true fun h_5 =>
snp true fun h_6 =>
snp true fun h_7 =>
snp true fun h_8 =>
snp true fun h_9 =>
nw [I x1, .bool x2c0, .str x2c1] fun b35 =>
snp true fun h_10 =>
bnd (f_slices_Insert_draft_entry_file_File_draft_entry_file_File D [.sl x30, I x14t0, .sl (⟨some (b35, 0), 1, 1, none⟩)]) fun r_8 =>
asSl r_8 fun x36 =>
snp true fun h_11 =>
gdP ((h_11.get x28b = h_10.get x28b ∧ h_10.get x28b = h_9.get x28b ∧ h_9.get x28b = h_8.get x28b ∧ h_8.get x28b = h_7.get x28b ∧ h_7.get x28b = h_6.get x28b ∧ h_6.get x28b = h_5.get x28b ∧ h_5.get x28b = h_4.get x28b ∧ h_4.get x28b = h_3.get x28b ∧ h_3.get x28b = h_2.get x28b ∧ h_2.get x28b = h_1.get x28b ∧ h_1.get x28b = h.get x28b ∧ True) ∧ True) (
mP x0 fun x37b x37o =>
stC x37b x37o (.sl x36) (
ret (.norm []))))) fun vs =>
nl vs (
ret (.ret [.bool true])))))))

/-- (*countermand/sheet.Sheet).put -/
noncomputable def f_sheet_Sheet_put (D : HV → List HV → M HV) (args : List HV) : M HV :=
fin (
uP args fun x0 r =>
uP r fun x1 r_1 =>
uI .i64 r_1 fun x2 r_2 =>
uA r_2 fun x3l r_3 =>
uB x3l fun x3c0 r_4 =>
uS r_4 fun x3c1 r_5 =>
nl r_5 (
nl r_3 (
jn (
cond (Option.isNone x0) (
ret (.norm [.bool true])) (
cond (decide (x2 < 0)) (
ret (.norm [.bool true])) (
ret (.norm [.bool (decide (x2 ≥ 6))])))) fun vs =>
uB vs fun x20 r_6 =>
nl r_6 (
cond x20 (
ret (.ret [.bool false])) (
bnd (f_sheet_Sheet_Get D [.ptr x0, .ptr x1, I x2]) fun r_7 =>
asT r_7 fun x25l => uA x25l fun x25t0l r_8 =>
uB x25t0l fun x25t0c0 r_9 =>
uS r_9 fun x25t0c1 r_10 =>
nl r_10 (
uB r_8 fun x25t1 r_11 =>
nl r_11 (
cond (cond (x25t0c0 == x3c0) (cond (x25t0c1.toList == x3c1.toList) true false) false) (
ret (.ret [.bool true])) (
mP x0 fun x32b x32o =>
ldC x32b x32o fun v => asP v fun x34 =>
bnd (f_draft_Draft_file_File_Put D [.ptr x34, I x2, .agg [.bool x3c0, .str x3c1]]) fun r_12 =>
asB r_12 fun x37 =>
ret (.ret [.bool x37])))))))))

/-- countermand/file.Put -/
noncomputable def f_file_Put (D : HV → List HV → M HV) (args : List HV) : M HV :=
fin (
uA args fun x0l r =>
uB x0l fun x0c0 r_1 =>
uS r_1 fun x0c1 r_2 =>
nl r_2 (
uI .i64 r fun x1 r_3 =>
uI .u8 r_3 fun x2 r_4 =>
nl r_4 (
jn (
cond (decide (x1 < 0)) (
ret (.norm [.bool true])) (
ret (.norm [.bool (decide (x1 ≥ 32))]))) fun vs =>
uB vs fun x13 r_5 =>
nl r_5 (
cond x13 (
ret (.ret [.agg [.bool x0c0, .str x0c1]])) (
nwT (5, none) (bytesHV x0c1) fun b17 =>
blk 0 (
loopD (fun vs_2 =>
uL vs_2 fun x7 r_6 =>
nl r_6 (
cond (decide ((x7.len : Int) ≤ x1)) (
apd x7 1 1 1 [.int .u8 0] fun x24 =>
ret (.norm [.sl x24])) (
ret (.exit 0 [.sl x7])))) [.sl (⟨some (b17, 0), x0c1.size, x0c1.size, some 1⟩)]) fun vs_1 =>
uL vs_1 fun x7_1 r_7 =>
nl r_7 (
ix x7_1 x1 1 fun x28b x28o =>
stC x28b x28o (.int .u8 x2) (
rdS x7_1 1 fun vs_3 =>
gd (decide (vs_3.length = x7_1.len)) (strM vs_3 fun x30s =>
ret (.ret [.agg [.bool true, .str x30s]])))))))))

/-- (*countermand/sheet.Sheet).Write -/
noncomputable def f_sheet_Sheet_Write (D : HV → List HV → M HV) (args : List HV) : M HV :=
fin (
uP args fun x0 r =>
uP r fun x1 r_1 =>
uI .i64 r_1 fun x2 r_2 =>
uI .i64 r_2 fun x3 r_3 =>
uI .u8 r_3 fun x4 r_4 =>
nl r_4 (
bnd (f_sheet_Sheet_Get D [.ptr x0, .ptr x1, I x2]) fun r_5 =>
asT r_5 fun x17l => uA x17l fun x17t0l r_6 =>
uB x17t0l fun x17t0c0 r_7 =>
uS r_7 fun x17t0c1 r_8 =>
nl r_8 (
uB r_6 fun x17t1 r_9 =>
nl r_9 (
bnd (f_file_Put D [.agg [.bool x17t0c0, .str x17t0c1], I x3, .int .u8 x4]) fun r_10 =>
asA r_10 fun x26l => uB x26l fun x26c0 r_11 =>
uS r_11 fun x26c1 r_12 =>
nl r_12 (
bnd (f_sheet_Sheet_put D [.ptr x0, .ptr x1, I x2, .agg [.bool x26c0, .str x26c1]]) fun r_13 =>
asB r_13 fun x27 =>
ret (.ret [.bool x27]))))))

/-- (*countermand/attempt.Attempt).Write -/
noncomputable def f_attempt_Attempt_Write (D : HV → List HV → M HV) (args : List HV) : M HV :=
fin (
uP args fun x0 r =>
uI .i64 r fun x1 r_1 =>
uI .i64 r_1 fun x2 r_2 =>
uI .u8 r_2 fun x3 r_3 =>
nl r_3 (
bnd (f_attempt_Attempt_touch D [.ptr x0, I x1]) fun r_4 =>
asT r_4 fun x14l => uA x14l fun x14t0l r_5 =>
uB x14t0l fun x14t0c0 r_6 =>
uS r_6 fun x14t0c1 r_7 =>
nl r_7 (
uI .i64 r_5 fun x14t1 r_8 =>
nl r_8 (
jn (
cond (x14t1 == 0) (
mP x0 fun x20b x20o =>
ldC x20b (x20o + 2 + 1) fun v => asP v fun x23 =>
mP x0 fun x25b x25o =>
ldC x25b x25o fun v_1 => asP v_1 fun x27 =>
mP x27 fun x28b x28o =>
ldC x28b (x28o + 1) fun v_2 => asP v_2 fun x30 =>
bnd (f_sheet_Sheet_Write D [.ptr x23, .ptr x30, I x1, I x2, .int .u8 x3]) fun r_9 =>
asB r_9 fun x34 =>
ret (.norm [])) (
ret (.norm []))) fun vs =>
nl vs (
ret (.ret [I x14t1]))))))

/-- countermand/file.Make -/
noncomputable def f_file_Make (D : HV → List HV → M HV) (args : List HV) : M HV :=
fin (
uA args fun x0l r =>
uB x0l fun x0c0 r_1 =>
uS r_1 fun x0c1 r_2 =>
nl r_2 (
nl r (
ret (.ret [.agg [.bool true, .str x0c1]]))))

/-- (*countermand/sheet.Sheet).Create -/
noncomputable def f_sheet_Sheet_Create (D : HV → List HV → M HV) (args : List HV) : M HV :=
fin (
uP args fun x0 r =>
uP r fun x1 r_1 =>
uI .i64 r_1 fun x2 r_2 =>
nl r_2 (
bnd (f_sheet_Sheet_Get D [.ptr x0, .ptr x1, I x2]) fun r_3 =>
asT r_3 fun x13l => uA x13l fun x13t0l r_4 =>
uB x13t0l fun x13t0c0 r_5 =>
uS r_5 fun x13t0c1 r_6 =>
nl r_6 (
uB r_4 fun x13t1 r_7 =>
nl r_7 (
bnd (f_file_Make D [.agg [.bool x13t0c0, .str x13t0c1]]) fun r_8 =>
asA r_8 fun x20l => uB x20l fun x20c0 r_9 =>
uS r_9 fun x20c1 r_10 =>
nl r_10 (
bnd (f_sheet_Sheet_put D [.ptr x0, .ptr x1, I x2, .agg [.bool x20c0, .str x20c1]]) fun r_11 =>
asB r_11 fun x21 =>
ret (.ret [.bool x21]))))))

/-- (*countermand/attempt.Attempt).Create -/
noncomputable def f_attempt_Attempt_Create (D : HV → List HV → M HV) (args : List HV) : M HV :=
fin (
uP args fun x0 r =>
uI .i64 r fun x1 r_1 =>
nl r_1 (
bnd (f_attempt_Attempt_touch D [.ptr x0, I x1]) fun r_2 =>
asT r_2 fun x10l => uA x10l fun x10t0l r_3 =>
uB x10t0l fun x10t0c0 r_4 =>
uS r_4 fun x10t0c1 r_5 =>
nl r_5 (
uI .i64 r_3 fun x10t1 r_6 =>
nl r_6 (
jn (
cond (x10t1 == 0) (
mP x0 fun x16b x16o =>
ldC x16b (x16o + 2 + 1) fun v => asP v fun x19 =>
mP x0 fun x21b x21o =>
ldC x21b x21o fun v_1 => asP v_1 fun x23 =>
mP x23 fun x24b x24o =>
ldC x24b (x24o + 1) fun v_2 => asP v_2 fun x26 =>
bnd (f_sheet_Sheet_Create D [.ptr x19, .ptr x26, I x1]) fun r_7 =>
asB r_7 fun x28 =>
ret (.norm [])) (
ret (.norm []))) fun vs =>
nl vs (
ret (.ret [I x10t1]))))))

/-- (*countermand/sheet.Sheet).Remove -/
noncomputable def f_sheet_Sheet_Remove (D : HV → List HV → M HV) (args : List HV) : M HV :=
fin (
uP args fun x0 r =>
uP r fun x1 r_1 =>
uI .i64 r_1 fun x2 r_2 =>
nl r_2 (
bnd (f_sheet_Sheet_put D [.ptr x0, .ptr x1, I x2, .agg [.bool false, .str (ByteArray.mk #[])]]) fun r_3 =>
asB r_3 fun x11 =>
ret (.ret [.bool x11])))

/-- (*countermand/attempt.Attempt).Remove -/
noncomputable def f_attempt_Attempt_Remove (D : HV → List HV → M HV) (args : List HV) : M HV :=
fin (
uP args fun x0 r =>
uI .i64 r fun x1 r_1 =>
nl r_1 (
bnd (f_attempt_Attempt_touch D [.ptr x0, I x1]) fun r_2 =>
asT r_2 fun x10l => uA x10l fun x10t0l r_3 =>
uB x10t0l fun x10t0c0 r_4 =>
uS r_4 fun x10t0c1 r_5 =>
nl r_5 (
uI .i64 r_3 fun x10t1 r_6 =>
nl r_6 (
jn (
cond (x10t1 == 0) (
mP x0 fun x16b x16o =>
ldC x16b (x16o + 2 + 1) fun v => asP v fun x19 =>
mP x0 fun x21b x21o =>
ldC x21b x21o fun v_1 => asP v_1 fun x23 =>
mP x23 fun x24b x24o =>
ldC x24b (x24o + 1) fun v_2 => asP v_2 fun x26 =>
bnd (f_sheet_Sheet_Remove D [.ptr x19, .ptr x26, I x1]) fun r_7 =>
asB r_7 fun x28 =>
ret (.norm [])) (
ret (.norm []))) fun vs =>
nl vs (
ret (.ret [I x10t1]))))))

/-- (*countermand/sheet.Sheet).Rename -/
noncomputable def f_sheet_Sheet_Rename (D : HV → List HV → M HV) (args : List HV) : M HV :=
fin (
uP args fun x0 r =>
uP r fun x1 r_1 =>
uI .i64 r_1 fun x2 r_2 =>
uI .i64 r_2 fun x3 r_3 =>
nl r_3 (
bnd (f_sheet_Sheet_Get D [.ptr x0, .ptr x1, I x2]) fun r_4 =>
asT r_4 fun x15l => uA x15l fun x15t0l r_5 =>
uB x15t0l fun x15t0c0 r_6 =>
uS r_6 fun x15t0c1 r_7 =>
nl r_7 (
uB r_5 fun x15t1 r_8 =>
nl r_8 (
jn (
cond (Option.isNone x0) (
ret (.norm [.bool true])) (
cond (decide (x2 < 0)) (
ret (.norm [.bool true])) (
cond (decide (x2 ≥ 6)) (
ret (.norm [.bool true])) (
cond (decide (x3 < 0)) (
ret (.norm [.bool true])) (
ret (.norm [.bool (decide (x3 ≥ 6))])))))) fun vs =>
uB vs fun x18 r_9 =>
nl r_9 (
cond x18 (
ret (.ret [.bool false])) (
jn (
cond (!x15t0c0) (
ret (.norm [.bool true])) (
ret (.norm [.bool (x2 == x3)]))) fun vs_1 =>
uB vs_1 fun x37 r_10 =>
nl r_10 (
cond x37 (
ret (.ret [.bool true])) (
bnd (f_sheet_Sheet_put D [.ptr x0, .ptr x1, I x3, .agg [.bool x15t0c0, .str x15t0c1]]) fun r_11 =>
asB r_11 fun x50 =>
bnd (f_sheet_Sheet_put D [.ptr x0, .ptr x1, I x2, .agg [.bool false, .str (ByteArray.mk #[])]]) fun r_12 =>
asB r_12 fun x55 =>
ret (.ret [.bool x55])))))))))

/-- (*countermand/attempt.Attempt).Rename -/
noncomputable def f_attempt_Attempt_Rename (D : HV → List HV → M HV) (args : List HV) : M HV :=
fin (
uP args fun x0 r =>
uI .i64 r fun x1 r_1 =>
uI .i64 r_1 fun x2 r_2 =>
nl r_2 (
jn (
cond (!(Option.isNone x0)) (
cond (decide (x2 < 0)) (
ret (.norm [.bool true])) (
ret (.norm [.bool (decide (x2 ≥ 6))]))) (
ret (.norm [.bool false]))) fun vs =>
uB vs fun x18 r_3 =>
nl r_3 (
cond x18 (
ret (.ret [I 1])) (
bnd (f_attempt_Attempt_touch D [.ptr x0, I x1]) fun r_4 =>
asT r_4 fun x22l => uA x22l fun x22t0l r_5 =>
uB x22t0l fun x22t0c0 r_6 =>
uS r_6 fun x22t0c1 r_7 =>
nl r_7 (
uI .i64 r_5 fun x22t1 r_8 =>
nl r_8 (
jn (
cond (x22t1 == 0) (
bnd (f_attempt_Attempt_touch D [.ptr x0, I x2]) fun r_9 =>
asT r_9 fun x30l => uA x30l fun x30t0l r_10 =>
uB x30t0l fun x30t0c0 r_11 =>
uS r_11 fun x30t0c1 r_12 =>
nl r_12 (
uI .i64 r_10 fun x30t1 r_13 =>
nl r_13 (
ret (.norm [I x30t1])))) (
ret (.norm [I x22t1]))) fun vs_1 =>
uI .i64 vs_1 fun x8 r_14 =>
nl r_14 (
jn (
cond (x8 == 0) (
mP x0 fun x36b x36o =>
ldC x36b (x36o + 2 + 1) fun v => asP v fun x39 =>
mP x0 fun x41b x41o =>
ldC x41b x41o fun v_1 => asP v_1 fun x43 =>
mP x43 fun x44b x44o =>
ldC x44b (x44o + 1) fun v_2 => asP v_2 fun x46 =>
bnd (f_sheet_Sheet_Rename D [.ptr x39, .ptr x46, I x1, I x2]) fun r_15 =>
asB r_15 fun x49 =>
ret (.norm [])) (
ret (.norm []))) fun vs_2 =>
nl vs_2 (
ret (.ret [I x8])))))))))

/-- countermand/file.Cut -/
noncomputable def f_file_Cut (D : HV → List HV → M HV) (args : List HV) : M HV :=
fin (
uA args fun x0l r =>
uB x0l fun x0c0 r_1 =>
uS r_1 fun x0c1 r_2 =>
nl r_2 (
uI .i64 r fun x1 r_3 =>
nl r_3 (
jn (
cond (!x0c0) (
ret (.norm [.bool true])) (
cond (decide (x1 < 0)) (
ret (.norm [.bool true])) (
ret (.norm [.bool (decide (x1 > 32))])))) fun vs =>
uB vs fun x15 r_4 =>
nl r_4 (
cond x15 (
ret (.ret [.agg [.bool x0c0, .str x0c1]])) (
cond (decide (x1 ≤ (x0c1.size : Int))) (
gd (decide (0 ≤ 0)) (gd (decide (0 ≤ x1)) (gd (decide (x1 ≤ (x0c1.size : Int))) (
ret (.ret [.agg [.bool true, .str (x0c1.extract (0 : Int).toNat x1.toNat)]]))))) (
bnd (f_strings_Repeat D [.str (ByteArray.mk #[0]), I (wr (x1 - (x0c1.size : Int)))]) fun r_5 =>
asS r_5 fun x34 =>
gd (decide (x0c1.size + x34.size ≤ 9223372036854775807)) (
ret (.ret [.agg [.bool true, .str (x0c1 ++ x34)]]))))))))

/-- (*countermand/sheet.Sheet).Cut -/
noncomputable def f_sheet_Sheet_Cut (D : HV → List HV → M HV) (args : List HV) : M HV :=
fin (
uP args fun x0 r =>
uP r fun x1 r_1 =>
uI .i64 r_1 fun x2 r_2 =>
uI .i64 r_2 fun x3 r_3 =>
nl r_3 (
bnd (f_sheet_Sheet_Get D [.ptr x0, .ptr x1, I x2]) fun r_4 =>
asT r_4 fun x15l => uA x15l fun x15t0l r_5 =>
uB x15t0l fun x15t0c0 r_6 =>
uS r_6 fun x15t0c1 r_7 =>
nl r_7 (
uB r_5 fun x15t1 r_8 =>
nl r_8 (
bnd (f_file_Cut D [.agg [.bool x15t0c0, .str x15t0c1], I x3]) fun r_9 =>
asA r_9 fun x23l => uB x23l fun x23c0 r_10 =>
uS r_10 fun x23c1 r_11 =>
nl r_11 (
bnd (f_sheet_Sheet_put D [.ptr x0, .ptr x1, I x2, .agg [.bool x23c0, .str x23c1]]) fun r_12 =>
asB r_12 fun x24 =>
ret (.ret [.bool x24]))))))

/-- (*countermand/attempt.Attempt).Cut -/
noncomputable def f_attempt_Attempt_Cut (D : HV → List HV → M HV) (args : List HV) : M HV :=
fin (
uP args fun x0 r =>
uI .i64 r fun x1 r_1 =>
uI .i64 r_1 fun x2 r_2 =>
nl r_2 (
bnd (f_attempt_Attempt_touch D [.ptr x0, I x1]) fun r_3 =>
asT r_3 fun x12l => uA x12l fun x12t0l r_4 =>
uB x12t0l fun x12t0c0 r_5 =>
uS r_5 fun x12t0c1 r_6 =>
nl r_6 (
uI .i64 r_4 fun x12t1 r_7 =>
nl r_7 (
jn (
cond (x12t1 == 0) (
mP x0 fun x18b x18o =>
ldC x18b (x18o + 2 + 1) fun v => asP v fun x21 =>
mP x0 fun x23b x23o =>
ldC x23b x23o fun v_1 => asP v_1 fun x25 =>
mP x25 fun x26b x26o =>
ldC x26b (x26o + 1) fun v_2 => asP v_2 fun x28 =>
bnd (f_sheet_Sheet_Cut D [.ptr x21, .ptr x28, I x1, I x2]) fun r_8 =>
asB r_8 fun x31 =>
ret (.norm [])) (
ret (.norm []))) fun vs =>
nl vs (
ret (.ret [I x12t1]))))))

/-- (*countermand/feed.Feed).At -/
noncomputable def f_feed_Feed_At (D : HV → List HV → M HV) (args : List HV) : M HV :=
fin (
uP args fun x0 r =>
uI .i64 r fun x1 r_1 =>
uI .i64 r_1 fun x2 r_2 =>
nl r_2 (
jn (
bnd (f_feed_Feed_is D [.ptr x0, I x1]) fun r_3 =>
asB r_3 fun x9 =>
cond (!x9) (
ret (.norm [.bool true])) (
cond (decide (x2 < 0)) (
ret (.norm [.bool true])) (
mP x0 fun x19b x19o =>
gd (decide (0 ≤ x1)) (gd (decide (x1 < (3 : Int))) (
ldC x19b (x19o + x1.toNat * 1) fun v => asS v fun x22 =>
ret (.norm [.bool (decide (x2 ≥ (x22.size : Int)))])))))) fun vs =>
uB vs fun x25 r_4 =>
nl r_4 (
cond x25 (
ret (.ret [I (-1)])) (
mP x0 fun x28b x28o =>
gd (decide (0 ≤ x1)) (gd (decide (x1 < (3 : Int))) (
ldC x28b (x28o + x1.toNat * 1) fun v_1 => asS v_1 fun x31 =>
gd (decide (0 ≤ x2)) (gd (decide (x2 < (x31.size : Int))) (
ret (.ret [I (wr ((x31.data[x2.toNat]?.getD 0).toNat : Int))])))))))))

/-- countermand/cursor.is -/
noncomputable def f_cursor_is (D : HV → List HV → M HV) (args : List HV) : M HV :=
fin (
uI .i64 args fun x0 r =>
nl r (
jn (
cond (decide (x0 ≥ 0)) (
ret (.norm [.bool (decide (x0 < 3))])) (
ret (.norm [.bool false]))) fun vs =>
uB vs fun x2 r_1 =>
nl r_1 (
ret (.ret [.bool x2]))))

/-- (*countermand/cursor.Cursor).At -/
noncomputable def f_cursor_Cursor_At (D : HV → List HV → M HV) (args : List HV) : M HV :=
fin (
uP args fun x0 r =>
uI .i64 r fun x1 r_1 =>
uI .i64 r_1 fun x2 r_2 =>
nl r_2 (
jn (
cond (Option.isNone x0) (
ret (.norm [.bool true])) (
bnd (f_cursor_is D [I x1]) fun r_3 =>
asB r_3 fun x11 =>
ret (.norm [.bool (!x11)]))) fun vs =>
uB vs fun x13 r_4 =>
nl r_4 (
cond x13 (
ret (.ret [I x2])) (
mP x0 fun x18b x18o =>
gd (decide (0 ≤ x1)) (gd (decide (x1 < (3 : Int))) (
ldC x18b (x18o + x1.toNat * 1) fun v => asI .i64 v fun x21 =>
ret (.ret [I (wr (x2 + x21))])))))))

/-- (*countermand/cursor.Cursor).Step -/
noncomputable def f_cursor_Cursor_Step (D : HV → List HV → M HV) (args : List HV) : M HV :=
fin (
uP args fun x0 r =>
uI .i64 r fun x1 r_1 =>
nl r_1 (
jn (
cond (Option.isNone x0) (
ret (.norm [.bool true])) (
bnd (f_cursor_is D [I x1]) fun r_2 =>
asB r_2 fun x9 =>
cond (!x9) (
ret (.norm [.bool true])) (
mP x0 fun x15b x15o =>
gd (decide (0 ≤ x1)) (gd (decide (x1 < (3 : Int))) (
ldC x15b (x15o + x1.toNat * 1) fun v => asI .i64 v fun x18 =>
ret (.norm [.bool (decide (x18 ≥ 64))])))))) fun vs =>
uB vs fun x20 r_3 =>
nl r_3 (
cond x20 (
ret (.ret [.bool false])) (
mP x0 fun x23b x23o =>
gd (decide (0 ≤ x1)) (gd (decide (x1 < (3 : Int))) (
ldC x23b (x23o + x1.toNat * 1) fun v_1 => asI .i64 v_1 fun x26 =>
mP x0 fun x28b x28o =>
gd (decide (0 ≤ x1)) (gd (decide (x1 < (3 : Int))) (
stC x28b (x28o + x1.toNat * 1) (I (wr (x26 + 1))) (
ret (.ret [.bool true]))))))))))

/-- (*countermand/attempt.Attempt).Recv -/
noncomputable def f_attempt_Attempt_Recv (D : HV → List HV → M HV) (args : List HV) : M HV :=
fin (
uP args fun x0 r =>
uI .i64 r fun x1 r_1 =>
nl r_1 (
cond (Option.isNone x0) (
ret (.ret [I 0, I 2])) (
jn (
cond (decide (x1 < 0)) (
ret (.norm [.bool true])) (
ret (.norm [.bool (decide (x1 ≥ 3))]))) fun vs =>
uB vs fun x13 r_2 =>
nl r_2 (
cond x13 (
ret (.ret [I 0, I 1])) (
bnd (f_attempt_Attempt_note D [.ptr x0, I 2, I x1]) fun r_3 =>
asI .i64 r_3 fun x22 =>
cond (x22 != 0) (
ret (.ret [I 0, I x22])) (
mP x0 fun x28b x28o =>
ldC x28b x28o fun v => asP v fun x30 =>
mP x30 fun x31b x31o =>
ldC x31b (x31o + 2) fun v_1 => asP v_1 fun x33 =>
bnd (f_feed_Feed_Place D [.ptr x33, I x1]) fun r_4 =>
asT r_4 fun x35l => uI .i64 x35l fun x35t0 r_5 =>
uI .i64 r_5 fun x35t1 r_6 =>
nl r_6 (
snp true fun h =>
snp true fun h_1 =>
mP x0 fun x39b x39o =>
snp true fun h_2 =>
snp true fun h_3 =>
ldC x39b x39o fun v_2 => asP v_2 fun x41 =>
snp true fun h_4 =>
mP x41 fun x42b x42o =>
snp true fun h_5 =>
snp true fun h_6 =>
ldC x42b (x42o + 2) fun v_3 => asP v_3 fun x44 =>
snp true fun h_7 =>
snp true fun h_8 =>
snp true fun h_9 =>
mP x0 fun x47b x47o =>
snp true fun h_10 =>
snp true fun h_11 =>
snp true fun h_12 =>
ldC x47b (x47o + 2 + 2) fun v_4 => asP v_4 fun x50 =>
snp true fun h_13 =>
snp true fun h_14 =>
snp true fun h_15 =>
bnd (f_cursor_Cursor_At D [.ptr x50, I x1, I x35t0]) fun r_7 =>
asI .i64 r_7 fun x53 =>
snp true fun h_16 =>
gdP ((h_16.get x39b = h_15.get x39b ∧ h_15.get x39b = h_14.get x39b ∧ h_14.get x39b = h_13.get x39b ∧ h_13.get x39b = h_12.get x39b ∧ h_12.get x39b = h_11.get x39b ∧ h_11.get x39b = h_10.get x39b ∧ h_10.get x39b = h_9.get x39b ∧ h_9.get x39b = h_8.get x39b ∧ h_8.get x39b = h_7.get x39b ∧ h_7.get x39b = h_6.get x39b ∧ h_6.get x39b = h_5.get x39b ∧ h_5.get x39b = h_4.get x39b ∧ h_4.get x39b = h_3.get x39b ∧ h_3.get x39b = h_2.get x39b ∧ h_2.get x39b = h_1.get x39b ∧ h_1.get x39b = h.get x39b ∧ True) ∧ (h_16.get x42b = h_15.get x42b ∧ h_15.get x42b = h_14.get x42b ∧ h_14.get x42b = h_13.get x42b ∧ h_13.get x42b = h_12.get x42b ∧ h_12.get x42b = h_11.get x42b ∧ h_11.get x42b = h_10.get x42b ∧ h_10.get x42b = h_9.get x42b ∧ h_9.get x42b = h_8.get x42b ∧ h_8.get x42b = h_7.get x42b ∧ h_7.get x42b = h_6.get x42b ∧ h_6.get x42b = h_5.get x42b ∧ h_5.get x42b = h_4.get x42b ∧ h_4.get x42b = h_3.get x42b ∧ h_3.get x42b = h_2.get x42b ∧ h_2.get x42b = h_1.get x42b ∧ h_1.get x42b = h.get x42b ∧ True) ∧ True) (
bnd (f_feed_Feed_At D [.ptr x44, I x1, I x53]) fun r_8 =>
asI .i64 r_8 fun x54 =>
cond (decide (x54 < 0)) (
ret (.ret [I 0, I 10])) (
mP x0 fun x58b x58o =>
ldC x58b (x58o + 2 + 2) fun v_5 => asP v_5 fun x61 =>
bnd (f_cursor_Cursor_Step D [.ptr x61, I x1]) fun r_9 =>
asB r_9 fun x63 =>
ret (.ret [I x54, I 0]))))))))))

/-- countermand/countermandlaw30.does -/
noncomputable def f_law30_does (D : HV → List HV → M HV) (args : List HV) : M HV :=
fin (
uP args fun x0 r =>
uA r fun x1l r_1 =>
uI .i64 x1l fun x1c0 r_2 =>
uI .i64 r_2 fun x1c1 r_3 =>
uI .i64 r_3 fun x1c2 r_4 =>
uI .u8 r_4 fun x1c3 r_5 =>
nl r_5 (
nl r_1 (
cond (x1c0 == 0) (
bnd (f_attempt_Attempt_Load D [.ptr x0, I x1c1]) fun r_6 =>
asT r_6 fun x11l => uI .i64 x11l fun x11t0 r_7 =>
uI .i64 r_7 fun x11t1 r_8 =>
nl r_8 (
ret (.ret []))) (
cond (x1c0 == 1) (
bnd (f_attempt_Attempt_Store D [.ptr x0, I x1c1, I x1c2]) fun r_9 =>
asI .i64 r_9 fun x19 =>
ret (.ret [])) (
cond (x1c0 == 2) (
bnd (f_attempt_Attempt_Read D [.ptr x0, I x1c1, I x1c2]) fun r_10 =>
asT r_10 fun x27l => uI .i64 x27l fun x27t0 r_11 =>
uI .i64 r_11 fun x27t1 r_12 =>
nl r_12 (
ret (.ret []))) (
cond (x1c0 == 3) (
bnd (f_attempt_Attempt_Write D [.ptr x0, I x1c1, I x1c2, .int .u8 x1c3]) fun r_13 =>
asI .i64 r_13 fun x37 =>
ret (.ret [])) (
cond (x1c0 == 4) (
bnd (f_attempt_Attempt_Create D [.ptr x0, I x1c1]) fun r_14 =>
asI .i64 r_14 fun x43 =>
ret (.ret [])) (
cond (x1c0 == 5) (
bnd (f_attempt_Attempt_Remove D [.ptr x0, I x1c1]) fun r_15 =>
asI .i64 r_15 fun x49 =>
ret (.ret [])) (
cond (x1c0 == 6) (
bnd (f_attempt_Attempt_Rename D [.ptr x0, I x1c1, I x1c2]) fun r_16 =>
asI .i64 r_16 fun x57 =>
ret (.ret [])) (
cond (x1c0 == 7) (
bnd (f_attempt_Attempt_Cut D [.ptr x0, I x1c1, I x1c2]) fun r_17 =>
asI .i64 r_17 fun x65 =>
ret (.ret [])) (
cond (x1c0 == 8) (
bnd (f_attempt_Attempt_Recv D [.ptr x0, I x1c1]) fun r_18 =>
asT r_18 fun x71l => uI .i64 x71l fun x71t0 r_19 =>
uI .i64 r_19 fun x71t1 r_20 =>
nl r_20 (
ret (.ret []))) (
ret (.ret [])))))))))))))

/-- (*countermand/attempt.Attempt).Valid -/
noncomputable def f_attempt_Attempt_Valid (D : HV → List HV → M HV) (args : List HV) : M HV :=
fin (
uP args fun x0 r =>
nl r (
jn (
snp true fun h =>
snp true fun h_1 =>
snp true fun h_2 =>
snp true fun h_3 =>
cond (!(Option.isNone x0)) (
snp true fun h_4 =>
mP x0 fun x7b x7o =>
snp true fun h_5 =>
snp true fun h_6 =>
ldC x7b (x7o + 1) fun v => asP v fun x9 =>
snp true fun h_7 =>
snp true fun h_8 =>
mP x0 fun x11b x11o =>
snp true fun h_9 =>
snp true fun h_10 =>
ldC x11b x11o fun v_1 => asP v_1 fun x13 =>
snp true fun h_11 =>
bnd (f_attempt_View_Now D [.ptr x13]) fun r_1 =>
asA r_1 fun x14l =>
snp true fun h_12 =>
gdP ((h_12.get x7b = h_11.get x7b ∧ h_11.get x7b = h_10.get x7b ∧ h_10.get x7b = h_9.get x7b ∧ h_9.get x7b = h_8.get x7b ∧ h_8.get x7b = h_7.get x7b ∧ h_7.get x7b = h_6.get x7b ∧ h_6.get x7b = h_5.get x7b ∧ h_5.get x7b = h_4.get x7b ∧ h_4.get x7b = h_3.get x7b ∧ h_3.get x7b = h_2.get x7b ∧ h_2.get x7b = h_1.get x7b ∧ h_1.get x7b = h.get x7b ∧ True) ∧ True) (
bnd (f_reads_Set_Valid D [.ptr x9, .agg x14l]) fun r_2 =>
asB r_2 fun x15 =>
ret (.norm [.bool x15]))) (
snp true fun h_13 =>
snp true fun h_14 =>
snp true fun h_15 =>
snp true fun h_16 =>
snp true fun h_17 =>
snp true fun h_18 =>
snp true fun h_19 =>
snp true fun h_20 =>
snp true fun h_21 =>
gdP (True) (
ret (.norm [.bool false])))) fun vs =>
uB vs fun x2 r_3 =>
nl r_3 (
ret (.ret [.bool x2]))))

/-- (*countermand/draft.Draft[int]).All$1 -/
noncomputable def f_draft_Draft_int_All_1 (D : HV → List HV → M HV) (args : List HV) : M HV :=
fin (
uc args fun x0 r =>
uP r fun x1 r_1 =>
nl r_1 (
mP x1 fun x5b x5o =>
ldC x5b x5o fun v => asP v fun x5 =>
cond (Option.isNone x5) (
ret (.ret [])) (
mP x1 fun x7b x7o =>
ldC x7b x7o fun v_1 => asP v_1 fun x7 =>
mP x7 fun x8b x8o =>
ldC x8b x8o fun v_2 => asSl v_2 fun x10 =>
blk 0 (
loopD (fun vs_1 =>
uI .i64 vs_1 fun x12 r_2 =>
nl r_2 (
cond (decide (x12 < (x10.len : Int))) (
ix x10 x12 2 fun x14b x14o =>
ldN x14b x14o 2 fun x15l =>
uI .i64 x15l fun x15c0 r_3 =>
uI .i64 r_3 fun x15c1 r_4 =>
nl r_4 (
bnd (D x0 [I x15c0, I x15c1]) fun r_5 =>
asB r_5 fun x21 =>
cond (!x21) (
ret (.ret [])) (
ret (.norm [I (wr (x12 + 1))])))) (
ret (.exit 0 [])))) [I 0]) fun vs =>
nl vs (
ret (.ret [])))))

/-- (*countermand/draft.Draft[int]).All -/
noncomputable def f_draft_Draft_int_All (D : HV → List HV → M HV) (args : List HV) : M HV :=
fin (
uP args fun x0 r =>
nl r (
nw [.ptr x0] fun b1 =>
ret (.ret [.func n_draft_Draft_int_All_1 [] [.ptr (some (b1, 0))]])))

/-- (*countermand/cell.Row[int]).Set -/
noncomputable def f_cell_Row_int_Set (D : HV → List HV → M HV) (args : List HV) : M HV :=
fin (
uP args fun x0 r =>
uI .i64 r fun x1 r_1 =>
uI .i64 r_1 fun x2 r_2 =>
uI .i64 r_2 fun x3 r_3 =>
nl r_3 (
bnd (f_cell_Row_int_is D [.ptr x0, I x1]) fun r_4 =>
asB r_4 fun x11 =>
cond (!x11) (
ret (.ret [.bool false])) (
mP x0 fun x14b x14o =>
ldC x14b x14o fun v => asSl v fun x16 =>
ix x16 x1 2 fun x21b x21o =>
stN x21b x21o [I x2, I x3] (
ret (.ret [.bool true])))))

/-- (*countermand/sheet.Sheet).Draft -/
noncomputable def f_sheet_Sheet_Draft (D : HV → List HV → M HV) (args : List HV) : M HV :=
fin (
uP args fun x0 r =>
nl r (
cond (Option.isNone x0) (
ret (.ret [.ptr none])) (
mP x0 fun x6b x6o =>
ldC x6b x6o fun v => asP v fun x8 =>
ret (.ret [.ptr x8]))))

/-- (*countermand/draft.Draft[countermand/file.File]).All$1 -/
noncomputable def f_draft_Draft_file_File_All_1 (D : HV → List HV → M HV) (args : List HV) : M HV :=
fin (
uc args fun x0 r =>
uP r fun x1 r_1 =>
nl r_1 (
mP x1 fun x5b x5o =>
ldC x5b x5o fun v => asP v fun x5 =>
cond (Option.isNone x5) (
ret (.ret [])) (
mP x1 fun x7b x7o =>
ldC x7b x7o fun v_1 => asP v_1 fun x7 =>
mP x7 fun x8b x8o =>
ldC x8b x8o fun v_2 => asSl v_2 fun x10 =>
blk 0 (
loopD (fun vs_1 =>
uI .i64 vs_1 fun x12 r_2 =>
nl r_2 (
cond (decide (x12 < (x10.len : Int))) (
ix x10 x12 3 fun x14b x14o =>
ldN x14b x14o 3 fun x15l =>
uI .i64 x15l fun x15c0 r_3 =>
uB r_3 fun x15c1 r_4 =>
uS r_4 fun x15c2 r_5 =>
nl r_5 (
bnd (D x0 [I x15c0, .agg [.bool x15c1, .str x15c2]]) fun r_6 =>
asB r_6 fun x21 =>
cond (!x21) (
ret (.ret [])) (
ret (.norm [I (wr (x12 + 1))])))) (
ret (.exit 0 [])))) [I 0]) fun vs =>
nl vs (
ret (.ret [])))))

/-- (*countermand/draft.Draft[countermand/file.File]).All -/
noncomputable def f_draft_Draft_file_File_All (D : HV → List HV → M HV) (args : List HV) : M HV :=
fin (
uP args fun x0 r =>
nl r (
nw [.ptr x0] fun b1 =>
ret (.ret [.func n_draft_Draft_file_File_All_1 [] [.ptr (some (b1, 0))]])))

/-- countermand/file.Good -/
noncomputable def f_file_Good (D : HV → List HV → M HV) (args : List HV) : M HV :=
fin (
uA args fun x0l r =>
uB x0l fun x0c0 r_1 =>
uS r_1 fun x0c1 r_2 =>
nl r_2 (
nl r (
jn (
cond (decide ((x0c1.size : Int) ≤ 32)) (
cond x0c0 (
ret (.norm [.bool true])) (
ret (.norm [.bool (x0c1.toList == (ByteArray.mk #[]).toList)]))) (
ret (.norm [.bool false]))) fun vs =>
uB vs fun x2 r_3 =>
nl r_3 (
ret (.ret [.bool x2])))))

/-- (*countermand/cell.Row[countermand/file.File]).Set -/
noncomputable def f_cell_Row_file_File_Set (D : HV → List HV → M HV) (args : List HV) : M HV :=
fin (
uP args fun x0 r =>
uI .i64 r fun x1 r_1 =>
uA r_1 fun x2l r_2 =>
uB x2l fun x2c0 r_3 =>
uS r_3 fun x2c1 r_4 =>
nl r_4 (
uI .i64 r_2 fun x3 r_5 =>
nl r_5 (
bnd (f_cell_Row_file_File_is D [.ptr x0, I x1]) fun r_6 =>
asB r_6 fun x11 =>
cond (!x11) (
ret (.ret [.bool false])) (
mP x0 fun x14b x14o =>
ldC x14b x14o fun v => asSl v fun x16 =>
ix x16 x1 3 fun x21b x21o =>
stN x21b x21o [.bool x2c0, .str x2c1, I x3] (
ret (.ret [.bool true]))))))

/-- (*countermand/tome.Tome).Set -/
noncomputable def f_tome_Tome_Set (D : HV → List HV → M HV) (args : List HV) : M HV :=
fin (
uP args fun x0 r =>
uI .i64 r fun x1 r_1 =>
uA r_1 fun x2l r_2 =>
uB x2l fun x2c0 r_3 =>
uS r_3 fun x2c1 r_4 =>
nl r_4 (
uI .i64 r_2 fun x3 r_5 =>
nl r_5 (
jn (
cond (!(Option.isNone x0)) (
bnd (f_file_Good D [.agg [.bool x2c0, .str x2c1]]) fun r_6 =>
asB r_6 fun x13 =>
cond x13 (
mP x0 fun x17b x17o =>
ldC x17b x17o fun v => asP v fun x19 =>
bnd (f_cell_Row_file_File_Set D [.ptr x19, I x1, .agg [.bool x2c0, .str x2c1], I x3]) fun r_7 =>
asB r_7 fun x23 =>
ret (.norm [.bool x23])) (
ret (.norm [.bool false]))) (
ret (.norm [.bool false]))) fun vs =>
uB vs fun x8 r_8 =>
nl r_8 (
ret (.ret [.bool x8])))))

/-- (*countermand/sheet.Sheet).Over -/
noncomputable def f_sheet_Sheet_Over (D : HV → List HV → M HV) (args : List HV) : M HV :=
fin (
uP args fun x0 r =>
uP r fun x1 r_1 =>
uI .i64 r_1 fun x2 r_2 =>
nl r_2 (
nw [.ptr x1] fun b4 =>
nw [I x2] fun b5 =>
nw [I 0] fun b7 =>
stC b7 0 (I 0) (
bnd (f_sheet_Sheet_Draft D [.ptr x0]) fun r_3 =>
asP r_3 fun x11 =>
bnd (f_draft_Draft_file_File_All D [.ptr x11]) fun r_4 =>
blk 0 (
ny r_4 (nwL 82349159 [(4, .ptr (some (b4, 0))), (5, .ptr (some (b5, 0))), (7, .ptr (some (b7, 0)))] fun l =>
bnd (D r_4 [.yld l]) fun q =>
endL l (
ret (.norm []))
(onX 0 (ret (.exit 0 [])) noX) (
ret (.ret [I 0])))) fun vs =>
nl vs (
ldC b7 0 fun v => asI .i64 v fun x22 =>
ret (.ret [I x22])))))

/-- a round of (*countermand/sheet.Sheet).Over -/
noncomputable def r0_sheet_Sheet_Over (D : HV → List HV → M HV) (l : Nat) (vs : List (Nat × HV)) (args : List HV) : M Leaf :=
gdS [4, 5, 7] vs fun vs' =>
uP vs' fun x4 r =>
uP r fun x5 r_1 =>
uP r_1 fun x7 r_2 =>
nl r_2 (
uI .i64 args fun x13 r_3 =>
uA r_3 fun x14l r_4 =>
uB x14l fun x14c0 r_5 =>
uS r_5 fun x14c1 r_6 =>
nl r_6 (
nl r_4 (
busyL l (
mP x4 fun x15b x15o =>
ldC x15b x15o fun v => asP v fun x15 =>
mP x5 fun x18b x18o =>
ldC x18b x18o fun v_1 => asI .i64 v_1 fun x18 =>
bnd (f_tome_Tome_Set D [.ptr x15, I x13, .agg [.bool x14c0, .str x14c1], I x18]) fun r_7 =>
asB r_7 fun x19 =>
cond x19 (
mP x7 fun x20b x20o =>
ldC x20b x20o fun v_2 => asI .i64 v_2 fun x20 =>
mP x7 fun qb qo =>
stC qb qo (I (wr (x20 + 1))) (
ret (.norm []))) (
ret (.norm []))))))

/-- (*countermand/cursor.Cursor).Read -/
noncomputable def f_cursor_Cursor_Read (D : HV → List HV → M HV) (args : List HV) : M HV :=
fin (
uP args fun x0 r =>
uI .i64 r fun x1 r_1 =>
nl r_1 (
jn (
cond (Option.isNone x0) (
ret (.norm [.bool true])) (
bnd (f_cursor_is D [I x1]) fun r_2 =>
asB r_2 fun x9 =>
ret (.norm [.bool (!x9)]))) fun vs =>
uB vs fun x11 r_3 =>
nl r_3 (
cond x11 (
ret (.ret [I 0])) (
mP x0 fun x14b x14o =>
gd (decide (0 ≤ x1)) (gd (decide (x1 < (3 : Int))) (
ldC x14b (x14o + x1.toNat * 1) fun v => asI .i64 v fun x17 =>
ret (.ret [I x17])))))))

/-- (*countermand/feed.Feed).Take -/
noncomputable def f_feed_Feed_Take (D : HV → List HV → M HV) (args : List HV) : M HV :=
fin (
uP args fun x0 r =>
uI .i64 r fun x1 r_1 =>
uI .i64 r_1 fun x2 r_2 =>
uI .i64 r_2 fun x3 r_3 =>
nl r_3 (
bnd (f_feed_Feed_Place D [.ptr x0, I x1]) fun r_4 =>
asT r_4 fun x14l => uI .i64 x14l fun x14t0 r_5 =>
uI .i64 r_5 fun x14t1 r_6 =>
nl r_6 (
jn (
bnd (f_feed_Feed_is D [.ptr x0, I x1]) fun r_7 =>
asB r_7 fun x19 =>
cond (!x19) (
ret (.norm [.bool true])) (
cond (decide (x2 < x14t0)) (
ret (.norm [.bool true])) (
mP x0 fun x30b x30o =>
gd (decide (0 ≤ x1)) (gd (decide (x1 < (3 : Int))) (
ldC x30b (x30o + x1.toNat * 1) fun v => asS v fun x33 =>
ret (.norm [.bool (decide (x2 > (x33.size : Int)))])))))) fun vs =>
uB vs fun x36 r_8 =>
nl r_8 (
cond x36 (
ret (.ret [.bool false])) (
mP x0 fun x38b x38o =>
ldC x38b (x38o + 3) fun v_1 => asP v_1 fun x40 =>
bnd (f_cell_Row_int_Set D [.ptr x40, I x1, I x2, I x3]) fun r_9 =>
asB r_9 fun x44 =>
ret (.ret [.bool x44]))))))

/-- (*countermand/attempt.Attempt).Land -/
noncomputable def f_attempt_Attempt_Land (D : HV → List HV → M HV) (args : List HV) : M HV :=
fin (
uP args fun x0 r =>
nl r (
bnd (f_attempt_Attempt_Valid D [.ptr x0]) fun r_1 =>
asB r_1 fun x11 =>
cond (!x11) (
ret (.ret [.bool false])) (
mP x0 fun x14b x14o =>
ldC x14b x14o fun v => asP v fun x16 =>
nw [.ptr none] fun b3 =>
stC b3 0 (.ptr x16) (
ldC b3 0 fun v_1 => asP v_1 fun x17 =>
mP x17 fun x18b x18o =>
ldC x18b (x18o + 3) fun v_2 => asI .i64 v_2 fun x20 =>
mP x17 fun x22b x22o =>
stC x22b (x22o + 3) (I (wr (x20 + 1))) (
mP x0 fun x25b x25o =>
ldC x25b (x25o + 2) fun v_3 => asP v_3 fun x28 =>
bnd (f_draft_Draft_int_All D [.ptr x28]) fun r_2 =>
blk 0 (
ny r_2 (nwL 45135019 [(3, .ptr (some (b3, 0)))] fun l =>
bnd (D r_2 [.yld l]) fun q =>
endL l (
ret (.norm []))
(onX 0 (ret (.exit 0 [])) noX) (
ret (.ret [.bool false])))) fun vs =>
nl vs (
mP x0 fun x44b x44o =>
ldC x44b (x44o + 2 + 1) fun v_4 => asP v_4 fun x47 =>
ldC b3 0 fun v_5 => asP v_5 fun x48 =>
mP x48 fun x49b x49o =>
ldC x49b (x49o + 1) fun v_6 => asP v_6 fun x51 =>
ldC b3 0 fun v_7 => asP v_7 fun x52 =>
mP x52 fun x53b x53o =>
ldC x53b (x53o + 3) fun v_8 => asI .i64 v_8 fun x55 =>
bnd (f_sheet_Sheet_Over D [.ptr x47, .ptr x51, I x55]) fun r_3 =>
asI .i64 r_3 fun x56 =>
blk 2 (
loopD (fun vs_2 =>
uI .i64 vs_2 fun x57 r_4 =>
nl r_4 (
cond (decide (x57 < 3)) (
blk 3 (
mP x0 fun x61b x61o =>
ldC x61b (x61o + 2 + 2) fun v_9 => asP v_9 fun x64 =>
bnd (f_cursor_Cursor_Read D [.ptr x64, I x57]) fun r_5 =>
asI .i64 r_5 fun x66 =>
cond (decide (x66 > 0)) (
ldC b3 0 fun v_10 => asP v_10 fun x70 =>
mP x70 fun x71b x71o =>
ldC x71b (x71o + 2) fun v_11 => asP v_11 fun x73 =>
bnd (f_feed_Feed_Place D [.ptr x73, I x57]) fun r_6 =>
asT r_6 fun x75l => uI .i64 x75l fun x75t0 r_7 =>
uI .i64 r_7 fun x75t1 r_8 =>
nl r_8 (
ldC b3 0 fun v_12 => asP v_12 fun x78 =>
mP x78 fun x79b x79o =>
ldC x79b (x79o + 2) fun v_13 => asP v_13 fun x81 =>
ldC b3 0 fun v_14 => asP v_14 fun x86 =>
mP x86 fun x87b x87o =>
ldC x87b (x87o + 3) fun v_15 => asI .i64 v_15 fun x89 =>
bnd (f_feed_Feed_Take D [.ptr x81, I x57, I (wr (x75t0 + x66)), I x89]) fun r_9 =>
asB r_9 fun x90 =>
ret (.norm []))) (
ret (.norm []))) fun vs_3 =>
nl vs_3 (
ret (.norm [I (wr (x57 + 1))]))) (
ret (.exit 2 [])))) [I 0]) fun vs_1 =>
nl vs_1 (
ret (.ret [.bool true]))))))))

/-- a round of (*countermand/attempt.Attempt).Land -/
noncomputable def r0_attempt_Attempt_Land (D : HV → List HV → M HV) (l : Nat) (vs : List (Nat × HV)) (args : List HV) : M Leaf :=
gdS [3] vs fun vs' =>
uP vs' fun x3 r =>
nl r (
uI .i64 args fun x30 r_1 =>
uI .i64 r_1 fun x31 r_2 =>
nl r_2 (
busyL l (
mP x3 fun x32b x32o =>
ldC x32b x32o fun v => asP v fun x32 =>
mP x32 fun x33b x33o =>
ldC x33b x33o fun v_1 => asP v_1 fun x35 =>
mP x3 fun x38b x38o =>
ldC x38b x38o fun v_2 => asP v_2 fun x38 =>
mP x38 fun x39b x39o =>
ldC x39b (x39o + 3) fun v_3 => asI .i64 v_3 fun x41 =>
bnd (f_cell_Row_int_Set D [.ptr x35, I x30, I x31, I x41]) fun r_3 =>
asB r_3 fun x42 =>
ret (.norm []))))

/-- (*countermand/attempt.Attempt).Reads -/
noncomputable def f_attempt_Attempt_Reads (D : HV → List HV → M HV) (args : List HV) : M HV :=
fin (
uP args fun x0 r =>
nl r (
cond (Option.isNone x0) (
ret (.ret [.ptr none])) (
mP x0 fun x6b x6o =>
ldC x6b (x6o + 1) fun v => asP v fun x8 =>
ret (.ret [.ptr x8]))))

/-- (*countermand/reads.Set).All$1 -/
noncomputable def f_reads_Set_All_1 (D : HV → List HV → M HV) (args : List HV) : M HV :=
fin (
uc args fun x0 r =>
nl r (
ret (.ret [])))

/-- slices.Values[[]countermand/reads.Entry,countermand/reads.Entry]$1 -/
noncomputable def f_slices_Values_reads_Entry_reads_Entry_1 (D : HV → List HV → M HV) (args : List HV) : M HV :=
fin (
uc args fun x0 r =>
uP r fun x1 r_1 =>
nl r_1 (
mP x1 fun x5b x5o =>
ldC x5b x5o fun v => asSl v fun x5 =>
blk 0 (
loopD (fun vs_1 =>
uI .i64 vs_1 fun x7 r_2 =>
nl r_2 (
cond (decide (x7 < (x5.len : Int))) (
ix x5 x7 3 fun x9b x9o =>
ldN x9b x9o 3 fun x10l =>
uI .i64 x10l fun x10c0 r_3 =>
uI .i64 r_3 fun x10c1 r_4 =>
uI .i64 r_4 fun x10c2 r_5 =>
nl r_5 (
bnd (D x0 [.agg [I x10c0, I x10c1, I x10c2]]) fun r_6 =>
asB r_6 fun x13 =>
cond (!x13) (
ret (.ret [])) (
ret (.norm [I (wr (x7 + 1))])))) (
ret (.exit 0 [])))) [I 0]) fun vs =>
nl vs (
ret (.ret []))))

/-- slices.Values[[]countermand/reads.Entry,countermand/reads.Entry] -/
noncomputable def f_slices_Values_reads_Entry_reads_Entry (D : HV → List HV → M HV) (args : List HV) : M HV :=
fin (
uL args fun x0 r =>
nl r (
nw [.sl x0] fun b1 =>
ret (.ret [.func n_slices_Values_reads_Entry_reads_Entry_1 [] [.ptr (some (b1, 0))]])))

/-- (*countermand/reads.Set).All -/
noncomputable def f_reads_Set_All (D : HV → List HV → M HV) (args : List HV) : M HV :=
fin (
uP args fun x0 r =>
nl r (
cond (Option.isNone x0) (
ret (.ret [.func n_reads_Set_All_1 [] []])) (
mP x0 fun x6b x6o =>
ldC x6b x6o fun v => asSl v fun x8 =>
bnd (f_slices_Values_reads_Entry_reads_Entry D [.sl x8]) fun r_1 =>
ret (.ret [r_1]))))

/-- slices.AppendSeq[[]countermand/reads.Entry,countermand/reads.Entry] -/
noncomputable def f_slices_AppendSeq_reads_Entry_reads_Entry (D : HV → List HV → M HV) (args : List HV) : M HV :=
fin (
uL args fun x0 r =>
uc r fun x1 r_1 =>
nl r_1 (
nw [.sl x0] fun b2 =>
blk 0 (
ny x1 (nwL 58353469 [(2, .ptr (some (b2, 0)))] fun l =>
bnd (D x1 [.yld l]) fun q =>
endL l (
ret (.norm []))
(onX 0 (ret (.exit 0 [])) noX) (
ret (.ret [.sl (⟨none, 0, 0, none⟩)])))) fun vs =>
nl vs (
ldC b2 0 fun v => asSl v fun x12 =>
ret (.ret [.sl x12]))))

/-- a round of slices.AppendSeq[[]countermand/reads.Entry,countermand/reads.Entry] -/
noncomputable def r0_slices_AppendSeq_reads_Entry_reads_Entry (D : HV → List HV → M HV) (l : Nat) (vs : List (Nat × HV)) (args : List HV) : M Leaf :=
gdS [2] vs fun vs' =>
uP vs' fun x2 r =>
nl r (
uA args fun x7l r_1 =>
uI .i64 x7l fun x7c0 r_2 =>
uI .i64 r_2 fun x7c1 r_3 =>
uI .i64 r_3 fun x7c2 r_4 =>
nl r_4 (
nl r_1 (
busyL l (
mP x2 fun x8b x8o =>
ldC x8b x8o fun v => asSl v fun x8 =>
apd x8 3 24 1 [I x7c0, I x7c1, I x7c2] fun x11 =>
mP x2 fun qb qo =>
stC qb qo (.sl x11) (
ret (.norm []))))))

/-- slices.Collect[countermand/reads.Entry] -/
noncomputable def f_slices_Collect_reads_Entry (D : HV → List HV → M HV) (args : List HV) : M HV :=
fin (
uc args fun x0 r =>
nl r (
bnd (f_slices_AppendSeq_reads_Entry_reads_Entry D [.sl (⟨none, 0, 0, none⟩), x0]) fun r_1 =>
asSl r_1 fun x4 =>
ret (.ret [.sl x4])))

/-- (*countermand/attempt.Attempt).State -/
noncomputable def f_attempt_Attempt_State (D : HV → List HV → M HV) (args : List HV) : M HV :=
fin (
uP args fun x0 r =>
nl r (
cond (Option.isNone x0) (
ret (.ret [.agg [.ptr none, .ptr none, .ptr none, I 0, I 0, I 0, I 0]])) (
mP x0 fun x7b x7o =>
ldN x7b (x7o + 2) 7 fun x9l =>
uP x9l fun x9c0 r_1 =>
uP r_1 fun x9c1 r_2 =>
uP r_2 fun x9c2 r_3 =>
uI .i64 r_3 fun x9c3 r_4 =>
uI .i64 r_4 fun x9c4 r_5 =>
uI .i64 r_5 fun x9c5 r_6 =>
uI .i64 r_6 fun x9c6 r_7 =>
nl r_7 (
ret (.ret [.agg [.ptr x9c0, .ptr x9c1, .ptr x9c2, I x9c3, I x9c4, I x9c5, I x9c6]])))))

/-- countermand/witness.Of -/
noncomputable def f_witness_Of (D : HV → List HV → M HV) (args : List HV) : M HV :=
fin (
uP args fun x0 r =>
uI .i64 r fun x1 r_1 =>
nl r_1 (
nw [I x1] fun b3 =>
cond (Option.isNone x0) (
ret (.ret [.agg [.sl (⟨none, 0, 0, none⟩), .sl (⟨none, 0, 0, none⟩)]])) (
bnd (f_attempt_Attempt_Reads D [.ptr x0]) fun r_2 =>
asP r_2 fun x14 =>
bnd (f_reads_Set_All D [.ptr x14]) fun r_3 =>
bnd (f_slices_Collect_reads_Entry D [r_3]) fun r_4 =>
asSl r_4 fun x16 =>
nw [.sl (⟨none, 0, 0, none⟩), .sl (⟨none, 0, 0, none⟩)] fun b5 =>
stN b5 0 [.sl x16, .sl (⟨none, 0, 0, none⟩)] (
bnd (f_attempt_Attempt_State D [.ptr x0]) fun r_5 =>
asA r_5 fun x19l => uP x19l fun x19c0 r_6 =>
uP r_6 fun x19c1 r_7 =>
uP r_7 fun x19c2 r_8 =>
uI .i64 r_8 fun x19c3 r_9 =>
uI .i64 r_9 fun x19c4 r_10 =>
uI .i64 r_10 fun x19c5 r_11 =>
uI .i64 r_11 fun x19c6 r_12 =>
nl r_12 (
bnd (f_draft_Draft_int_All D [.ptr x19c0]) fun r_13 =>
blk 0 (
ny r_13 (nwL 78258034 [(3, .ptr (some (b3, 0))), (5, .ptr (some (b5, 0)))] fun l =>
bnd (D r_13 [.yld l]) fun q =>
endL l (
ret (.norm []))
(onX 0 (ret (.exit 0 [])) noX) (
ret (.ret [.agg [.sl (⟨none, 0, 0, none⟩), .sl (⟨none, 0, 0, none⟩)]])))) fun vs =>
nl vs (
bnd (f_sheet_Sheet_Draft D [.ptr x19c1]) fun r_14 =>
asP r_14 fun x35 =>
bnd (f_draft_Draft_file_File_All D [.ptr x35]) fun r_15 =>
blk 2 (
ny r_15 (nwL 19334329 [(3, .ptr (some (b3, 0))), (5, .ptr (some (b5, 0)))] fun l_1 =>
bnd (D r_15 [.yld l_1]) fun q_1 =>
endL l_1 (
ret (.norm []))
(onX 2 (ret (.exit 2 [])) noX) (
ret (.ret [.agg [.sl (⟨none, 0, 0, none⟩), .sl (⟨none, 0, 0, none⟩)]])))) fun vs_1 =>
nl vs_1 (
blk 4 (
loopD (fun vs_3 =>
uI .i64 vs_3 fun x47 r_16 =>
nl r_16 (
cond (decide (x47 < 3)) (
blk 5 (
bnd (f_cursor_Cursor_Read D [.ptr x19c2, I x47]) fun r_17 =>
asI .i64 r_17 fun x53 =>
cond (decide (x53 > 0)) (
ldC b5 1 fun v => asSl v fun x56 =>
ldC b3 0 fun v_1 => asI .i64 v_1 fun x58 =>
apd x56 3 24 1 [I 2, I x47, I x58] fun x61 =>
stC b5 1 (.sl x61) (
ret (.norm []))) (
ret (.norm []))) fun vs_4 =>
nl vs_4 (
ret (.norm [I (wr (x47 + 1))]))) (
ret (.exit 4 [])))) [I 0]) fun vs_2 =>
nl vs_2 (
ldN b5 0 2 fun x64l =>
uL x64l fun x64c0 r_18 =>
uL r_18 fun x64c1 r_19 =>
nl r_19 (
ret (.ret [.agg [.sl x64c0, .sl x64c1]]))))))))))

/-- a round of countermand/witness.Of -/
noncomputable def r0_witness_Of (D : HV → List HV → M HV) (l : Nat) (vs : List (Nat × HV)) (args : List HV) : M Leaf :=
gdS [3, 5] vs fun vs' =>
uP vs' fun x3 r =>
uP r fun x5 r_1 =>
nl r_1 (
uI .i64 args fun x23 r_2 =>
uI .i64 r_2 fun x24 r_3 =>
nl r_3 (
busyL l (
mP x5 fun x25b x25o =>
ldC x25b (x25o + 1) fun v => asSl v fun x26 =>
mP x3 fun x28b x28o =>
ldC x28b x28o fun v_1 => asI .i64 v_1 fun x28 =>
apd x26 3 24 1 [I 0, I x23, I x28] fun x31 =>
mP x5 fun x32b x32o =>
stC x32b (x32o + 1) (.sl x31) (
ret (.norm [])))))

/-- a round of countermand/witness.Of -/
noncomputable def r1_witness_Of (D : HV → List HV → M HV) (l : Nat) (vs : List (Nat × HV)) (args : List HV) : M Leaf :=
gdS [3, 5] vs fun vs' =>
uP vs' fun x3 r =>
uP r fun x5 r_1 =>
nl r_1 (
uI .i64 args fun x37 r_2 =>
uA r_2 fun x38l r_3 =>
uB x38l fun x38c0 r_4 =>
uS r_4 fun x38c1 r_5 =>
nl r_5 (
nl r_3 (
busyL l (
mP x5 fun x39b x39o =>
ldC x39b (x39o + 1) fun v => asSl v fun x40 =>
mP x3 fun x42b x42o =>
ldC x42b x42o fun v_1 => asI .i64 v_1 fun x42 =>
apd x40 3 24 1 [I 1, I x37, I x42] fun x45 =>
mP x5 fun x46b x46o =>
stC x46b (x46o + 1) (.sl x45) (
ret (.norm []))))))

/-- countermand/countermandlaw30.WitnessOf -/
noncomputable def f_law30_WitnessOf (D : HV → List HV → M HV) (args : List HV) : M HV :=
fin (
uL args fun x0 r =>
uL r fun x1 r_1 =>
uA r_1 fun x2l r_2 =>
uS x2l fun x2c0 r_3 =>
uS r_3 fun x2c1 r_4 =>
uS r_4 fun x2c2 r_5 =>
nl r_5 (
nl r_2 (
nw [.bool false] fun b6 =>
bnd (f_law30_alive D []) fun r_6 =>
asB r_6 fun x28 =>
cond (!x28) (
stC b6 0 (.bool false) (
ldC b6 0 fun v => asB v fun z0 =>
ret (.ret [.bool z0]))) (
jn (
cond (decide ((x0.len : Int) > 60)) (
ret (.norm [.bool true])) (
cond (decide ((x1.len : Int) > 60)) (
ret (.norm [.bool true])) (
cond (decide ((x2c0.size : Int) > 64)) (
ret (.norm [.bool true])) (
cond (decide ((x2c1.size : Int) > 64)) (
ret (.norm [.bool true])) (
ret (.norm [.bool (decide ((x2c2.size : Int) > 64))])))))) fun vs =>
uB vs fun x55 r_7 =>
nl r_7 (
cond x55 (
stC b6 0 (.bool true) (
ldC b6 0 fun v_1 => asB v_1 fun z0_1 =>
ret (.ret [.bool z0_1]))) (
bnd (f_attempt_NewView D []) fun r_8 =>
asP r_8 fun x56 =>
blk 0 (
loopD (fun vs_2 =>
uI .i64 vs_2 fun x58 r_9 =>
nl r_9 (
cond (decide (x58 < 3)) (
gd (decide (0 ≤ x58)) (gd (decide (x58 < (3 : Int))) (
gx [.str x2c0, .str x2c1, .str x2c2] (x58.toNat * 1) fun v_2 => asS v_2 fun x61 =>
mP x56 fun x63b x63o =>
ldC x63b (x63o + 2) fun v_3 => asP v_3 fun x65 =>
bnd (f_feed_Feed_Arrive D [.ptr x65, I x58, .str x61]) fun r_10 =>
asI .i64 r_10 fun x68 =>
ret (.norm [I (wr (x58 + 1))])))) (
ret (.exit 0 [])))) [I 0]) fun vs_1 =>
nl vs_1 (
bnd (f_attempt_New D [.ptr x56, .agg [I 0, I 0, I 0, I 0]]) fun r_11 =>
asP r_11 fun x72 =>
blk 2 (
loopD (fun vs_4 =>
uI .i64 vs_4 fun x75 r_12 =>
nl r_12 (
cond (decide (x75 < (x0.len : Int))) (
ix x0 x75 4 fun x77b x77o =>
ldN x77b x77o 4 fun x78l =>
uI .i64 x78l fun x78c0 r_13 =>
uI .i64 r_13 fun x78c1 r_14 =>
uI .i64 r_14 fun x78c2 r_15 =>
uI .u8 r_15 fun x78c3 r_16 =>
nl r_16 (
bnd (f_law30_does D [.ptr x72, .agg [I x78c0, I x78c1, I x78c2, .int .u8 x78c3]]) fun r_17 =>
asT r_17 fun x81l => nl x81l (
ret (.norm [I (wr (x75 + 1))])))) (
ret (.exit 2 [])))) [I 0]) fun vs_3 =>
nl vs_3 (
bnd (f_attempt_Attempt_Land D [.ptr x72]) fun r_18 =>
asB r_18 fun x84 =>
bnd (f_attempt_New D [.ptr x56, .agg [I 0, I 0, I 0, I 0]]) fun r_19 =>
asP r_19 fun x87 =>
blk 4 (
loopD (fun vs_6 =>
uI .i64 vs_6 fun x90 r_20 =>
nl r_20 (
cond (decide (x90 < (x1.len : Int))) (
ix x1 x90 4 fun x92b x92o =>
ldN x92b x92o 4 fun x93l =>
uI .i64 x93l fun x93c0 r_21 =>
uI .i64 r_21 fun x93c1 r_22 =>
uI .i64 r_22 fun x93c2 r_23 =>
uI .u8 r_23 fun x93c3 r_24 =>
nl r_24 (
bnd (f_law30_does D [.ptr x87, .agg [I x93c0, I x93c1, I x93c2, .int .u8 x93c3]]) fun r_25 =>
asT r_25 fun x96l => nl x96l (
ret (.norm [I (wr (x90 + 1))])))) (
ret (.exit 4 [])))) [I 0]) fun vs_5 =>
nl vs_5 (
bnd (f_witness_Of D [.ptr x87, I 2]) fun r_26 =>
asA r_26 fun x99l => uL x99l fun x99c0 r_27 =>
uL r_27 fun x99c1 r_28 =>
nl r_28 (
nw [.sl (⟨none, 0, 0, none⟩), .sl (⟨none, 0, 0, none⟩)] fun b16 =>
stN b16 0 [.sl x99c0, .sl x99c1] (
nw [I 0] fun b17 =>
stC b17 0 (I 0) (
bnd (f_attempt_Attempt_Reads D [.ptr x87]) fun r_29 =>
asP r_29 fun x101 =>
bnd (f_reads_Set_All D [.ptr x101]) fun r_30 =>
blk 6 (
ny r_30 (nwL 11373009 [(6, .ptr (some (b6, 0))), (16, .ptr (some (b16, 0))), (17, .ptr (some (b17, 0)))] fun l =>
bnd (D r_30 [.yld l]) fun q =>
endL l (
ret (.norm []))
(onX 6 (ret (.exit 6 [])) noX) (
ldC b6 0 fun v_4 => asB v_4 fun z0_2 =>
ret (.ret [.bool z0_2])))) fun vs_7 =>
nl vs_7 (
jn (
ldC b17 0 fun v_5 => asI .i64 v_5 fun x120 =>
ldC b16 0 fun v_6 => asSl v_6 fun x122 =>
cond (x120 != (x122.len : Int)) (
ret (.norm [.bool true])) (
bnd (f_attempt_Attempt_Land D [.ptr x87]) fun r_31 =>
asB r_31 fun x127 =>
cond (!x127) (
ret (.norm [.bool true])) (
mP x56 fun x132b x132o =>
ldC x132b (x132o + 3) fun v_7 => asI .i64 v_7 fun x134 =>
ret (.norm [.bool (x134 != 2)])))) fun vs_8 =>
uB vs_8 fun x136 r_32 =>
nl r_32 (
cond x136 (
stC b6 0 (.bool false) (
ldC b6 0 fun v_8 => asB v_8 fun z0_3 =>
ret (.ret [.bool z0_3]))) (
bnd (f_attempt_View_Now D [.ptr x56]) fun r_33 =>
asA r_33 fun x138l =>
gd (Nat.beq x138l.length 25) (
gd (Nat.ble (0 + x138l.length) (([I 0, I 0, I 0, I 0, I 0, I 0, I 0, I 0, I 0, I 0, I 0, I 0, I 0, I 0, I 0, I 0, I 0, I 0, I 0, I 0, I 0, I 0, I 0, I 0, I 0]) : List HV).length) (
ldC b16 1 fun v_9 => asSl v_9 fun x140 =>
blk 8 (
loopD (fun vs_10 =>
uI .i64 vs_10 fun x21 r_34 =>
uI .i64 r_34 fun x142 r_35 =>
nl r_35 (
cond (decide (x142 < (x140.len : Int))) (
ix x140 x142 3 fun x144b x144o =>
ldN x144b x144o 3 fun x145l =>
uI .i64 x145l fun x145c0 r_36 =>
uI .i64 r_36 fun x145c1 r_37 =>
uI .i64 r_37 fun x145c2 r_38 =>
nl r_38 (
jn (
cond (x145c2 != 2) (
ret (.norm [.bool true])) (
gxN (putN [I 0, I 0, I 0, I 0, I 0, I 0, I 0, I 0, I 0, I 0, I 0, I 0, I 0, I 0, I 0, I 0, I 0, I 0, I 0, I 0, I 0, I 0, I 0, I 0, I 0] 0 x138l) 0 25 fun x150l =>
bnd (f_reads_Now_Of D [.agg x150l, I x145c0, I x145c1]) fun r_39 =>
asI .i64 r_39 fun x155 =>
cond (x155 != 2) (
ret (.norm [.bool true])) (
ret (.norm [.bool (decide ((wr ((wr (8 * x145c0)) + x145c1)) ≤ x21))])))) fun vs_11 =>
uB vs_11 fun x167 r_40 =>
nl r_40 (
cond x167 (
stC b6 0 (.bool false) (
ldC b6 0 fun v_10 => asB v_10 fun z0_4 =>
ret (.ret [.bool z0_4]))) (
ret (.norm [I (wr ((wr (8 * x145c0)) + x145c1)), I (wr (x142 + 1))]))))) (
ret (.exit 8 [])))) [I (-1), I 0]) fun vs_9 =>
nl vs_9 (
blk 10 (
loopD (fun vs_13 =>
uI .i64 vs_13 fun x20 r_41 =>
uI .i64 r_41 fun x175 r_42 =>
nl r_42 (
cond (decide (x175 < 3)) (
gd (decide (0 ≤ x175)) (gd (decide (x175 < (3 : Int))) (
gxN (putN [I 0, I 0, I 0, I 0, I 0, I 0, I 0, I 0, I 0, I 0, I 0, I 0, I 0, I 0, I 0, I 0, I 0, I 0, I 0, I 0, I 0, I 0, I 0, I 0, I 0] 0 x138l) (0 + x175.toNat * 8) 8 fun x181l =>
uI .i64 x181l fun x181c0 r_43 =>
uI .i64 r_43 fun x181c1 r_44 =>
uI .i64 r_44 fun x181c2 r_45 =>
uI .i64 r_45 fun x181c3 r_46 =>
uI .i64 r_46 fun x181c4 r_47 =>
uI .i64 r_47 fun x181c5 r_48 =>
uI .i64 r_48 fun x181c6 r_49 =>
uI .i64 r_49 fun x181c7 r_50 =>
nl r_50 (
blk 12 (
loopD (fun vs_15 =>
uI .i64 vs_15 fun x20_1 r_51 =>
uI .i64 r_51 fun x182 r_52 =>
nl r_52 (
cond (decide (x182 < 8)) (
blk 13 (
gd (decide (0 ≤ x182)) (gd (decide (x182 < (8 : Int))) (
gx [I x181c0, I x181c1, I x181c2, I x181c3, I x181c4, I x181c5, I x181c6, I x181c7] (x182.toNat * 1) fun v_11 => asI .i64 v_11 fun x184 =>
cond (x184 == 2) (
ret (.norm [I (wr (x20_1 + 1))])) (
ret (.norm [I x20_1]))))) fun vs_16 =>
uI .i64 vs_16 fun x20_2 r_53 =>
nl r_53 (
ret (.norm [I x20_2, I (wr (x182 + 1))]))) (
ret (.exit 12 [I x20_1])))) [I x20, I 0]) fun vs_14 =>
uI .i64 vs_14 fun x20_3 r_54 =>
nl r_54 (
ret (.norm [I x20_3, I (wr (x175 + 1))])))))) (
ret (.exit 10 [I x20])))) [I 0, I 0]) fun vs_12 =>
uI .i64 vs_12 fun x20_4 r_55 =>
nl r_55 (
bnd (f_witness_Of D [.ptr none, I 7]) fun r_56 =>
asA r_56 fun x191l => uL x191l fun x191c0 r_57 =>
uL r_57 fun x191c1 r_58 =>
nl r_58 (
jn (
ldC b16 1 fun v_12 => asSl v_12 fun x194 =>
cond (x20_4 == (x194.len : Int)) (
stC b6 0 (.bool ((wr ((x191c0.len : Int) + (x191c1.len : Int))) == 0)) (
ret (.norm []))) (
stC b6 0 (.bool false) (
ret (.norm [])))) fun vs_17 =>
nl vs_17 (
ldC b6 0 fun v_13 => asB v_13 fun z0_5 =>
ret (.ret [.bool z0_5]))))))))))))))))))))))

/-- a round of countermand/countermandlaw30.WitnessOf -/
noncomputable def r0_law30_WitnessOf (D : HV → List HV → M HV) (l : Nat) (vs : List (Nat × HV)) (args : List HV) : M Leaf :=
gdS [6, 16, 17] vs fun vs' =>
uP vs' fun x6 r =>
uP r fun x16 r_1 =>
uP r_1 fun x17 r_2 =>
nl r_2 (
uA args fun x103l r_3 =>
uI .i64 x103l fun x103c0 r_4 =>
uI .i64 r_4 fun x103c1 r_5 =>
uI .i64 r_5 fun x103c2 r_6 =>
nl r_6 (
nl r_3 (
busyL l (
jn (
mP x17 fun x104b x104o =>
ldC x104b x104o fun v => asI .i64 v fun x104 =>
mP x16 fun x105b x105o =>
ldC x105b x105o fun v_1 => asSl v_1 fun x106 =>
cond (decide (x104 ≥ (x106.len : Int))) (
ret (.norm [.bool true])) (
mP x16 fun x110b x110o =>
ldC x110b x110o fun v_2 => asSl v_2 fun x111 =>
mP x17 fun x112b x112o =>
ldC x112b x112o fun v_3 => asI .i64 v_3 fun x112 =>
ix x111 x112 3 fun x113b x113o =>
ldN x113b x113o 3 fun x114l =>
uI .i64 x114l fun x114c0 r_7 =>
uI .i64 r_7 fun x114c1 r_8 =>
uI .i64 r_8 fun x114c2 r_9 =>
nl r_9 (
ret (.norm [.bool (!(cond (x114c0 == x103c0) (cond (x114c1 == x103c1) (cond (x114c2 == x103c2) true false) false) false))])))) fun vs_1 =>
uB vs_1 fun x117 r_10 =>
nl r_10 (
cond x117 (
mP x6 fun qb qo =>
stC qb qo (.bool false) (
ret (.ret []))) (
mP x17 fun x118b x118o =>
ldC x118b x118o fun v_4 => asI .i64 v_4 fun x118 =>
mP x17 fun qb_1 qo_1 =>
stC qb_1 qo_1 (I (wr (x118 + 1))) (
ret (.norm []))))))))

end Go.Proofs.YtoogohhlmdgdpaaGreat.HL
