/- The texts of functions, printed out of the dump by hlgen3.py. Conditions: none (definitions). -/
import Derived.Test.YtmfmcegpoiinjaaDoorHMLb
import Derived.Test.YtmfmcegpoiinjaaDoorHM4n
namespace Go.Proofs.YtmfmcegpoiinjaaDoor.HM
open Go
set_option maxRecDepth 100000
set_option linter.unusedVariables false

/-- internal/stringslite.HasPrefix -/
noncomputable def f_internal_stringslite_HasPrefix (D : HV → List HV → M HV) (args : List HV) : M HV :=
fin (
uS args fun x0 r =>
uS r fun x1 r_1 =>
nl r_1 (
jn (
cond (decide ((x0.size : Int) ≥ (x1.size : Int))) (
gd (decide (0 ≤ 0)) (gd (decide (0 ≤ (x1.size : Int))) (gd (decide ((x1.size : Int) ≤ (x0.size : Int))) (
ret (.norm [.bool ((x0.extract (0 : Int).toNat (x1.size : Int).toNat).toList == x1.toList)]))))) (
ret (.norm [.bool false]))) fun vs =>
uB vs fun x4 r_2 =>
nl r_2 (
ret (.ret [.bool x4]))))

/-- strings.HasPrefix -/
noncomputable def f_strings_HasPrefix (D : HV → List HV → M HV) (args : List HV) : M HV :=
fin (
uS args fun x0 r =>
uS r fun x1 r_1 =>
nl r_1 (
bnd (f_internal_stringslite_HasPrefix D [.str x0, .str x1]) fun r_2 =>
asB r_2 fun x7 =>
ret (.ret [.bool x7])))

/-- countermand/label.told -/
noncomputable def f_label_told (D : HV → List HV → M HV) (args : List HV) : M HV :=
fin (
uA args fun x0l r =>
uI .i64 x0l fun x0c0 r_1 =>
uI .i64 r_1 fun x0c1 r_2 =>
uI .i64 r_2 fun x0c2 r_3 =>
uI .i64 r_3 fun x0c3 r_4 =>
nl r_4 (
uI .i64 r fun x1 r_5 =>
nl r_5 (
jn (
cond (decide (x0c0 < 0)) (
ret (.norm [.bool true])) (
ret (.norm [.bool (decide (x0c0 ≥ 22))]))) fun vs =>
uB vs fun x15 r_6 =>
nl r_6 (
cond x15 (
ret (.ret [.bool false])) (
gd (decide (0 ≤ x0c0)) (gd (decide (x0c0 < (22 : Int))) (
ldC 5 (0 + x0c0.toNat * 1) fun v => asS v fun x19 =>
blk 0 (
loopD (fun vs_2 =>
uI .i64 vs_2 fun x27 r_7 =>
nl r_7 (
cond (decide (x27 < 3)) (
gd (decide (0 ≤ x27)) (gd (decide (x27 < (3 : Int))) (
gx [I x0c1, I x0c2, I x0c3] (x27.toNat * 1) fun v_1 => asI .i64 v_1 fun x30 =>
jn (
cond (decide (x27 ≥ (x19.size : Int))) (
ret (.norm [.bool (x30 != 0)])) (
ret (.norm [.bool false]))) fun vs_3 =>
uB vs_3 fun x38 r_8 =>
nl r_8 (
cond x38 (
ret (.ret [.bool false])) (
ret (.norm [I (wr (x27 + 1))])))))) (
ret (.exit 0 [])))) [I 0]) fun vs_1 =>
nl vs_1 (
jn (
bnd (f_strings_HasPrefix D [.str x19, .str (ByteArray.mk #[103])]) fun r_9 =>
asB r_9 fun x41 =>
cond (!x41) (
ret (.norm [.bool true])) (
cond (decide (x0c1 ≥ 0)) (
ret (.norm [.bool (decide (x0c1 ≤ x1))])) (
ret (.norm [.bool false])))) fun vs_4 =>
uB vs_4 fun x4 r_10 =>
nl r_10 (
ret (.ret [.bool x4]))))))))))

/-- (*strings.Builder).WriteString -/
noncomputable def f_strings_Builder_WriteString (D : HV → List HV → M HV) (args : List HV) : M HV :=
fin (
uP args fun x0 r =>
uS r fun x1 r_1 =>
nl r_1 (
bnd (f_strings_Builder_copyCheck D [.ptr x0]) fun r_2 =>
asT r_2 fun x7l => nl x7l (
mP x0 fun x10b x10o =>
ldC x10b (x10o + 1) fun v => asSl v fun x12 =>
apdT 5 x12 1 1 x1.size (bytesHV x1) fun x14 =>
mP x0 fun x15b x15o =>
stC x15b (x15o + 1) (.sl x14) (
ret (.ret [I (x1.size : Int), .ifc false])))))

/-- countermand/label.goal -/
noncomputable def f_label_goal (D : HV → List HV → M HV) (args : List HV) : M HV :=
fin (
uI .i64 args fun x0 r =>
nl r (
bnd (f_strconv_Itoa D [I x0]) fun r_1 =>
asS r_1 fun x4 =>
gd (decide ((ByteArray.mk #[112]).size + x4.size ≤ 9223372036854775807)) (
ret (.ret [.str ((ByteArray.mk #[112]) ++ x4)]))))

/-- countermand/label.tell -/
noncomputable def f_label_tell (D : HV → List HV → M HV) (args : List HV) : M HV :=
fin (
uA args fun x0l r =>
uI .i64 x0l fun x0c0 r_1 =>
uI .i64 r_1 fun x0c1 r_2 =>
uI .i64 r_2 fun x0c2 r_3 =>
uI .i64 r_3 fun x0c3 r_4 =>
nl r_4 (
nl r (
gd (decide (0 ≤ x0c0)) (gd (decide (x0c0 < (22 : Int))) (
ldC 4 (0 + x0c0.toNat * 1) fun v => asS v fun x10 =>
gd (decide (0 ≤ x0c0)) (gd (decide (x0c0 < (22 : Int))) (
ldC 5 (0 + x0c0.toNat * 1) fun v_1 => asS v_1 fun x21 =>
nwS (.iter x21 0) fun b22 =>
blk 0 (
loopD (fun vs_1 =>
uS vs_1 fun x3 r_5 =>
nl r_5 (
nxM b22 (fun pos c =>
cond ((c : Int) == 103) (
gd (decide (0 ≤ (pos : Int))) (gd (decide ((pos : Int) < (3 : Int))) (
gx [I x0c1, I x0c2, I x0c3] (0 + (pos : Int).toNat * 1) fun v_2 => asI .i64 v_2 fun x32 =>
bnd (f_label_goal D [I x32]) fun r_6 =>
asS r_6 fun x33 =>
gd (decide ((ByteArray.mk #[32]).size + x33.size ≤ 9223372036854775807)) (
gd (decide (x3.size + ((ByteArray.mk #[32]) ++ x33).size ≤ 9223372036854775807)) (
ret (.norm [.str (x3 ++ ((ByteArray.mk #[32]) ++ x33))])))))) (
gd (decide (0 ≤ (pos : Int))) (gd (decide ((pos : Int) < (3 : Int))) (
gx [I x0c1, I x0c2, I x0c3] (0 + (pos : Int).toNat * 1) fun v_3 => asI .i64 v_3 fun x39 =>
bnd (f_strconv_Itoa D [I x39]) fun r_7 =>
asS r_7 fun x40 =>
gd (decide ((ByteArray.mk #[32]).size + x40.size ≤ 9223372036854775807)) (
gd (decide (x3.size + ((ByteArray.mk #[32]) ++ x40).size ≤ 9223372036854775807)) (
ret (.norm [.str (x3 ++ ((ByteArray.mk #[32]) ++ x40))]))))))) (
ret (.exit 0 [.str x3])))) [.str x10]) fun vs =>
uS vs fun x3_1 r_8 =>
nl r_8 (
ret (.ret [.str x3_1])))))))))

/-- (*strings.Builder).String -/
noncomputable def f_strings_Builder_String (D : HV → List HV → M HV) (args : List HV) : M HV :=
fin (
uP args fun x0 r =>
nl r (
mP x0 fun x4b x4o =>
ldC x4b (x4o + 1) fun v => asSl v fun x6 =>
gd (Option.isNone x6.p || decide (0 < x6.cap)) (
mP x0 fun x9b x9o =>
ldC x9b (x9o + 1) fun v_1 => asSl v_1 fun x11 =>
usM 5 x6.p (x11.len : Int) fun x13 =>
ret (.ret [.str x13]))))

/-- countermand/label.Write -/
noncomputable def f_label_Write (D : HV → List HV → M HV) (args : List HV) : M HV :=
fin (
uL args fun x0 r =>
nl r (
cond (decide ((x0.len : Int) > 48)) (
ret (.ret [.str (ByteArray.mk #[]), I 3])) (
blk 0 (
loopD (fun vs_1 =>
uI .i64 vs_1 fun x14 r_1 =>
uA r_1 fun y4 r_2 =>
nl r_2 (
cond (decide (x14 < (x0.len : Int))) (
blk 1 (
ix x0 x14 4 fun x16b x16o =>
ldN x16b x16o 4 fun x17l =>
uI .i64 x17l fun x17c0 r_3 =>
uI .i64 r_3 fun x17c1 r_4 =>
uI .i64 r_4 fun x17c2 r_5 =>
uI .i64 r_5 fun x17c3 r_6 =>
nl r_6 (
bnd (f_label_told D [.agg [I x17c0, I x17c1, I x17c2, I x17c3], I (x0.len : Int)]) fun r_7 =>
asB r_7 fun x21 =>
cond (!x21) (
ret (.ret [.str (ByteArray.mk #[]), I 1])) (
jn (
cond (x17c0 == 3) (
ret (.norm [.bool true])) (
ret (.norm [.bool (x17c0 == 20)]))) fun vs_3 =>
uB vs_3 fun x30 r_8 =>
nl r_8 (
cond x30 (
gd (decide (0 ≤ x17c1)) (gd (decide (x17c1 < (49 : Int))) (
gd (decide (0 + x17c1.toNat * 1 < y4.length)) (
ret (.norm [.agg (List.set y4 (0 + x17c1.toNat * 1) (.bool true))]))))) (
ret (.norm [.agg y4])))))) fun vs_2 =>
uA vs_2 fun y4_1 r_9 =>
nl r_9 (
ret (.norm [I (wr (x14 + 1)), .agg y4_1]))) (
ret (.exit 0 [.agg y4])))) [I 0, .agg (List.replicate 49 (HV.bool false))]) fun vs =>
uA vs fun y4_2 r_10 =>
nl r_10 (
nwT (62, some 2) [.ptr none, .sl (⟨none, 0, 0, none⟩)] fun b7 =>
blk 2 (
loopD (fun vs_5 =>
uI .i64 vs_5 fun x38 r_11 =>
nl r_11 (
cond (decide (x38 < (wr ((x0.len : Int) + 1)))) (
blk 3 (
gd (decide (0 ≤ x38)) (gd (decide (x38 < (49 : Int))) (
gx y4_2 (0 + x38.toNat * 1) fun v => asB v fun x43 =>
jn (
cond x43 (
bnd (f_label_goal D [I x38]) fun r_12 =>
asS r_12 fun x45 =>
gd (decide ((ByteArray.mk #[58]).size + x45.size ≤ 9223372036854775807)) (
gd (decide (((ByteArray.mk #[58]) ++ x45).size + (ByteArray.mk #[10]).size ≤ 9223372036854775807)) (
bnd (f_strings_Builder_WriteString D [.ptr (some (b7, 0)), .str (((ByteArray.mk #[58]) ++ x45) ++ (ByteArray.mk #[10]))]) fun r_13 =>
asT r_13 fun x48l => uI .i64 x48l fun x48t0 r_14 =>
uF r_14 fun x48t1 r_15 =>
nl r_15 (
ret (.norm []))))) (
ret (.norm []))) fun vs_7 =>
nl vs_7 (
cond (decide (x38 < (x0.len : Int))) (
ix x0 x38 4 fun x55b x55o =>
ldN x55b x55o 4 fun x56l =>
uI .i64 x56l fun x56c0 r_16 =>
uI .i64 r_16 fun x56c1 r_17 =>
uI .i64 r_17 fun x56c2 r_18 =>
uI .i64 r_18 fun x56c3 r_19 =>
nl r_19 (
bnd (f_label_tell D [.agg [I x56c0, I x56c1, I x56c2, I x56c3]]) fun r_20 =>
asS r_20 fun x57 =>
gd (decide (x57.size + (ByteArray.mk #[10]).size ≤ 9223372036854775807)) (
bnd (f_strings_Builder_WriteString D [.ptr (some (b7, 0)), .str (x57 ++ (ByteArray.mk #[10]))]) fun r_21 =>
asT r_21 fun x59l => uI .i64 x59l fun x59t0 r_22 =>
uF r_22 fun x59t1 r_23 =>
nl r_23 (
ret (.norm []))))) (
ret (.norm [])))))) fun vs_6 =>
nl vs_6 (
ret (.norm [I (wr (x38 + 1))]))) (
ret (.exit 2 [])))) [I 0]) fun vs_4 =>
nl vs_4 (
bnd (f_strings_Builder_String D [.ptr (some (b7, 0))]) fun r_24 =>
asS r_24 fun x61 =>
ret (.ret [.str x61, I 0]))))))

/-- countermand/label.lines$1 -/
noncomputable def f_label_lines_1 (D : HV → List HV → M HV) (args : List HV) : M HV :=
fin (
uc args fun x0 r =>
uP r fun x1 r_1 =>
nl r_1 (
mP x1 fun x5b x5o =>
ldC x5b x5o fun v => asS v fun x5 =>
bnd (f_strings_Split D [.str x5, .str (ByteArray.mk #[10])]) fun r_2 =>
asSl r_2 fun x6 =>
blk 0 (
loopD (fun vs_1 =>
uI .i64 vs_1 fun x8 r_3 =>
nl r_3 (
cond (decide (x8 < (x6.len : Int))) (
ix x6 x8 1 fun x11b x11o =>
ldC x11b x11o fun v_1 => asS v_1 fun x12 =>
jn (
cond (!(x12.toList == (ByteArray.mk #[]).toList)) (
bnd (D x0 [I (wr (x8 + 1)), .str x12]) fun r_4 =>
asB r_4 fun x20 =>
ret (.norm [.bool (!x20)])) (
ret (.norm [.bool false]))) fun vs_2 =>
uB vs_2 fun x22 r_5 =>
nl r_5 (
cond x22 (
ret (.ret [])) (
ret (.norm [I (wr (x8 + 1))])))) (
ret (.exit 0 [])))) [I 0]) fun vs =>
nl vs (
ret (.ret []))))

/-- countermand/label.lines -/
noncomputable def f_label_lines (D : HV → List HV → M HV) (args : List HV) : M HV :=
fin (
uS args fun x0 r =>
nl r (
nw [.str x0] fun b1 =>
ret (.ret [.func n_label_lines_1 [] [.ptr (some (b1, 0))]])))

/-- internal/stringslite.CutPrefix -/
noncomputable def f_internal_stringslite_CutPrefix (D : HV → List HV → M HV) (args : List HV) : M HV :=
fin (
uS args fun x0 r =>
uS r fun x1 r_1 =>
nl r_1 (
bnd (f_internal_stringslite_HasPrefix D [.str x0, .str x1]) fun r_2 =>
asB r_2 fun x8 =>
cond (!x8) (
ret (.ret [.str x0, .bool false])) (
gd (decide (0 ≤ (x1.size : Int))) (gd (decide ((x1.size : Int) ≤ (x0.size : Int))) (gd (decide ((x0.size : Int) ≤ (x0.size : Int))) (
ret (.ret [.str (x0.extract (x1.size : Int).toNat (x0.size : Int).toNat), .bool true])))))))

/-- strings.CutPrefix -/
noncomputable def f_strings_CutPrefix (D : HV → List HV → M HV) (args : List HV) : M HV :=
fin (
uS args fun x0 r =>
uS r fun x1 r_1 =>
nl r_1 (
bnd (f_internal_stringslite_CutPrefix D [.str x0, .str x1]) fun r_2 =>
asT r_2 fun x8l => uS x8l fun x8t0 r_3 =>
uB r_3 fun x8t1 r_4 =>
nl r_4 (
ret (.ret [.str x8t0, .bool x8t1]))))

/-- countermand/label.name -/
noncomputable def f_label_name (D : HV → List HV → M HV) (args : List HV) : M HV :=
fin (
uS args fun x0 r =>
nl r (
jn (
cond ((x0.size : Int) == 0) (
ret (.norm [.bool true])) (
ret (.norm [.bool (decide ((x0.size : Int) > 8))]))) fun vs =>
uB vs fun x13 r_1 =>
nl r_1 (
cond x13 (
ret (.ret [.bool false])) (
blk 0 (
loopD (fun vs_2 =>
uI .i64 vs_2 fun x16 r_2 =>
nl r_2 (
cond (decide (x16 < (x0.size : Int))) (
jn (
gd (decide (0 ≤ x16)) (gd (decide (x16 < (x0.size : Int))) (
cond (decide (((x0.data[x16.toNat]?.getD 0).toNat : Int) ≥ 97)) (
gd (decide (0 ≤ x16)) (gd (decide (x16 < (x0.size : Int))) (
ret (.norm [.bool (decide (((x0.data[x16.toNat]?.getD 0).toNat : Int) ≤ 122))])))) (
ret (.norm [.bool false]))))) fun vs_3 =>
uB vs_3 fun x4 r_3 =>
nl r_3 (
jn (
gd (decide (0 ≤ x16)) (gd (decide (x16 < (x0.size : Int))) (
cond (decide (((x0.data[x16.toNat]?.getD 0).toNat : Int) ≥ 48)) (
gd (decide (0 ≤ x16)) (gd (decide (x16 < (x0.size : Int))) (
ret (.norm [.bool (decide (((x0.data[x16.toNat]?.getD 0).toNat : Int) ≤ 57))])))) (
ret (.norm [.bool false]))))) fun vs_4 =>
uB vs_4 fun x5 r_4 =>
nl r_4 (
jn (
cond (!x4) (
cond (x16 == 0) (
ret (.norm [.bool true])) (
ret (.norm [.bool (!x5)]))) (
ret (.norm [.bool false]))) fun vs_5 =>
uB vs_5 fun x48 r_5 =>
nl r_5 (
cond x48 (
ret (.ret [.bool false])) (
ret (.norm [I (wr (x16 + 1))])))))) (
ret (.exit 0 [])))) [I 0]) fun vs_1 =>
nl vs_1 (
ret (.ret [.bool true]))))))

/-- countermand/label.op -/
noncomputable def f_label_op (D : HV → List HV → M HV) (args : List HV) : M HV :=
fin (
uS args fun x0 r =>
nl r (
ldN 4 0 22 fun x5l =>
blk 0 (
loopD (fun vs_1 =>
uI .i64 vs_1 fun x6 r_1 =>
nl r_1 (
cond (decide (x6 < 22)) (
gd (decide (0 ≤ x6)) (gd (decide (x6 < (22 : Int))) (
gx x5l (x6.toNat * 1) fun v => asS v fun x9 =>
cond (x9.toList == x0.toList) (
ret (.ret [I x6])) (
ret (.norm [I (wr (x6 + 1))]))))) (
ret (.exit 0 [])))) [I 0]) fun vs =>
nl vs (
ret (.ret [I (-1)]))))

/-- countermand/label.number -/
noncomputable def f_label_number (D : HV → List HV → M HV) (args : List HV) : M HV :=
fin (
uS args fun x0 r =>
nl r (
bnd (f_strconv_Atoi D [.str x0]) fun r_1 =>
asT r_1 fun x8l => uI .i64 x8l fun x8t0 r_2 =>
uF r_2 fun x8t1 r_3 =>
nl r_3 (
jn (
cond (!x8t1) (
bnd (f_strconv_Itoa D [I x8t0]) fun r_4 =>
asS r_4 fun x16 =>
ret (.norm [I x8t0, .bool (x16.toList == x0.toList)])) (
ret (.norm [I x8t0, .bool false]))) fun vs =>
uI .i64 vs fun x2 r_5 =>
uB r_5 fun x3 r_6 =>
nl r_6 (
ret (.ret [I x2, .bool x3])))))

/-- countermand/label.fields -/
noncomputable def f_label_fields (D : HV → List HV → M HV) (args : List HV) : M HV :=
fin (
uI .i64 args fun x0 r =>
uL r fun x1 r_1 =>
nl r_1 (
gd (decide (0 ≤ x0)) (gd (decide (x0 < (22 : Int))) (
ldC 5 (0 + x0.toNat * 1) fun v => asS v fun x19 =>
cond ((x1.len : Int) != (x19.size : Int)) (
ret (.ret [.agg [.str (ByteArray.mk #[]), .str (ByteArray.mk #[]), I x0, I 0, I 0, I 0], .bool false])) (
blk 0 (
loopD (fun vs_1 =>
uI .i64 vs_1 fun x25 r_2 =>
uA r_2 fun y6 r_3 =>
uS y6 fun y6c0 r_4 =>
uS r_4 fun y6c1 r_5 =>
uI .i64 r_5 fun y6c2 r_6 =>
uI .i64 r_6 fun y6c3 r_7 =>
uI .i64 r_7 fun y6c4 r_8 =>
uI .i64 r_8 fun y6c5 r_9 =>
nl r_9 (
uA r_3 fun y7 r_10 =>
nl r_10 (
cond (decide (x25 < (x1.len : Int))) (
blk 1 (
ix x1 x25 1 fun x28b x28o =>
ldC x28b x28o fun v_1 => asS v_1 fun x29 =>
gd (decide (0 ≤ x0)) (gd (decide (x0 < (22 : Int))) (
ldC 5 (0 + x0.toNat * 1) fun v_2 => asS v_2 fun x32 =>
gd (decide (0 ≤ x25)) (gd (decide (x25 < (x32.size : Int))) (
cond (((x32.data[x25.toNat]?.getD 0).toNat : Int) == 103) (
bnd (f_label_name D [.str x29]) fun r_11 =>
asB r_11 fun x39 =>
cond (!x39) (
ret (.ret [.agg [.str y6c0, .str x29, I y6c2, I y6c3, I y6c4, I y6c5], .bool false])) (
ret (.exit 1 [.agg [.str y6c0, .str x29, I y6c2, I y6c3, I y6c4, I y6c5], .agg y7]))) (
bnd (f_label_number D [.str x29]) fun r_12 =>
asT r_12 fun x44l => uI .i64 x44l fun x44t0 r_13 =>
uB r_13 fun x44t1 r_14 =>
nl r_14 (
cond (!x44t1) (
ret (.ret [.agg [.str y6c0, .str y6c1, I y6c2, I y6c3, I y6c4, I y6c5], .bool false])) (
gd (decide (0 ≤ x25)) (gd (decide (x25 < (3 : Int))) (
gd (decide (0 + x25.toNat * 1 < y7.length)) (
ret (.norm [.agg [.str y6c0, .str y6c1, I y6c2, I y6c3, I y6c4, I y6c5], .agg (List.set y7 (0 + x25.toNat * 1) (I x44t0))])))))))))))) fun vs_2 =>
uA vs_2 fun y6_1 r_15 =>
uS y6_1 fun y6c0_1 r_16 =>
uS r_16 fun y6c1_1 r_17 =>
uI .i64 r_17 fun y6c2_1 r_18 =>
uI .i64 r_18 fun y6c3_1 r_19 =>
uI .i64 r_19 fun y6c4_1 r_20 =>
uI .i64 r_20 fun y6c5_1 r_21 =>
nl r_21 (
uA r_15 fun y7_1 r_22 =>
nl r_22 (
ret (.norm [I (wr (x25 + 1)), .agg [.str y6c0_1, .str y6c1_1, I y6c2_1, I y6c3_1, I y6c4_1, I y6c5_1], .agg y7_1])))) (
ret (.exit 0 [.agg [.str y6c0, .str y6c1, I y6c2, I y6c3, I y6c4, I y6c5], .agg y7]))))) [I 0, .agg [.str (ByteArray.mk #[]), .str (ByteArray.mk #[]), I x0, I 0, I 0, I 0], .agg [I 0, I 0, I 0]]) fun vs =>
uA vs fun y6_2 r_23 =>
uS y6_2 fun y6c0_2 r_24 =>
uS r_24 fun y6c1_2 r_25 =>
uI .i64 r_25 fun y6c2_2 r_26 =>
uI .i64 r_26 fun y6c3_2 r_27 =>
uI .i64 r_27 fun y6c4_2 r_28 =>
uI .i64 r_28 fun y6c5_2 r_29 =>
nl r_29 (
uA r_23 fun y7_2 r_30 =>
nl r_30 (
gx y7_2 0 fun v_3 => asI .i64 v_3 fun x55 =>
gx y7_2 1 fun v_4 => asI .i64 v_4 fun x57 =>
gx y7_2 2 fun v_5 => asI .i64 v_5 fun x59 =>
ret (.ret [.agg [.str y6c0_2, .str y6c1_2, I y6c2_2, I x55, I x57, I x59], .bool true]))))))))

/-- countermand/label.parse -/
noncomputable def f_label_parse (D : HV → List HV → M HV) (args : List HV) : M HV :=
fin (
uS args fun x0 r =>
nl r (
bnd (f_strings_CutPrefix D [.str x0, .str (ByteArray.mk #[58])]) fun r_1 =>
asT r_1 fun x10l => uS x10l fun x10t0 r_2 =>
uB r_2 fun x10t1 r_3 =>
nl r_3 (
cond x10t1 (
bnd (f_label_name D [.str x10t0]) fun r_4 =>
asB r_4 fun x17 =>
ret (.ret [.agg [.str x10t0, .str (ByteArray.mk #[]), I 0, I 0, I 0, I 0], .bool x17])) (
bnd (f_strings_Split D [.str x0, .str (ByteArray.mk #[32])]) fun r_5 =>
asSl r_5 fun x19 =>
ix x19 0 1 fun x21b x21o =>
ldC x21b x21o fun v => asS v fun x22 =>
bnd (f_label_op D [.str x22]) fun r_6 =>
asI .i64 r_6 fun x23 =>
cond (decide (x23 < 0)) (
ret (.ret [.agg [.str (ByteArray.mk #[]), .str (ByteArray.mk #[]), I 0, I 0, I 0, I 0], .bool false])) (
gd (decide (0 ≤ 1)) (gd (decide (1 ≤ (x19.len : Int))) (gd (decide ((x19.len : Int) ≤ (x19.cap : Int))) (gd (decide ((x19.cap : Int) ≤ (x19.cap : Int))) (gd (slOk x19.opn 1) (
bnd (f_label_fields D [I x23, .sl (⟨bif decide ((x19.cap : Int) = 1) then x19.p else x19.p.map (fun q => (q.1, q.2 + (1 : Int).toNat * 1)), ((x19.len : Int) - 1 : Int).toNat, ((x19.cap : Int) - 1 : Int).toNat, slOp x19.opn (decide (1 < (x19.cap : Int)))⟩)]) fun r_7 =>
asT r_7 fun x30l => uA x30l fun x30t0l r_8 =>
uS x30t0l fun x30t0c0 r_9 =>
uS r_9 fun x30t0c1 r_10 =>
uI .i64 r_10 fun x30t0c2 r_11 =>
uI .i64 r_11 fun x30t0c3 r_12 =>
uI .i64 r_12 fun x30t0c4 r_13 =>
uI .i64 r_13 fun x30t0c5 r_14 =>
nl r_14 (
uB r_8 fun x30t1 r_15 =>
nl r_15 (
ret (.ret [.agg [.str x30t0c0, .str x30t0c1, I x30t0c2, I x30t0c3, I x30t0c4, I x30t0c5], .bool x30t1])))))))))))))

/-- (*countermand/label.sheet).take -/
noncomputable def f_label_sheet_take (D : HV → List HV → M HV) (args : List HV) : M HV :=
fin (
uP args fun x0 r =>
uI .i64 r fun x1 r_1 =>
uS r_1 fun x2 r_2 =>
nl r_2 (
bnd (f_label_parse D [.str x2]) fun r_3 =>
asT r_3 fun x13l => uA x13l fun x13t0l r_4 =>
uS x13t0l fun x13t0c0 r_5 =>
uS r_5 fun x13t0c1 r_6 =>
uI .i64 r_6 fun x13t0c2 r_7 =>
uI .i64 r_7 fun x13t0c3 r_8 =>
uI .i64 r_8 fun x13t0c4 r_9 =>
uI .i64 r_9 fun x13t0c5 r_10 =>
nl r_10 (
uB r_4 fun x13t1 r_11 =>
nl r_11 (
blk 0 (
cond (!x13t1) (
ret (.ret [.bool false])) (
cond (!(x13t0c0.toList == (ByteArray.mk #[]).toList)) (
mP x0 fun x25b x25o =>
ldC x25b (x25o + 2) fun v => asM v fun x27 =>
mpP x27 fun x30b =>
lkM x30b x13t0c0 fun r_12 =>
asI .i64 (r_12.getD (I 0)) fun x30 =>
cond r_12.isSome (
ret (.ret [.bool false])) (
mP x0 fun x35b x35o =>
ldC x35b (x35o + 2) fun v_1 => asM v_1 fun x37 =>
mP x0 fun x41b x41o =>
ldC x41b x41o fun v_2 => asSl v_2 fun x43 =>
mpP x37 fun xNoneb =>
puM xNoneb x13t0c0 (I (x43.len : Int)) (
mP x0 fun x47b x47o =>
ldC x47b (x47o + 1) fun v_3 => asSl v_3 fun x49 =>
mP x0 fun x54b x54o =>
ldC x54b x54o fun v_4 => asSl v_4 fun x56 =>
apd x49 3 32 1 [.str x13t0c0, I x1, I (x56.len : Int)] fun x60 =>
mP x0 fun x61b x61o =>
stC x61b (x61o + 1) (.sl x60) (
ret (.ret [.bool true]))))) (
mP x0 fun x65b x65o =>
ldC x65b x65o fun v_5 => asSl v_5 fun x67 =>
cond (decide ((x67.len : Int) ≥ 48)) (
ret (.ret [.bool false])) (
cond (!(x13t0c1.toList == (ByteArray.mk #[]).toList)) (
mP x0 fun x76b x76o =>
ldC x76b (x76o + 3) fun v_6 => asSl v_6 fun x78 =>
mP x0 fun x83b x83o =>
ldC x83b x83o fun v_7 => asSl v_7 fun x85 =>
apd x78 3 32 1 [.str x13t0c1, I x1, I (x85.len : Int)] fun x89 =>
mP x0 fun x90b x90o =>
stC x90b (x90o + 3) (.sl x89) (
ret (.norm []))) (
ret (.norm [])))))) fun vs =>
nl vs (
mP x0 fun x94b x94o =>
ldC x94b x94o fun v_8 => asSl v_8 fun x96 =>
apd x96 4 32 1 [I x13t0c2, I x13t0c3, I x13t0c4, I x13t0c5] fun x100 =>
mP x0 fun x101b x101o =>
stC x101b x101o (.sl x100) (
ret (.ret [.bool true])))))))

/-- countermand/label.read -/
noncomputable def f_label_read (D : HV → List HV → M HV) (args : List HV) : M HV :=
fin (
uS args fun x0 r =>
nl r (
nw [.ptr none] fun b2 =>
nw [I 0] fun b3 =>
nw [I 0] fun b4 =>
cond (decide ((x0.size : Int) > 4096)) (
stC b2 0 (.ptr none) (
stC b3 0 (I 0) (
stC b4 0 (I 3) (
ldC b2 0 fun v => asP v fun z0 =>
ldC b3 0 fun v_1 => asI .i64 v_1 fun z1 =>
ldC b4 0 fun v_2 => asI .i64 v_2 fun z2 =>
ret (.ret [.ptr z0, I z1, I z2]))))) (
nwS (.map []) fun b15 =>
nw [.sl (⟨none, 0, 0, none⟩), .sl (⟨none, 0, 0, none⟩), .mp (some b15), .sl (⟨none, 0, 0, none⟩)] fun b17 =>
nw [.ptr none] fun b5 =>
stC b5 0 (.ptr (some (b17, 0))) (
bnd (f_label_lines D [.str x0]) fun r_1 =>
blk 0 (
ny r_1 (nwL 96110293 [(2, .ptr (some (b2, 0))), (3, .ptr (some (b3, 0))), (4, .ptr (some (b4, 0))), (5, .ptr (some (b5, 0)))] fun l =>
bnd (D r_1 [.yld l]) fun q =>
endL l (
ret (.norm []))
(onX 0 (ret (.exit 0 [])) noX) (
ldC b2 0 fun v_3 => asP v_3 fun z0_1 =>
ldC b3 0 fun v_4 => asI .i64 v_4 fun z1_1 =>
ldC b4 0 fun v_5 => asI .i64 v_5 fun z2_1 =>
ret (.ret [.ptr z0_1, I z1_1, I z2_1])))) fun vs =>
nl vs (
ldC b5 0 fun v_6 => asP v_6 fun x28 =>
mP x28 fun x29b x29o =>
ldC x29b (x29o + 3) fun v_7 => asSl v_7 fun x31 =>
blk 2 (
loopD (fun vs_2 =>
uI .i64 vs_2 fun x33 r_2 =>
nl r_2 (
cond (decide (x33 < (x31.len : Int))) (
ix x31 x33 3 fun x35b x35o =>
ldN x35b x35o 3 fun x36l =>
uS x36l fun x36c0 r_3 =>
uI .i64 r_3 fun x36c1 r_4 =>
uI .i64 r_4 fun x36c2 r_5 =>
nl r_5 (
ldC b5 0 fun v_8 => asP v_8 fun x38 =>
mP x38 fun x39b x39o =>
ldC x39b (x39o + 2) fun v_9 => asM v_9 fun x41 =>
mpP x41 fun x44b =>
lkM x44b x36c0 fun r_6 =>
asI .i64 (r_6.getD (I 0)) fun x44 =>
cond (!r_6.isSome) (
stC b2 0 (.ptr none) (
stC b3 0 (I x36c1) (
stC b4 0 (I 5) (
ldC b2 0 fun v_10 => asP v_10 fun z0_2 =>
ldC b3 0 fun v_11 => asI .i64 v_11 fun z1_2 =>
ldC b4 0 fun v_12 => asI .i64 v_12 fun z2_2 =>
ret (.ret [.ptr z0_2, I z1_2, I z2_2]))))) (
ldC b5 0 fun v_13 => asP v_13 fun x51 =>
mP x51 fun x52b x52o =>
ldC x52b x52o fun v_14 => asSl v_14 fun x54 =>
ix x54 x36c2 4 fun x58b x58o =>
stC x58b (x58o + 1) (I x44) (
ret (.norm [I (wr (x33 + 1))]))))) (
ret (.exit 2 [])))) [I 0]) fun vs_1 =>
nl vs_1 (
ldC b5 0 fun v_15 => asP v_15 fun x61 =>
stC b2 0 (.ptr x61) (
stC b3 0 (I 0) (
stC b4 0 (I 0) (
ldC b2 0 fun v_16 => asP v_16 fun z0_3 =>
ldC b3 0 fun v_17 => asI .i64 v_17 fun z1_3 =>
ldC b4 0 fun v_18 => asI .i64 v_18 fun z2_3 =>
ret (.ret [.ptr z0_3, I z1_3, I z2_3]))))))))))

/-- a round of countermand/label.read -/
noncomputable def r0_label_read (D : HV → List HV → M HV) (l : Nat) (vs : List (Nat × HV)) (args : List HV) : M Leaf :=
gdS [2, 3, 4, 5] vs fun vs' =>
uP vs' fun x2 r =>
uP r fun x3 r_1 =>
uP r_1 fun x4 r_2 =>
uP r_2 fun x5 r_3 =>
nl r_3 (
uI .i64 args fun x20 r_4 =>
uS r_4 fun x21 r_5 =>
nl r_5 (
busyL l (
mP x5 fun x22b x22o =>
ldC x22b x22o fun v => asP v fun x22 =>
bnd (f_label_sheet_take D [.ptr x22, I x20, .str x21]) fun r_6 =>
asB r_6 fun x25 =>
cond (!x25) (
mP x2 fun qb qo =>
stC qb qo (.ptr none) (
mP x3 fun qb_1 qo_1 =>
stC qb_1 qo_1 (I x20) (
mP x4 fun qb_2 qo_2 =>
stC qb_2 qo_2 (I 60) (
ret (.ret []))))) (
ret (.norm [])))))

/-- countermand/label.Read -/
noncomputable def f_label_Read (D : HV → List HV → M HV) (args : List HV) : M HV :=
fin (
uS args fun x0 r =>
nl r (
bnd (f_label_read D [.str x0]) fun r_1 =>
asT r_1 fun x10l => uP x10l fun x10t0 r_2 =>
uI .i64 r_2 fun x10t1 r_3 =>
uI .i64 r_3 fun x10t2 r_4 =>
nl r_4 (
cond (x10t2 != 0) (
ret (.ret [.sl (⟨none, 0, 0, none⟩), I x10t1, I x10t2])) (
mP x10t0 fun x19b x19o =>
ldC x19b x19o fun v => asSl v fun x21 =>
ret (.ret [.sl x21, I 0, I 0])))))

/-- countermand/countermandlaw26.alive -/
noncomputable def f_law26_alive (D : HV → List HV → M HV) (args : List HV) : M HV :=
fin (
nl args (
nw [I 4, I 0, I 0, I 0, I 3, I 3, I 1, I 2, I 19, I 0, I 0, I 0, I 5, I 0, I 0, I 0] fun b11 =>
bnd (f_label_Write D [.sl (⟨some (b11, 0), 4, 4, none⟩)]) fun r =>
asT r fun x12l => uS x12l fun x12t0 r_1 =>
uI .i64 r_1 fun x12t1 r_2 =>
nl r_2 (
bnd (f_label_Read D [.str (ByteArray.mk #[101, 108, 115, 101, 32, 120, 10, 58, 120, 10, 104, 97, 108, 116])]) fun r_3 =>
asT r_3 fun x16l => uL x16l fun x16t0 r_4 =>
uI .i64 r_4 fun x16t1 r_5 =>
uI .i64 r_5 fun x16t2 r_6 =>
nl r_6 (
jn (
cond (x12t1 == 0) (
cond (x12t0.toList == (ByteArray.mk #[98, 101, 103, 105, 110, 10, 106, 117, 109, 112, 32, 112, 51, 32, 49, 32, 50, 10, 114, 101, 116, 114, 121, 10, 58, 112, 51, 10, 101, 110, 100, 10]).toList) (
cond (x16t2 == 0) (
cond (x16t1 == 0) (
cond ((x16t0.len : Int) == 2) (
ix x16t0 0 4 fun x41b x41o =>
ldC x41b (x41o + 1) fun v => asI .i64 v fun x43 =>
ret (.norm [.bool (x43 == 1)])) (
ret (.norm [.bool false]))) (
ret (.norm [.bool false]))) (
ret (.norm [.bool false]))) (
ret (.norm [.bool false]))) (
ret (.norm [.bool false]))) fun vs =>
uB vs fun x0 r_7 =>
nl r_7 (
ret (.ret [.bool x0]))))))

/-- countermand/countermandref26.Behind -/
noncomputable def f_ref26_Behind (D : HV → List HV → M HV) (args : List HV) : M HV :=
fin (
uI .i64 args fun x0 r =>
nl r (
jn (
cond (x0 == 1) (
ret (.norm [.bool (x0 == 1)])) (
cond (x0 == 2) (
ret (.norm [.bool (x0 == 2)])) (
cond (x0 == 6) (
ret (.norm [.bool (x0 == 6)])) (
cond (x0 == 7) (
ret (.norm [.bool (x0 == 7)])) (
cond (x0 == 12) (
ret (.norm [.bool (x0 == 12)])) (
cond (x0 == 13) (
ret (.norm [.bool (x0 == 13)])) (
cond (x0 == 14) (
ret (.norm [.bool (x0 == 14)])) (
cond (x0 == 15) (
ret (.norm [.bool (x0 == 15)])) (
cond (x0 == 16) (
ret (.norm [.bool (x0 == 16)])) (
ret (.norm [.bool (x0 == 18)]))))))))))) fun vs =>
uB vs fun x4 r_1 =>
nl r_1 (
cond x4 (
ret (.ret [.str (ByteArray.mk #[110, 110])])) (
cond (x0 == 3) (
ret (.ret [.str (ByteArray.mk #[103, 110, 110])])) (
jn (
cond (x0 == 8) (
ret (.norm [.bool (x0 == 8)])) (
ret (.norm [.bool (x0 == 9)]))) fun vs_1 =>
uB vs_1 fun x17 r_2 =>
nl r_2 (
cond x17 (
ret (.ret [.str (ByteArray.mk #[110, 110, 110])])) (
jn (
cond (x0 == 10) (
ret (.norm [.bool (x0 == 10)])) (
cond (x0 == 11) (
ret (.norm [.bool (x0 == 11)])) (
ret (.norm [.bool (x0 == 17)])))) fun vs_2 =>
uB vs_2 fun x20 r_3 =>
nl r_3 (
cond x20 (
ret (.ret [.str (ByteArray.mk #[110])])) (
cond (x0 == 20) (
ret (.ret [.str (ByteArray.mk #[103])])) (
ret (.ret [.str (ByteArray.mk #[])])))))))))))

/-- countermand/countermandref26.Named -/
noncomputable def f_ref26_Named (D : HV → List HV → M HV) (args : List HV) : M HV :=
fin (
uL args fun x0 r =>
uI .i64 r fun x1 r_1 =>
nl r_1 (
blk 0 (
loopD (fun vs_1 =>
uI .i64 vs_1 fun x9 r_2 =>
nl r_2 (
cond (decide (x9 < (x0.len : Int))) (
ix x0 x9 4 fun x11b x11o =>
ldN x11b x11o 4 fun x12l =>
uI .i64 x12l fun x12c0 r_3 =>
uI .i64 r_3 fun x12c1 r_4 =>
uI .i64 r_4 fun x12c2 r_5 =>
uI .i64 r_5 fun x12c3 r_6 =>
nl r_6 (
jn (
cond (x12c0 == 3) (
ret (.norm [.bool (x12c1 == x1)])) (
cond (x12c0 == 20) (
ret (.norm [.bool (x12c1 == x1)])) (
ret (.norm [.bool false])))) fun vs_2 =>
uB vs_2 fun x26 r_7 =>
nl r_7 (
cond x26 (
ret (.ret [.bool true])) (
ret (.norm [I (wr (x9 + 1))]))))) (
ret (.exit 0 [])))) [I 0]) fun vs =>
nl vs (
ret (.ret [.bool false]))))

/-- countermand/countermandref25.Pieces -/
noncomputable def f_ref25_Pieces (D : HV → List HV → M HV) (args : List HV) : M HV :=
fin (
uS args fun x0 r =>
uI .u8 r fun x1 r_1 =>
nl r_1 (
blk 0 (
loopD (fun vs_1 =>
uL vs_1 fun x5 r_2 =>
uI .i64 r_2 fun x6 r_3 =>
uI .i64 r_3 fun x7 r_4 =>
nl r_4 (
cond (decide (x7 ≤ (x0.size : Int))) (
blk 1 (
jn (
cond (x7 == (x0.size : Int)) (
ret (.norm [.bool true])) (
gd (decide (0 ≤ x7)) (gd (decide (x7 < (x0.size : Int))) (
ret (.norm [.bool (((x0.data[x7.toNat]?.getD 0).toNat : Int) == x1)]))))) fun vs_3 =>
uB vs_3 fun x24 r_5 =>
nl r_5 (
cond x24 (
gd (decide (0 ≤ x6)) (gd (decide (x6 ≤ x7)) (gd (decide (x7 ≤ (x0.size : Int))) (
apd x5 1 16 1 [.str (x0.extract x6.toNat x7.toNat)] fun x31 =>
ret (.norm [.sl x31, I (wr (x7 + 1))]))))) (
ret (.norm [.sl x5, I x6])))) fun vs_2 =>
uL vs_2 fun x5_1 r_6 =>
uI .i64 r_6 fun x6_1 r_7 =>
nl r_7 (
ret (.norm [.sl x5_1, I x6_1, I (wr (x7 + 1))]))) (
ret (.exit 0 [.sl x5])))) [.sl (⟨none, 0, 0, none⟩), I 0, I 0]) fun vs =>
uL vs fun x5_2 r_8 =>
nl r_8 (
ret (.ret [.sl x5_2]))))

/-- countermand/countermandref26.Told -/
noncomputable def f_ref26_Told (D : HV → List HV → M HV) (args : List HV) : M HV :=
fin (
uA args fun x0l r =>
uI .i64 x0l fun x0c0 r_1 =>
uI .i64 r_1 fun x0c1 r_2 =>
uI .i64 r_2 fun x0c2 r_3 =>
uI .i64 r_3 fun x0c3 r_4 =>
nl r_4 (
uS r fun x1 r_5 =>
nl r_5 (
bnd (f_ref25_Pieces D [.str (ByteArray.mk #[104, 97, 108, 116, 32, 99, 111, 110, 115, 116, 32, 97, 100, 100, 32, 106, 117, 109, 112, 32, 98, 101, 103, 105, 110, 32, 101, 110, 100, 32, 108, 111, 97, 100, 32, 115, 116, 111, 114, 101, 32, 114, 101, 97, 100, 32, 119, 114, 105, 116, 101, 32, 99, 114, 101, 97, 116, 101, 32, 114, 101, 109, 111, 118, 101, 32, 114, 101, 110, 97, 109, 101, 32, 99, 117, 116, 32, 114, 101, 99, 118, 32, 115, 101, 110, 100, 32, 99, 111, 109, 109, 105, 116, 32, 97, 98, 111, 114, 116, 32, 111, 112, 101, 110, 32, 114, 101, 116, 114, 121, 32, 101, 108, 115, 101, 32, 105, 110, 101, 118]), .int .u8 32]) fun r_6 =>
asSl r_6 fun x8 =>
ix x8 x0c0 1 fun x11b x11o =>
ldC x11b x11o fun v => asS v fun x12 =>
blk 0 (
loopD (fun vs_1 =>
uS vs_1 fun x5 r_7 =>
uI .i64 r_7 fun x7 r_8 =>
nl r_8 (
bnd (f_ref26_Behind D [I x0c0]) fun r_9 =>
asS r_9 fun x23 =>
cond (decide (x7 < (x23.size : Int))) (
gd (decide (x5.size + (ByteArray.mk #[32]).size ≤ 9223372036854775807)) (
bnd (f_ref26_Behind D [I x0c0]) fun r_10 =>
asS r_10 fun x32 =>
gd (decide (0 ≤ x7)) (gd (decide (x7 < (x32.size : Int))) (
jn (
cond (((x32.data[x7.toNat]?.getD 0).toNat : Int) == 103) (
gd (decide ((x5 ++ (ByteArray.mk #[32])).size + x1.size ≤ 9223372036854775807)) (
ret (.norm [.str ((x5 ++ (ByteArray.mk #[32])) ++ x1)]))) (
ret (.norm [.str (x5 ++ (ByteArray.mk #[32]))]))) fun vs_2 =>
uS vs_2 fun x5_1 r_11 =>
nl r_11 (
gd (decide (0 ≤ x7)) (gd (decide (x7 < (3 : Int))) (
gx [I x0c1, I x0c2, I x0c3] (0 + x7.toNat * 1) fun v_1 => asI .i64 v_1 fun x42 =>
bnd (f_strconv_Itoa D [I x42]) fun r_12 =>
asS r_12 fun x43 =>
gd (decide (x5_1.size + x43.size ≤ 9223372036854775807)) (
ret (.norm [.str (x5_1 ++ x43), I (wr (x7 + 1))]))))))))) (
ret (.exit 0 [.str x5])))) [.str x12, I 0]) fun vs =>
uS vs fun x5_2 r_13 =>
nl r_13 (
ret (.ret [.str x5_2])))))

/-- countermand/countermandref26.Write -/
noncomputable def f_ref26_Write (D : HV → List HV → M HV) (args : List HV) : M HV :=
fin (
uL args fun x0 r =>
uS r fun x1 r_1 =>
nl r_1 (
cond (decide ((x0.len : Int) > 48)) (
ret (.ret [.str (ByteArray.mk #[]), I 3])) (
blk 0 (
loopD (fun vs_1 =>
uI .i64 vs_1 fun x16 r_2 =>
nl r_2 (
cond (decide (x16 < (x0.len : Int))) (
ix x0 x16 4 fun x18b x18o =>
ldN x18b x18o 4 fun x19l =>
uI .i64 x19l fun x19c0 r_3 =>
uI .i64 r_3 fun x19c1 r_4 =>
uI .i64 r_4 fun x19c2 r_5 =>
uI .i64 r_5 fun x19c3 r_6 =>
nl r_6 (
jn (
cond (decide (x19c0 < 0)) (
ret (.norm [.bool true])) (
ret (.norm [.bool (decide (x19c0 > 21))]))) fun vs_2 =>
uB vs_2 fun x27 r_7 =>
nl r_7 (
cond x27 (
ret (.ret [.str (ByteArray.mk #[]), I 1])) (
bnd (f_ref26_Behind D [I x19c0]) fun r_8 =>
asS r_8 fun x30 =>
jn (
cond (decide ((x30.size : Int) < 3)) (
cond (x19c3 != 0) (
ret (.norm [.bool true])) (
cond (decide ((x30.size : Int) < 2)) (
cond (x19c2 != 0) (
ret (.norm [.bool true])) (
cond (decide ((x30.size : Int) < 1)) (
cond (x19c1 != 0) (
ret (.norm [.bool true])) (
cond (x19c0 == 3) (
cond (decide (x19c1 < 0)) (
ret (.norm [.bool true])) (
ret (.norm [.bool (decide (x19c1 > (x0.len : Int)))]))) (
cond (x19c0 == 20) (
cond (decide (x19c1 < 0)) (
ret (.norm [.bool true])) (
ret (.norm [.bool (decide (x19c1 > (x0.len : Int)))]))) (
ret (.norm [.bool false]))))) (
cond (x19c0 == 3) (
cond (decide (x19c1 < 0)) (
ret (.norm [.bool true])) (
ret (.norm [.bool (decide (x19c1 > (x0.len : Int)))]))) (
cond (x19c0 == 20) (
cond (decide (x19c1 < 0)) (
ret (.norm [.bool true])) (
ret (.norm [.bool (decide (x19c1 > (x0.len : Int)))]))) (
ret (.norm [.bool false])))))) (
cond (decide ((x30.size : Int) < 1)) (
cond (x19c1 != 0) (
ret (.norm [.bool true])) (
cond (x19c0 == 3) (
cond (decide (x19c1 < 0)) (
ret (.norm [.bool true])) (
ret (.norm [.bool (decide (x19c1 > (x0.len : Int)))]))) (
cond (x19c0 == 20) (
cond (decide (x19c1 < 0)) (
ret (.norm [.bool true])) (
ret (.norm [.bool (decide (x19c1 > (x0.len : Int)))]))) (
ret (.norm [.bool false]))))) (
cond (x19c0 == 3) (
cond (decide (x19c1 < 0)) (
ret (.norm [.bool true])) (
ret (.norm [.bool (decide (x19c1 > (x0.len : Int)))]))) (
cond (x19c0 == 20) (
cond (decide (x19c1 < 0)) (
ret (.norm [.bool true])) (
ret (.norm [.bool (decide (x19c1 > (x0.len : Int)))]))) (
ret (.norm [.bool false]))))))) (
cond (decide ((x30.size : Int) < 2)) (
cond (x19c2 != 0) (
ret (.norm [.bool true])) (
cond (decide ((x30.size : Int) < 1)) (
cond (x19c1 != 0) (
ret (.norm [.bool true])) (
cond (x19c0 == 3) (
cond (decide (x19c1 < 0)) (
ret (.norm [.bool true])) (
ret (.norm [.bool (decide (x19c1 > (x0.len : Int)))]))) (
cond (x19c0 == 20) (
cond (decide (x19c1 < 0)) (
ret (.norm [.bool true])) (
ret (.norm [.bool (decide (x19c1 > (x0.len : Int)))]))) (
ret (.norm [.bool false]))))) (
cond (x19c0 == 3) (
cond (decide (x19c1 < 0)) (
ret (.norm [.bool true])) (
ret (.norm [.bool (decide (x19c1 > (x0.len : Int)))]))) (
cond (x19c0 == 20) (
cond (decide (x19c1 < 0)) (
ret (.norm [.bool true])) (
ret (.norm [.bool (decide (x19c1 > (x0.len : Int)))]))) (
ret (.norm [.bool false])))))) (
cond (decide ((x30.size : Int) < 1)) (
cond (x19c1 != 0) (
ret (.norm [.bool true])) (
cond (x19c0 == 3) (
cond (decide (x19c1 < 0)) (
ret (.norm [.bool true])) (
ret (.norm [.bool (decide (x19c1 > (x0.len : Int)))]))) (
cond (x19c0 == 20) (
cond (decide (x19c1 < 0)) (
ret (.norm [.bool true])) (
ret (.norm [.bool (decide (x19c1 > (x0.len : Int)))]))) (
ret (.norm [.bool false]))))) (
cond (x19c0 == 3) (
cond (decide (x19c1 < 0)) (
ret (.norm [.bool true])) (
ret (.norm [.bool (decide (x19c1 > (x0.len : Int)))]))) (
cond (x19c0 == 20) (
cond (decide (x19c1 < 0)) (
ret (.norm [.bool true])) (
ret (.norm [.bool (decide (x19c1 > (x0.len : Int)))]))) (
ret (.norm [.bool false]))))))) fun vs_3 =>
uB vs_3 fun x78 r_9 =>
nl r_9 (
cond x78 (
ret (.ret [.str (ByteArray.mk #[]), I 1])) (
ret (.norm [I (wr (x16 + 1))]))))))) (
ret (.exit 0 [])))) [I 0]) fun vs =>
nl vs (
blk 2 (
loopD (fun vs_5 =>
uS vs_5 fun x9 r_10 =>
uI .i64 r_10 fun x10 r_11 =>
nl r_11 (
cond (decide (x10 ≤ (x0.len : Int))) (
blk 3 (
bnd (f_ref26_Named D [.sl x0, I x10]) fun r_12 =>
asB r_12 fun x88 =>
jn (
cond x88 (
gd (decide (x9.size + (ByteArray.mk #[58]).size ≤ 9223372036854775807)) (
gd (decide ((x9 ++ (ByteArray.mk #[58])).size + x1.size ≤ 9223372036854775807)) (
bnd (f_strconv_Itoa D [I x10]) fun r_13 =>
asS r_13 fun x94 =>
gd (decide (((x9 ++ (ByteArray.mk #[58])) ++ x1).size + x94.size ≤ 9223372036854775807)) (
gd (decide ((((x9 ++ (ByteArray.mk #[58])) ++ x1) ++ x94).size + (ByteArray.mk #[10]).size ≤ 9223372036854775807)) (
ret (.norm [.str ((((x9 ++ (ByteArray.mk #[58])) ++ x1) ++ x94) ++ (ByteArray.mk #[10]))])))))) (
ret (.norm [.str x9]))) fun vs_7 =>
uS vs_7 fun x9_1 r_14 =>
nl r_14 (
cond (decide (x10 < (x0.len : Int))) (
ix x0 x10 4 fun x104b x104o =>
ldN x104b x104o 4 fun x105l =>
uI .i64 x105l fun x105c0 r_15 =>
uI .i64 r_15 fun x105c1 r_16 =>
uI .i64 r_16 fun x105c2 r_17 =>
uI .i64 r_17 fun x105c3 r_18 =>
nl r_18 (
bnd (f_ref26_Told D [.agg [I x105c0, I x105c1, I x105c2, I x105c3], .str x1]) fun r_19 =>
asS r_19 fun x107 =>
gd (decide (x9_1.size + x107.size ≤ 9223372036854775807)) (
gd (decide ((x9_1 ++ x107).size + (ByteArray.mk #[10]).size ≤ 9223372036854775807)) (
ret (.norm [.str ((x9_1 ++ x107) ++ (ByteArray.mk #[10]))]))))) (
ret (.norm [.str x9_1])))) fun vs_6 =>
uS vs_6 fun x9_2 r_20 =>
nl r_20 (
ret (.norm [.str x9_2, I (wr (x10 + 1))]))) (
ret (.exit 2 [.str x9])))) [.str (ByteArray.mk #[]), I 0]) fun vs_4 =>
uS vs_4 fun x9_3 r_21 =>
nl r_21 (
ret (.ret [.str x9_3, I 0]))))))

/-- countermand/countermandlaw26.LabelWrites -/
noncomputable def f_law26_LabelWrites (D : HV → List HV → M HV) (args : List HV) : M HV :=
fin (
uL args fun x0 r =>
nl r (
bnd (f_law26_alive D []) fun r_1 =>
asB r_1 fun x7 =>
cond (!x7) (
ret (.ret [.bool false])) (
bnd (f_label_Write D [.sl x0]) fun r_2 =>
asT r_2 fun x11l => uS x11l fun x11t0 r_3 =>
uI .i64 r_3 fun x11t1 r_4 =>
nl r_4 (
bnd (f_ref26_Write D [.sl x0, .str (ByteArray.mk #[112])]) fun r_5 =>
asT r_5 fun x16l => uS x16l fun x16t0 r_6 =>
uI .i64 r_6 fun x16t1 r_7 =>
nl r_7 (
jn (
cond (x11t0.toList == x16t0.toList) (
ret (.norm [.bool (x11t1 == x16t1)])) (
ret (.norm [.bool false]))) fun vs =>
uB vs fun x2 r_8 =>
nl r_8 (
ret (.ret [.bool x2])))))))

/-- countermand/countermandlaw26.same -/
noncomputable def f_law26_same (D : HV → List HV → M HV) (args : List HV) : M HV :=
fin (
uL args fun x0 r =>
uL r fun x1 r_1 =>
nl r_1 (
cond ((x0.len : Int) != (x1.len : Int)) (
ret (.ret [.bool false])) (
blk 0 (
loopD (fun vs_1 =>
uI .i64 vs_1 fun x13 r_2 =>
nl r_2 (
cond (decide (x13 < (x0.len : Int))) (
ix x0 x13 4 fun x18b x18o =>
ldN x18b x18o 4 fun x19l =>
uI .i64 x19l fun x19c0 r_3 =>
uI .i64 r_3 fun x19c1 r_4 =>
uI .i64 r_4 fun x19c2 r_5 =>
uI .i64 r_5 fun x19c3 r_6 =>
nl r_6 (
ix x1 x13 4 fun x22b x22o =>
ldN x22b x22o 4 fun x23l =>
uI .i64 x23l fun x23c0 r_7 =>
uI .i64 r_7 fun x23c1 r_8 =>
uI .i64 r_8 fun x23c2 r_9 =>
uI .i64 r_9 fun x23c3 r_10 =>
nl r_10 (
cond (!(cond (x19c0 == x23c0) (cond (x19c1 == x23c1) (cond (x19c2 == x23c2) (cond (x19c3 == x23c3) true false) false) false) false)) (
ret (.ret [.bool false])) (
ret (.norm [I (wr (x13 + 1))]))))) (
ret (.exit 0 [])))) [I 0]) fun vs =>
nl vs (
ret (.ret [.bool true])))))

/-- countermand/countermandlaw26.LabelReturns -/
noncomputable def f_law26_LabelReturns (D : HV → List HV → M HV) (args : List HV) : M HV :=
fin (
uL args fun x0 r =>
nl r (
bnd (f_law26_alive D []) fun r_1 =>
asB r_1 fun x10 =>
cond (!x10) (
ret (.ret [.bool false])) (
bnd (f_label_Write D [.sl x0]) fun r_2 =>
asT r_2 fun x14l => uS x14l fun x14t0 r_3 =>
uI .i64 r_3 fun x14t1 r_4 =>
nl r_4 (
bnd (f_ref26_Write D [.sl x0, .str (ByteArray.mk #[112])]) fun r_5 =>
asT r_5 fun x19l => uS x19l fun x19t0 r_6 =>
uI .i64 r_6 fun x19t1 r_7 =>
nl r_7 (
cond (x19t1 != 0) (
jn (
cond (x14t1 != 0) (
ret (.norm [.bool (x14t0.toList == (ByteArray.mk #[]).toList)])) (
ret (.norm [.bool false]))) fun vs =>
uB vs fun x2 r_8 =>
nl r_8 (
ret (.ret [.bool x2]))) (
bnd (f_label_Read D [.str x14t0]) fun r_9 =>
asT r_9 fun x32l => uL x32l fun x32t0 r_10 =>
uI .i64 r_10 fun x32t1 r_11 =>
uI .i64 r_11 fun x32t2 r_12 =>
nl r_12 (
jn (
cond (x14t1 == 0) (
cond (x32t2 == 0) (
cond (x32t1 == 0) (
bnd (f_law26_same D [.sl x0, .sl x32t0]) fun r_13 =>
asB r_13 fun x49 =>
ret (.norm [.bool x49])) (
ret (.norm [.bool false]))) (
ret (.norm [.bool false]))) (
ret (.norm [.bool false]))) fun vs_1 =>
uB vs_1 fun x2_1 r_14 =>
nl r_14 (
ret (.ret [.bool x2_1])))))))))

/-- countermand/countermandref26.Name -/
noncomputable def f_ref26_Name (D : HV → List HV → M HV) (args : List HV) : M HV :=
fin (
uS args fun x0 r =>
nl r (
blk 0 (
loopD (fun vs_1 =>
uI .i64 vs_1 fun x3 r_1 =>
nl r_1 (
cond (decide (x3 < (x0.size : Int))) (
blk 1 (
jn (
gd (decide (0 ≤ x3)) (gd (decide (x3 < (x0.size : Int))) (
cond (decide (((x0.data[x3.toNat]?.getD 0).toNat : Int) ≥ 97)) (
gd (decide (0 ≤ x3)) (gd (decide (x3 < (x0.size : Int))) (
cond (decide (((x0.data[x3.toNat]?.getD 0).toNat : Int) ≤ 122)) (
ret (.norm [.bool true])) (
cond (decide (x3 > 0)) (
gd (decide (0 ≤ x3)) (gd (decide (x3 < (x0.size : Int))) (
cond (decide (((x0.data[x3.toNat]?.getD 0).toNat : Int) ≥ 48)) (
gd (decide (0 ≤ x3)) (gd (decide (x3 < (x0.size : Int))) (
ret (.norm [.bool (decide (((x0.data[x3.toNat]?.getD 0).toNat : Int) ≤ 57))])))) (
ret (.norm [.bool false]))))) (
ret (.norm [.bool false])))))) (
cond (decide (x3 > 0)) (
gd (decide (0 ≤ x3)) (gd (decide (x3 < (x0.size : Int))) (
cond (decide (((x0.data[x3.toNat]?.getD 0).toNat : Int) ≥ 48)) (
gd (decide (0 ≤ x3)) (gd (decide (x3 < (x0.size : Int))) (
ret (.norm [.bool (decide (((x0.data[x3.toNat]?.getD 0).toNat : Int) ≤ 57))])))) (
ret (.norm [.bool false]))))) (
ret (.norm [.bool false])))))) fun vs_3 =>
uB vs_3 fun x35 r_2 =>
nl r_2 (
cond x35 (
ret (.exit 1 [])) (
ret (.ret [.bool false])))) fun vs_2 =>
nl vs_2 (
ret (.norm [I (wr (x3 + 1))]))) (
ret (.exit 0 [])))) [I 0]) fun vs =>
nl vs (
jn (
cond (decide ((x0.size : Int) ≥ 1)) (
ret (.norm [.bool (decide ((x0.size : Int) ≤ 8))])) (
ret (.norm [.bool false]))) fun vs_4 =>
uB vs_4 fun x2 r_3 =>
nl r_3 (
ret (.ret [.bool x2])))))

/-- countermand/countermandref25.Op -/
noncomputable def f_ref25_Op (D : HV → List HV → M HV) (args : List HV) : M HV :=
fin (
uS args fun x0 r =>
nl r (
bnd (f_ref25_Pieces D [.str (ByteArray.mk #[104, 97, 108, 116, 32, 99, 111, 110, 115, 116, 32, 97, 100, 100, 32, 106, 117, 109, 112, 32, 98, 101, 103, 105, 110, 32, 101, 110, 100, 32, 108, 111, 97, 100, 32, 115, 116, 111, 114, 101, 32, 114, 101, 97, 100, 32, 119, 114, 105, 116, 101, 32, 99, 114, 101, 97, 116, 101, 32, 114, 101, 109, 111, 118, 101, 32, 114, 101, 110, 97, 109, 101, 32, 99, 117, 116, 32, 114, 101, 99, 118, 32, 115, 101, 110, 100, 32, 99, 111, 109, 109, 105, 116, 32, 97, 98, 111, 114, 116, 32, 111, 112, 101, 110, 32, 114, 101, 116, 114, 121, 32, 101, 108, 115, 101, 32, 105, 110, 101, 118]), .int .u8 32]) fun r_1 =>
asSl r_1 fun x5 =>
blk 0 (
loopD (fun vs_1 =>
uI .i64 vs_1 fun x7 r_2 =>
nl r_2 (
cond (decide (x7 < (x5.len : Int))) (
ix x5 x7 1 fun x10b x10o =>
ldC x10b x10o fun v => asS v fun x11 =>
cond (x11.toList == x0.toList) (
ret (.ret [I x7])) (
ret (.norm [I (wr (x7 + 1))]))) (
ret (.exit 0 [])))) [I 0]) fun vs =>
nl vs (
ret (.ret [I (-1)]))))

/-- countermand/countermandref25.Num -/
noncomputable def f_ref25_Num (D : HV → List HV → M HV) (args : List HV) : M HV :=
fin (
uS args fun x0 r =>
nl r (
jn (
cond (decide ((x0.size : Int) > 0)) (
gd (decide (0 ≤ 0)) (gd (decide (0 < (x0.size : Int))) (
ret (.norm [.bool (((x0.data[(0 : Int).toNat]?.getD 0).toNat : Int) == 45)])))) (
ret (.norm [.bool false]))) fun vs =>
uB vs fun x4 r_1 =>
nl r_1 (
jn (
cond x4 (
gd (decide (0 ≤ 1)) (gd (decide (1 ≤ (x0.size : Int))) (gd (decide ((x0.size : Int) ≤ (x0.size : Int))) (
ret (.norm [.str (x0.extract (1 : Int).toNat (x0.size : Int).toNat)]))))) (
ret (.norm [.str x0]))) fun vs_1 =>
uS vs_1 fun x5 r_2 =>
nl r_2 (
jn (
cond ((x5.size : Int) == 0) (
ret (.norm [.bool true])) (
cond (decide ((x5.size : Int) > 19)) (
ret (.norm [.bool true])) (
cond (decide ((x5.size : Int) > 1)) (
gd (decide (0 ≤ 0)) (gd (decide (0 < (x5.size : Int))) (
cond (((x5.data[(0 : Int).toNat]?.getD 0).toNat : Int) == 48) (
ret (.norm [.bool true])) (
cond x4 (
ret (.norm [.bool (x5.toList == (ByteArray.mk #[48]).toList)])) (
ret (.norm [.bool false])))))) (
cond x4 (
ret (.norm [.bool (x5.toList == (ByteArray.mk #[48]).toList)])) (
ret (.norm [.bool false])))))) fun vs_2 =>
uB vs_2 fun x44 r_3 =>
nl r_3 (
cond x44 (
ret (.ret [I 0, .bool false])) (
blk 0 (
loopD (fun vs_4 =>
uI .u64 vs_4 fun x6 r_4 =>
uI .i64 r_4 fun x7 r_5 =>
nl r_5 (
cond (decide (x7 < (x5.size : Int))) (
jn (
gd (decide (0 ≤ x7)) (gd (decide (x7 < (x5.size : Int))) (
cond (decide (((x5.data[x7.toNat]?.getD 0).toNat : Int) < 48)) (
ret (.norm [.bool true])) (
gd (decide (0 ≤ x7)) (gd (decide (x7 < (x5.size : Int))) (
ret (.norm [.bool (decide (((x5.data[x7.toNat]?.getD 0).toNat : Int) > 57))]))))))) fun vs_5 =>
uB vs_5 fun x60 r_6 =>
nl r_6 (
cond x60 (
ret (.ret [I 0, .bool false])) (
gd (decide (0 ≤ x7)) (gd (decide (x7 < (x5.size : Int))) (
ret (.norm [.int .u64 (IntKind.wrap .u64 ((IntKind.wrap .u64 (10 * x6)) + (IntKind.wrap .u64 (IntKind.wrap .u8 (((x5.data[x7.toNat]?.getD 0).toNat : Int) - 48))))), I (wr (x7 + 1))])))))) (
ret (.exit 0 [.int .u64 x6])))) [.int .u64 0, I 0]) fun vs_3 =>
uI .u64 vs_3 fun x6_1 r_7 =>
nl r_7 (
cond x4 (
cond (decide (x6_1 > 9223372036854775808)) (
ret (.ret [I 0, .bool false])) (
ret (.ret [I (wr ((wr (0 - (wr (IntKind.wrap .u64 (x6_1 - 1))))) - 1)), .bool true]))) (
cond (decide (x6_1 > 9223372036854775807)) (
ret (.ret [I 0, .bool false])) (
ret (.ret [I (wr x6_1), .bool true]))))))))))

/-- countermand/countermandref26.Said -/
noncomputable def f_ref26_Said (D : HV → List HV → M HV) (args : List HV) : M HV :=
fin (
uS args fun x0 r =>
nl r (
gd (decide (0 ≤ 0)) (gd (decide (0 < (x0.size : Int))) (
cond (((x0.data[(0 : Int).toNat]?.getD 0).toNat : Int) == 58) (
gd (decide (0 ≤ 1)) (gd (decide (1 ≤ (x0.size : Int))) (gd (decide ((x0.size : Int) ≤ (x0.size : Int))) (
gd (decide (0 ≤ 1)) (gd (decide (1 ≤ (x0.size : Int))) (gd (decide ((x0.size : Int) ≤ (x0.size : Int))) (
bnd (f_ref26_Name D [.str (x0.extract (1 : Int).toNat (x0.size : Int).toNat)]) fun r_1 =>
asB r_1 fun x19 =>
ret (.ret [.agg [.str (x0.extract (1 : Int).toNat (x0.size : Int).toNat), .str (ByteArray.mk #[]), I 0, I 0, I 0, I 0], .bool x19])))))))) (
bnd (f_ref25_Pieces D [.str x0, .int .u8 32]) fun r_2 =>
asSl r_2 fun x21 =>
ix x21 0 1 fun x23b x23o =>
ldC x23b x23o fun v => asS v fun x24 =>
bnd (f_ref25_Op D [.str x24]) fun r_3 =>
asI .i64 r_3 fun x25 =>
jn (
cond (decide (x25 < 0)) (
ret (.norm [.bool true])) (
bnd (f_ref26_Behind D [I x25]) fun r_4 =>
asS r_4 fun x30 =>
ret (.norm [.bool ((x30.size : Int) != (wr ((x21.len : Int) - 1)))]))) fun vs =>
uB vs fun x36 r_5 =>
nl r_5 (
cond x36 (
ret (.ret [.agg [.str (ByteArray.mk #[]), .str (ByteArray.mk #[]), I 0, I 0, I 0, I 0], .bool false])) (
gd (decide (0 ≤ 1)) (gd (decide (1 ≤ (x21.len : Int))) (gd (decide ((x21.len : Int) ≤ (x21.cap : Int))) (gd (decide ((x21.cap : Int) ≤ (x21.cap : Int))) (gd (slOk x21.opn 1) (
blk 0 (
loopD (fun vs_2 =>
uI .i64 vs_2 fun x44 r_6 =>
uA r_6 fun y6 r_7 =>
uS y6 fun y6c0 r_8 =>
uS r_8 fun y6c1 r_9 =>
uI .i64 r_9 fun y6c2 r_10 =>
uI .i64 r_10 fun y6c3 r_11 =>
uI .i64 r_11 fun y6c4 r_12 =>
uI .i64 r_12 fun y6c5 r_13 =>
nl r_13 (
uA r_7 fun y7 r_14 =>
nl r_14 (
cond (decide (x44 < (((x21.len : Int) - 1 : Int).toNat : Int))) (
ix (⟨bif decide ((x21.cap : Int) = 1) then x21.p else x21.p.map (fun q => (q.1, q.2 + (1 : Int).toNat * 1)), ((x21.len : Int) - 1 : Int).toNat, ((x21.cap : Int) - 1 : Int).toNat, slOp x21.opn (decide (1 < (x21.cap : Int)))⟩) x44 1 fun x47b x47o =>
ldC x47b x47o fun v_1 => asS v_1 fun x48 =>
bnd (f_ref26_Behind D [I x25]) fun r_15 =>
asS r_15 fun x50 =>
gd (decide (0 ≤ x44)) (gd (decide (x44 < (x50.size : Int))) (
jn (
cond (((x50.data[x44.toNat]?.getD 0).toNat : Int) == 103) (
bnd (f_ref26_Name D [.str x48]) fun r_16 =>
asB r_16 fun x57 =>
ret (.norm [.bool x57, .agg [.str y6c0, .str x48, I y6c2, I y6c3, I y6c4, I y6c5], .agg y7])) (
bnd (f_ref25_Num D [.str x48]) fun r_17 =>
asT r_17 fun x61l => uI .i64 x61l fun x61t0 r_18 =>
uB r_18 fun x61t1 r_19 =>
nl r_19 (
gd (decide (0 ≤ x44)) (gd (decide (x44 < (3 : Int))) (
gd (decide (0 + x44.toNat * 1 < y7.length)) (
ret (.norm [.bool x61t1, .agg [.str y6c0, .str y6c1, I y6c2, I y6c3, I y6c4, I y6c5], .agg (List.set y7 (0 + x44.toNat * 1) (I x61t0))]))))))) fun vs_3 =>
uB vs_3 fun x10 r_20 =>
uA r_20 fun y6_1 r_21 =>
uS y6_1 fun y6c0_1 r_22 =>
uS r_22 fun y6c1_1 r_23 =>
uI .i64 r_23 fun y6c2_1 r_24 =>
uI .i64 r_24 fun y6c3_1 r_25 =>
uI .i64 r_25 fun y6c4_1 r_26 =>
uI .i64 r_26 fun y6c5_1 r_27 =>
nl r_27 (
uA r_21 fun y7_1 r_28 =>
nl r_28 (
cond (!x10) (
ret (.ret [.agg [.str (ByteArray.mk #[]), .str (ByteArray.mk #[]), I 0, I 0, I 0, I 0], .bool false])) (
ret (.norm [I (wr (x44 + 1)), .agg [.str y6c0_1, .str y6c1_1, I y6c2_1, I y6c3_1, I y6c4_1, I y6c5_1], .agg y7_1]))))))) (
ret (.exit 0 [.agg [.str y6c0, .str y6c1, I y6c2, I y6c3, I y6c4, I y6c5], .agg y7]))))) [I 0, .agg [.str (ByteArray.mk #[]), .str (ByteArray.mk #[]), I x25, I 0, I 0, I 0], .agg [I 0, I 0, I 0]]) fun vs_1 =>
uA vs_1 fun y6_2 r_29 =>
uS y6_2 fun y6c0_2 r_30 =>
uS r_30 fun y6c1_2 r_31 =>
uI .i64 r_31 fun y6c2_2 r_32 =>
uI .i64 r_32 fun y6c3_2 r_33 =>
uI .i64 r_33 fun y6c4_2 r_34 =>
uI .i64 r_34 fun y6c5_2 r_35 =>
nl r_35 (
uA r_29 fun y7_2 r_36 =>
nl r_36 (
gx y7_2 0 fun v_2 => asI .i64 v_2 fun x70 =>
gx y7_2 1 fun v_3 => asI .i64 v_3 fun x74 =>
gx y7_2 2 fun v_4 => asI .i64 v_4 fun x78 =>
ret (.ret [.agg [.str y6c0_2, .str y6c1_2, I y6c2_2, I x70, I x74, I x78], .bool true])))))))))))))))

/-- countermand/countermandref26.At -/
noncomputable def f_ref26_At (D : HV → List HV → M HV) (args : List HV) : M HV :=
fin (
uL args fun x0 r =>
uS r fun x1 r_1 =>
nl r_1 (
blk 0 (
loopD (fun vs_1 =>
uI .i64 vs_1 fun x9 r_2 =>
nl r_2 (
cond (decide (x9 < (x0.len : Int))) (
ix x0 x9 2 fun x11b x11o =>
ldN x11b x11o 2 fun x12l =>
uS x12l fun x12c0 r_3 =>
uI .i64 r_3 fun x12c1 r_4 =>
nl r_4 (
cond (x12c0.toList == x1.toList) (
ret (.ret [I x12c1])) (
ret (.norm [I (wr (x9 + 1))])))) (
ret (.exit 0 [])))) [I 0]) fun vs =>
nl vs (
ret (.ret [I (-1)]))))

/-- countermand/countermandref26.Read -/
noncomputable def f_ref26_Read (D : HV → List HV → M HV) (args : List HV) : M HV :=
fin (
uS args fun x0 r =>
nl r (
cond (decide ((x0.size : Int) > 4096)) (
ret (.ret [.sl (⟨none, 0, 0, none⟩), .sl (⟨none, 0, 0, none⟩), I 0, I 3])) (
bnd (f_ref25_Pieces D [.str x0, .int .u8 10]) fun r_1 =>
asSl r_1 fun x23 =>
blk 0 (
loopD (fun vs_1 =>
uL vs_1 fun x6 r_2 =>
uL r_2 fun x7 r_3 =>
uI .i64 r_3 fun x26 r_4 =>
nl r_4 (
cond (decide (x26 < (x23.len : Int))) (
blk 1 (
ix x23 x26 1 fun x29b x29o =>
ldC x29b x29o fun v => asS v fun x30 =>
cond (x30.toList == (ByteArray.mk #[]).toList) (
ret (.exit 1 [.sl x6, .sl x7])) (
bnd (f_ref26_Said D [.str x30]) fun r_5 =>
asT r_5 fun x35l => uA x35l fun x35t0l r_6 =>
uS x35t0l fun x35t0c0 r_7 =>
uS r_7 fun x35t0c1 r_8 =>
uI .i64 r_8 fun x35t0c2 r_9 =>
uI .i64 r_9 fun x35t0c3 r_10 =>
uI .i64 r_10 fun x35t0c4 r_11 =>
uI .i64 r_11 fun x35t0c5 r_12 =>
nl r_12 (
uB r_6 fun x35t1 r_13 =>
nl r_13 (
jn (
cond (!x35t1) (
ret (.norm [.bool true])) (
cond (!(x35t0c0.toList == (ByteArray.mk #[]).toList)) (
bnd (f_ref26_At D [.sl x7, .str x35t0c0]) fun r_14 =>
asI .i64 r_14 fun x48 =>
cond (decide (x48 ≥ 0)) (
ret (.norm [.bool true])) (
cond (x35t0c0.toList == (ByteArray.mk #[]).toList) (
ret (.norm [.bool ((x6.len : Int) == 48)])) (
ret (.norm [.bool false])))) (
cond (x35t0c0.toList == (ByteArray.mk #[]).toList) (
ret (.norm [.bool ((x6.len : Int) == 48)])) (
ret (.norm [.bool false]))))) fun vs_3 =>
uB vs_3 fun x61 r_15 =>
nl r_15 (
cond x61 (
ret (.ret [.sl (⟨none, 0, 0, none⟩), .sl (⟨none, 0, 0, none⟩), I (wr (x26 + 1)), I 60])) (
cond (!(x35t0c0.toList == (ByteArray.mk #[]).toList)) (
apd x7 2 24 1 [.str x35t0c0, I (x6.len : Int)] fun x74 =>
ret (.norm [.sl x6, .sl x74])) (
apd x6 4 32 1 [I x35t0c2, I x35t0c3, I x35t0c4, I x35t0c5] fun x79 =>
ret (.norm [.sl x79, .sl x7])))))))) fun vs_2 =>
uL vs_2 fun x6_1 r_16 =>
uL r_16 fun x7_1 r_17 =>
nl r_17 (
ret (.norm [.sl x6_1, .sl x7_1, I (wr (x26 + 1))]))) (
ret (.exit 0 [.sl x6, .sl x7])))) [.sl (⟨none, 0, 0, none⟩), .sl (⟨none, 0, 0, none⟩), I 0]) fun vs =>
uL vs fun x6_2 r_18 =>
uL r_18 fun x7_2 r_19 =>
nl r_19 (
blk 2 (
loopD (fun vs_5 =>
uI .i64 vs_5 fun x13 r_20 =>
uI .i64 r_20 fun x83 r_21 =>
nl r_21 (
cond (decide (x83 < (x23.len : Int))) (
blk 3 (
ix x23 x83 1 fun x86b x86o =>
ldC x86b x86o fun v_1 => asS v_1 fun x87 =>
jn (
cond (x87.toList == (ByteArray.mk #[]).toList) (
ret (.norm [.bool true])) (
gd (decide (0 ≤ 0)) (gd (decide (0 < (x87.size : Int))) (
ret (.norm [.bool (((x87.data[(0 : Int).toNat]?.getD 0).toNat : Int) == 58)]))))) fun vs_7 =>
uB vs_7 fun x94 r_22 =>
nl r_22 (
cond x94 (
ret (.exit 3 [I x13])) (
bnd (f_ref26_Said D [.str x87]) fun r_23 =>
asT r_23 fun x97l => uA x97l fun x97t0l r_24 =>
uS x97t0l fun x97t0c0 r_25 =>
uS r_25 fun x97t0c1 r_26 =>
uI .i64 r_26 fun x97t0c2 r_27 =>
uI .i64 r_27 fun x97t0c3 r_28 =>
uI .i64 r_28 fun x97t0c4 r_29 =>
uI .i64 r_29 fun x97t0c5 r_30 =>
nl r_30 (
uB r_24 fun x97t1 r_31 =>
nl r_31 (
jn (
cond (!(x97t0c1.toList == (ByteArray.mk #[]).toList)) (
bnd (f_ref26_At D [.sl x7_2, .str x97t0c1]) fun r_32 =>
asI .i64 r_32 fun x106 =>
cond (decide (x106 < 0)) (
ret (.ret [.sl (⟨none, 0, 0, none⟩), .sl (⟨none, 0, 0, none⟩), I (wr (x83 + 1)), I 5])) (
ix x6_2 x13 4 fun x114b x114o =>
stC x114b (x114o + 1) (I x106) (
ret (.norm [])))) (
ret (.norm []))) fun vs_8 =>
nl vs_8 (
ret (.norm [I (wr (x13 + 1))]))))))) fun vs_6 =>
uI .i64 vs_6 fun x13_1 r_33 =>
nl r_33 (
ret (.norm [I x13_1, I (wr (x83 + 1))]))) (
ret (.exit 2 [])))) [I 0, I 0]) fun vs_4 =>
nl vs_4 (
ret (.ret [.sl x6_2, .sl x7_2, I 0, I 0]))))))

/-- countermand/countermandlaw26.LabelAgain -/
noncomputable def f_law26_LabelAgain (D : HV → List HV → M HV) (args : List HV) : M HV :=
fin (
uS args fun x0 r =>
nl r (
bnd (f_law26_alive D []) fun r_1 =>
asB r_1 fun x17 =>
cond (!x17) (
ret (.ret [.bool false])) (
bnd (f_label_Read D [.str x0]) fun r_2 =>
asT r_2 fun x21l => uL x21l fun x21t0 r_3 =>
uI .i64 r_3 fun x21t1 r_4 =>
uI .i64 r_4 fun x21t2 r_5 =>
nl r_5 (
bnd (f_ref26_Read D [.str x0]) fun r_6 =>
asT r_6 fun x27l => uL x27l fun x27t0 r_7 =>
uL r_7 fun x27t1 r_8 =>
uI .i64 r_8 fun x27t2 r_9 =>
uI .i64 r_9 fun x27t3 r_10 =>
nl r_10 (
cond (x27t3 != 0) (
jn (
cond (x21t2 != 0) (
ret (.norm [.bool ((x21t0.len : Int) == 0)])) (
ret (.norm [.bool false]))) fun vs =>
uB vs fun x2 r_11 =>
nl r_11 (
ret (.ret [.bool x2]))) (
bnd (f_label_Write D [.sl x21t0]) fun r_12 =>
asT r_12 fun x43l => uS x43l fun x43t0 r_13 =>
uI .i64 r_13 fun x43t1 r_14 =>
nl r_14 (
bnd (f_label_Read D [.str x43t0]) fun r_15 =>
asT r_15 fun x48l => uL x48l fun x48t0 r_16 =>
uI .i64 r_16 fun x48t1 r_17 =>
uI .i64 r_17 fun x48t2 r_18 =>
nl r_18 (
bnd (f_label_Write D [.sl x48t0]) fun r_19 =>
asT r_19 fun x54l => uS x54l fun x54t0 r_20 =>
uI .i64 r_20 fun x54t1 r_21 =>
nl r_21 (
jn (
cond (x21t2 == 0) (
cond (x43t1 == 0) (
cond (x48t2 == 0) (
cond (x54t1 == 0) (
bnd (f_law26_same D [.sl x21t0, .sl x48t0]) fun r_22 =>
asB r_22 fun x74 =>
cond x74 (
ret (.norm [.bool (x43t0.toList == x54t0.toList)])) (
ret (.norm [.bool false]))) (
ret (.norm [.bool false]))) (
ret (.norm [.bool false]))) (
ret (.norm [.bool false]))) (
ret (.norm [.bool false]))) fun vs_1 =>
uB vs_1 fun x2_1 r_23 =>
nl r_23 (
ret (.ret [.bool x2_1])))))))))))

/-- countermand/countermandlaw26.LabelNames -/
noncomputable def f_law26_LabelNames (D : HV → List HV → M HV) (args : List HV) : M HV :=
fin (
uL args fun x0 r =>
uI .i64 r fun x1 r_1 =>
nl r_1 (
bnd (f_law26_alive D []) fun r_2 =>
asB r_2 fun x10 =>
cond (!x10) (
ret (.ret [.bool false])) (
bnd (f_ref26_Write D [.sl x0, .str (strB [IntKind.wrap .u8 (97 + (IntKind.wrap .u8 (Int.tmod (IntKind.wrap .u64 x1) 26)))])]) fun r_3 =>
asT r_3 fun x21l => uS x21l fun x21t0 r_4 =>
uI .i64 r_4 fun x21t1 r_5 =>
nl r_5 (
cond (x21t1 != 0) (
ret (.ret [.bool true])) (
bnd (f_label_Read D [.str x21t0]) fun r_6 =>
asT r_6 fun x28l => uL x28l fun x28t0 r_7 =>
uI .i64 r_7 fun x28t1 r_8 =>
uI .i64 r_8 fun x28t2 r_9 =>
nl r_9 (
jn (
cond (x28t2 == 0) (
cond (x28t1 == 0) (
bnd (f_law26_same D [.sl x0, .sl x28t0]) fun r_10 =>
asB r_10 fun x41 =>
ret (.norm [.bool x41])) (
ret (.norm [.bool false]))) (
ret (.norm [.bool false]))) fun vs =>
uB vs fun x4 r_11 =>
nl r_11 (
ret (.ret [.bool x4]))))))))

/-- countermand/countermandlaw26.joined -/
noncomputable def f_law26_joined (D : HV → List HV → M HV) (args : List HV) : M HV :=
fin (
uL args fun x0 r =>
nl r (
cond (decide ((x0.len : Int) > 60)) (
ret (.ret [.str (ByteArray.mk #[]), .bool false])) (
blk 0 (
loopD (fun vs_1 =>
uS vs_1 fun x4 r_1 =>
uI .i64 r_1 fun x12 r_2 =>
nl r_2 (
cond (decide (x12 < (x0.len : Int))) (
ix x0 x12 1 fun x15b x15o =>
ldC x15b x15o fun v => asS v fun x16 =>
jn (
cond (decide ((x16.size : Int) > 2048)) (
ret (.norm [.bool true])) (
cond (decide ((wr ((x4.size : Int) + (x16.size : Int))) > 2048)) (
ret (.norm [.bool true])) (
bnd (f_ref25_Pieces D [.str x16, .int .u8 10]) fun r_3 =>
asSl r_3 fun x30 =>
ret (.norm [.bool (decide ((x30.len : Int) > 1))])))) fun vs_2 =>
uB vs_2 fun x33 r_4 =>
nl r_4 (
cond x33 (
ret (.ret [.str (ByteArray.mk #[]), .bool false])) (
jn (
cond (decide (x12 > 0)) (
gd (decide (x4.size + (ByteArray.mk #[10]).size ≤ 9223372036854775807)) (
ret (.norm [.str (x4 ++ (ByteArray.mk #[10]))]))) (
ret (.norm [.str x4]))) fun vs_3 =>
uS vs_3 fun x4_1 r_5 =>
nl r_5 (
gd (decide (x4_1.size + x16.size ≤ 9223372036854775807)) (
ret (.norm [.str (x4_1 ++ x16), I (wr (x12 + 1))])))))) (
ret (.exit 0 [.str x4])))) [.str (ByteArray.mk #[]), I 0]) fun vs =>
uS vs fun x4_2 r_6 =>
nl r_6 (
ret (.ret [.str x4_2, .bool true])))))

/-- countermand/countermandlaw26.LabelFaults -/
noncomputable def f_law26_LabelFaults (D : HV → List HV → M HV) (args : List HV) : M HV :=
fin (
uL args fun x0 r =>
uI .i64 r fun x1 r_1 =>
uI .i64 r_1 fun x2 r_2 =>
nl r_2 (
bnd (f_law26_alive D []) fun r_3 =>
asB r_3 fun x20 =>
cond (!x20) (
ret (.ret [.bool false])) (
bnd (f_law26_joined D [.sl x0]) fun r_4 =>
asT r_4 fun x24l => uS x24l fun x24t0 r_5 =>
uB r_5 fun x24t1 r_6 =>
nl r_6 (
jn (
cond (!x24t1) (
ret (.norm [.bool true])) (
cond (decide (x1 < 0)) (
ret (.norm [.bool true])) (
ret (.norm [.bool (decide (x1 > (x0.len : Int)))])))) fun vs =>
uB vs fun x38 r_7 =>
nl r_7 (
cond x38 (
ret (.ret [.bool true])) (
bnd (f_ref26_Read D [.str x24t0]) fun r_8 =>
asT r_8 fun x41l => uL x41l fun x41t0 r_9 =>
uL r_9 fun x41t1 r_10 =>
uI .i64 r_10 fun x41t2 r_11 =>
uI .i64 r_11 fun x41t3 r_12 =>
nl r_12 (
cond (x41t3 != 0) (
ret (.ret [.bool true])) (
gd (decide (0 ≤ wr (Int.tmod (IntKind.wrap .u64 x2) 12))) (gd (decide (wr (Int.tmod (IntKind.wrap .u64 x2) 12) < (12 : Int))) (
gx [.str (ByteArray.mk #[58]), .str (ByteArray.mk #[58, 49, 97]), .str (ByteArray.mk #[58, 97, 97, 97, 97, 97, 97, 97, 97, 97]), .str (ByteArray.mk #[104, 97, 108, 116, 32, 48]), .str (ByteArray.mk #[106, 117, 109, 112, 32, 51, 32, 48, 32, 48]), .str (ByteArray.mk #[99, 111, 110, 115, 116, 32, 48]), .str (ByteArray.mk #[101, 108, 115, 101]), .str (ByteArray.mk #[32, 104, 97, 108, 116]), .str (ByteArray.mk #[104, 97, 108, 116, 32]), .str (ByteArray.mk #[119, 104, 97, 116]), .str (ByteArray.mk #[97, 100, 100, 32, 48, 49, 32, 48]), .str (ByteArray.mk #[97, 98, 111, 114, 116, 32, 45, 48])] (0 + (wr (Int.tmod (IntKind.wrap .u64 x2) 12)).toNat * 1) fun v => asS v fun x54 =>
blk 0 (
loopD (fun vs_2 =>
uS vs_2 fun x15 r_13 =>
uI .i64 r_13 fun x16 r_14 =>
nl r_14 (
cond (decide (x16 ≤ (x0.len : Int))) (
blk 1 (
jn (
cond (x16 == x1) (
gd (decide (x15.size + x54.size ≤ 9223372036854775807)) (
gd (decide ((x15 ++ x54).size + (ByteArray.mk #[10]).size ≤ 9223372036854775807)) (
ret (.norm [.str ((x15 ++ x54) ++ (ByteArray.mk #[10]))])))) (
ret (.norm [.str x15]))) fun vs_4 =>
uS vs_4 fun x15_1 r_15 =>
nl r_15 (
cond (decide (x16 < (x0.len : Int))) (
ix x0 x16 1 fun x75b x75o =>
ldC x75b x75o fun v_1 => asS v_1 fun x76 =>
gd (decide (x15_1.size + x76.size ≤ 9223372036854775807)) (
gd (decide ((x15_1 ++ x76).size + (ByteArray.mk #[10]).size ≤ 9223372036854775807)) (
ret (.norm [.str ((x15_1 ++ x76) ++ (ByteArray.mk #[10]))])))) (
ret (.norm [.str x15_1])))) fun vs_3 =>
uS vs_3 fun x15_2 r_16 =>
nl r_16 (
ret (.norm [.str x15_2, I (wr (x16 + 1))]))) (
ret (.exit 0 [.str x15])))) [.str (ByteArray.mk #[]), I 0]) fun vs_1 =>
uS vs_1 fun x15_3 r_17 =>
nl r_17 (
bnd (f_label_Read D [.str x15_3]) fun r_18 =>
asT r_18 fun x81l => uL x81l fun x81t0 r_19 =>
uI .i64 r_19 fun x81t1 r_20 =>
uI .i64 r_20 fun x81t2 r_21 =>
nl r_21 (
jn (
cond ((x81t0.len : Int) == 0) (
cond (x81t1 == (wr (x1 + 1))) (
ret (.norm [.bool (x81t2 == 60)])) (
ret (.norm [.bool false]))) (
ret (.norm [.bool false]))) fun vs_5 =>
uB vs_5 fun x6 r_22 =>
nl r_22 (
ret (.ret [.bool x6]))))))))))))))

/-- countermand/countermandlaw26.LabelBlank -/
noncomputable def f_law26_LabelBlank (D : HV → List HV → M HV) (args : List HV) : M HV :=
fin (
uL args fun x0 r =>
uI .i64 r fun x1 r_1 =>
nl r_1 (
bnd (f_law26_alive D []) fun r_2 =>
asB r_2 fun x15 =>
cond (!x15) (
ret (.ret [.bool false])) (
bnd (f_law26_joined D [.sl x0]) fun r_3 =>
asT r_3 fun x19l => uS x19l fun x19t0 r_4 =>
uB r_4 fun x19t1 r_5 =>
nl r_5 (
jn (
cond (!x19t1) (
ret (.norm [.bool true])) (
cond (decide (x1 < 0)) (
ret (.norm [.bool true])) (
cond (decide (x1 > (x0.len : Int))) (
ret (.norm [.bool true])) (
bnd (f_strings_Contains D [.str x19t0, .str (ByteArray.mk #[122, 122, 122, 122, 122, 122, 122, 122])]) fun r_6 =>
asB r_6 fun x36 =>
ret (.norm [.bool x36]))))) fun vs =>
uB vs fun x37 r_7 =>
nl r_7 (
cond x37 (
ret (.ret [.bool true])) (
nw [] fun b39 =>
gd (decide (0 ≤ 0)) (gd (decide (0 ≤ x1)) (gd (decide (x1 ≤ (x0.cap : Int))) (gd (decide ((x0.cap : Int) ≤ (x0.cap : Int))) (gd (slOk x0.opn 1) (
rdS (⟨bif decide ((x0.cap : Int) = 0) then x0.p else x0.p.map (fun q => (q.1, q.2 + (0 : Int).toNat * 1)), (x1 - 0 : Int).toNat, ((x0.cap : Int) - 0 : Int).toNat, slOp x0.opn (decide (0 < (x0.cap : Int)))⟩) 1 fun vs_1 =>
apd (⟨some (b39, 0), 0, 0, none⟩) 1 16 ((x1 - 0 : Int).toNat) vs_1 fun x43 =>
apd x43 1 16 2 [.str (ByteArray.mk #[]), .str (ByteArray.mk #[58, 122, 122, 122, 122, 122, 122, 122, 122])] fun x45 =>
gd (decide (0 ≤ x1)) (gd (decide (x1 ≤ (x0.len : Int))) (gd (decide ((x0.len : Int) ≤ (x0.cap : Int))) (gd (decide ((x0.cap : Int) ≤ (x0.cap : Int))) (gd (slOk x0.opn 1) (
rdS (⟨bif decide ((x0.cap : Int) = x1) then x0.p else x0.p.map (fun q => (q.1, q.2 + x1.toNat * 1)), ((x0.len : Int) - x1 : Int).toNat, ((x0.cap : Int) - x1 : Int).toNat, slOp x0.opn (decide (x1 < (x0.cap : Int)))⟩) 1 fun vs_2 =>
apd x45 1 16 (((x0.len : Int) - x1 : Int).toNat) vs_2 fun x49 =>
bnd (f_law26_joined D [.sl x49]) fun r_8 =>
asT r_8 fun x50l => uS x50l fun x50t0 r_9 =>
uB r_9 fun x50t1 r_10 =>
nl r_10 (
jn (
cond (decide ((x0.len : Int) > 58)) (
ret (.norm [.bool true])) (
ret (.norm [.bool (decide ((x19t0.size : Int) > 2000))]))) fun vs_3 =>
uB vs_3 fun x60 r_11 =>
nl r_11 (
cond x60 (
ret (.ret [.bool true])) (
bnd (f_label_Read D [.str x19t0]) fun r_12 =>
asT r_12 fun x63l => uL x63l fun x63t0 r_13 =>
uI .i64 r_13 fun x63t1 r_14 =>
uI .i64 r_14 fun x63t2 r_15 =>
nl r_15 (
bnd (f_label_Read D [.str x50t0]) fun r_16 =>
asT r_16 fun x69l => uL x69l fun x69t0 r_17 =>
uI .i64 r_17 fun x69t1 r_18 =>
uI .i64 r_18 fun x69t2 r_19 =>
nl r_19 (
jn (
cond (decide (x63t1 > x1)) (
ret (.norm [I (wr (x63t1 + 2))])) (
ret (.norm [I x63t1]))) fun vs_4 =>
uI .i64 vs_4 fun x10 r_20 =>
nl r_20 (
jn (
bnd (f_law26_same D [.sl x63t0, .sl x69t0]) fun r_21 =>
asB r_21 fun x80 =>
cond x80 (
cond (x10 == x69t1) (
ret (.norm [.bool (x63t2 == x69t2)])) (
ret (.norm [.bool false]))) (
ret (.norm [.bool false]))) fun vs_5 =>
uB vs_5 fun x4 r_22 =>
nl r_22 (
ret (.ret [.bool x4]))))))))))))))))))))))))

/-- countermand/label.Marks$1 -/
noncomputable def f_label_Marks_1 (D : HV → List HV → M HV) (args : List HV) : M HV :=
fin (
uc args fun x0 r =>
uP r fun x1 r_1 =>
nl r_1 (
mP x1 fun x9b x9o =>
ldC x9b x9o fun v => asS v fun x9 =>
bnd (f_label_read D [.str x9]) fun r_2 =>
asT r_2 fun x10l => uP x10l fun x10t0 r_3 =>
uI .i64 r_3 fun x10t1 r_4 =>
uI .i64 r_4 fun x10t2 r_5 =>
nl r_5 (
cond (x10t2 != 0) (
ret (.ret [])) (
mP x10t0 fun x17b x17o =>
ldC x17b (x17o + 1) fun v_1 => asSl v_1 fun x19 =>
blk 0 (
loopD (fun vs_1 =>
uI .i64 vs_1 fun x21 r_6 =>
nl r_6 (
cond (decide (x21 < (x19.len : Int))) (
ix x19 x21 3 fun x23b x23o =>
ldN x23b x23o 3 fun x24l =>
uS x24l fun x24c0 r_7 =>
uI .i64 r_7 fun x24c1 r_8 =>
uI .i64 r_8 fun x24c2 r_9 =>
nl r_9 (
bnd (D x0 [.str x24c0, I x24c2]) fun r_10 =>
asB r_10 fun x30 =>
cond (!x30) (
ret (.ret [])) (
ret (.norm [I (wr (x21 + 1))])))) (
ret (.exit 0 [])))) [I 0]) fun vs =>
nl vs (
ret (.ret []))))))

/-- countermand/label.Marks -/
noncomputable def f_label_Marks (D : HV → List HV → M HV) (args : List HV) : M HV :=
fin (
uS args fun x0 r =>
nl r (
nw [.str x0] fun b1 =>
ret (.ret [.func n_label_Marks_1 [] [.ptr (some (b1, 0))]])))

/-- countermand/countermandlaw26.LabelReads -/
noncomputable def f_law26_LabelReads (D : HV → List HV → M HV) (args : List HV) : M HV :=
fin (
uS args fun x0 r =>
uI .i64 r fun x1 r_1 =>
nl r_1 (
nw [I x1] fun b3 =>
nw [.bool false] fun b4 =>
bnd (f_law26_alive D []) fun r_2 =>
asB r_2 fun x15 =>
cond (!x15) (
stC b4 0 (.bool false) (
ldC b4 0 fun v => asB v fun z0 =>
ret (.ret [.bool z0]))) (
bnd (f_label_Read D [.str x0]) fun r_3 =>
asT r_3 fun x19l => uL x19l fun x19t0 r_4 =>
uI .i64 r_4 fun x19t1 r_5 =>
uI .i64 r_5 fun x19t2 r_6 =>
nl r_6 (
bnd (f_ref26_Read D [.str x0]) fun r_7 =>
asT r_7 fun x25l => uL x25l fun x25t0 r_8 =>
uL r_8 fun x25t1 r_9 =>
uI .i64 r_9 fun x25t2 r_10 =>
uI .i64 r_10 fun x25t3 r_11 =>
nl r_11 (
nw [.sl (⟨none, 0, 0, none⟩)] fun b9 =>
stC b9 0 (.sl x25t1) (
jn (
cond (x19t2 != x25t3) (
ret (.norm [.bool true])) (
cond (x19t1 != x25t2) (
ret (.norm [.bool true])) (
bnd (f_law26_same D [.sl x19t0, .sl x25t0]) fun r_12 =>
asB r_12 fun x41 =>
ret (.norm [.bool (!x41)])))) fun vs =>
uB vs fun x43 r_13 =>
nl r_13 (
cond x43 (
stC b4 0 (.bool false) (
ldC b4 0 fun v_1 => asB v_1 fun z0_1 =>
ret (.ret [.bool z0_1]))) (
nw [I 0] fun b12 =>
stC b12 0 (I 0) (
bnd (f_label_Marks D [.str x0]) fun r_14 =>
blk 0 (
ny r_14 (nwL 87817742 [(3, .ptr (some (b3, 0))), (4, .ptr (some (b4, 0))), (9, .ptr (some (b9, 0))), (12, .ptr (some (b12, 0)))] fun l =>
bnd (D r_14 [.yld l]) fun q =>
endL l (
ret (.norm []))
(onX 0 (ret (.exit 0 [])) noX) (
ldC b4 0 fun v_2 => asB v_2 fun z0_2 =>
ret (.ret [.bool z0_2])))) fun vs_1 =>
nl vs_1 (
jn (
ldC b12 0 fun v_3 => asI .i64 v_3 fun x75 =>
ldC b3 0 fun v_4 => asI .i64 v_4 fun x76 =>
cond (x75 == x76) (
stC b4 0 (.bool true) (
ret (.norm []))) (
ldC b12 0 fun v_5 => asI .i64 v_5 fun x79 =>
ldC b9 0 fun v_6 => asSl v_6 fun x80 =>
stC b4 0 (.bool (x79 == (x80.len : Int))) (
ret (.norm [])))) fun vs_2 =>
nl vs_2 (
ldC b4 0 fun v_7 => asB v_7 fun z0_3 =>
ret (.ret [.bool z0_3]))))))))))))

/-- a round of countermand/countermandlaw26.LabelReads -/
noncomputable def r0_law26_LabelReads (D : HV → List HV → M HV) (l : Nat) (vs : List (Nat × HV)) (args : List HV) : M Leaf :=
gdS [3, 4, 9, 12] vs fun vs' =>
uP vs' fun x3 r =>
uP r fun x4 r_1 =>
uP r_1 fun x9 r_2 =>
uP r_2 fun x12 r_3 =>
nl r_3 (
uS args fun x46 r_4 =>
uI .i64 r_4 fun x47 r_5 =>
nl r_5 (
busyL l (
jn (
mP x12 fun x48b x48o =>
ldC x48b x48o fun v => asI .i64 v fun x48 =>
mP x9 fun x49b x49o =>
ldC x49b x49o fun v_1 => asSl v_1 fun x49 =>
cond (decide (x48 ≥ (x49.len : Int))) (
ret (.norm [.bool true])) (
mP x9 fun x54b x54o =>
ldC x54b x54o fun v_2 => asSl v_2 fun x54 =>
mP x12 fun x55b x55o =>
ldC x55b x55o fun v_3 => asI .i64 v_3 fun x55 =>
ix x54 x55 2 fun x56b x56o =>
ldC x56b x56o fun v_4 => asS v_4 fun x58 =>
cond (!(x46.toList == x58.toList)) (
ret (.norm [.bool true])) (
mP x9 fun x63b x63o =>
ldC x63b x63o fun v_5 => asSl v_5 fun x63 =>
mP x12 fun x64b x64o =>
ldC x64b x64o fun v_6 => asI .i64 v_6 fun x64 =>
ix x63 x64 2 fun x65b x65o =>
ldC x65b (x65o + 1) fun v_7 => asI .i64 v_7 fun x67 =>
ret (.norm [.bool (x47 != x67)])))) fun vs_1 =>
uB vs_1 fun x69 r_6 =>
nl r_6 (
cond x69 (
mP x4 fun qb qo =>
stC qb qo (.bool false) (
ret (.ret []))) (
mP x12 fun x70b x70o =>
ldC x70b x70o fun v_8 => asI .i64 v_8 fun x70 =>
mP x12 fun qb_1 qo_1 =>
stC qb_1 qo_1 (I (wr (x70 + 1))) (
mP x12 fun x72b x72o =>
ldC x72b x72o fun v_9 => asI .i64 v_9 fun x72 =>
mP x3 fun x73b x73o =>
ldC x73b x73o fun v_10 => asI .i64 v_10 fun x73 =>
cond (x72 == x73) (
ret (.exit 0 [])) (
ret (.norm []))))))))

/-- countermand/countermandlaw26.LabelFull -/
noncomputable def f_law26_LabelFull (D : HV → List HV → M HV) (args : List HV) : M HV :=
fin (
uI .i64 args fun x0 r =>
uI .i64 r fun x1 r_1 =>
nl r_1 (
bnd (f_law26_alive D []) fun r_2 =>
asB r_2 fun x12 =>
cond (!x12) (
ret (.ret [.bool false])) (
jn (
cond (decide (x0 < 0)) (
ret (.norm [.bool true])) (
cond (decide (x0 > 100)) (
ret (.norm [.bool true])) (
cond (decide (x1 < 0)) (
ret (.norm [.bool true])) (
ret (.norm [.bool (decide (x1 > x0))]))))) fun vs =>
uB vs fun x28 r_3 =>
nl r_3 (
cond x28 (
ret (.ret [.bool true])) (
bnd (f_strings_Repeat D [.str (ByteArray.mk #[104, 97, 108, 116, 10]), I x0]) fun r_4 =>
asS r_4 fun x30 =>
bnd (f_label_Read D [.str x30]) fun r_5 =>
asT r_5 fun x33l => uL x33l fun x33t0 r_6 =>
uI .i64 r_6 fun x33t1 r_7 =>
uI .i64 r_7 fun x33t2 r_8 =>
nl r_8 (
jn (
cond (decide (x0 > 48)) (
jn (
cond ((x33t0.len : Int) != 0) (
ret (.norm [.bool true])) (
cond (x33t1 != 49) (
ret (.norm [.bool true])) (
ret (.norm [.bool (x33t2 != 60)])))) fun vs_2 =>
uB vs_2 fun x49 r_9 =>
nl r_9 (
cond x49 (
ret (.ret [.bool false])) (
ret (.norm [])))) (
jn (
cond ((x33t0.len : Int) != x0) (
ret (.norm [.bool true])) (
cond (x33t1 != 0) (
ret (.norm [.bool true])) (
ret (.norm [.bool (x33t2 != 0)])))) fun vs_3 =>
uB vs_3 fun x61 r_10 =>
nl r_10 (
cond x61 (
ret (.ret [.bool false])) (
ret (.norm []))))) fun vs_1 =>
nl vs_1 (
cond (decide (x0 > 47)) (
ret (.ret [.bool true])) (
bnd (f_strings_Repeat D [.str (ByteArray.mk #[104, 97, 108, 116, 10]), I x1]) fun r_11 =>
asS r_11 fun x66 =>
gd (decide ((ByteArray.mk #[58, 97, 10]).size + x66.size ≤ 9223372036854775807)) (
gd (decide (((ByteArray.mk #[58, 97, 10]) ++ x66).size + (ByteArray.mk #[58, 97, 10]).size ≤ 9223372036854775807)) (
bnd (f_strings_Repeat D [.str (ByteArray.mk #[104, 97, 108, 116, 10]), I (wr (x0 - x1))]) fun r_12 =>
asS r_12 fun x72 =>
gd (decide ((((ByteArray.mk #[58, 97, 10]) ++ x66) ++ (ByteArray.mk #[58, 97, 10])).size + x72.size ≤ 9223372036854775807)) (
bnd (f_label_Read D [.str ((((ByteArray.mk #[58, 97, 10]) ++ x66) ++ (ByteArray.mk #[58, 97, 10])) ++ x72)]) fun r_13 =>
asT r_13 fun x74l => uL x74l fun x74t0 r_14 =>
uI .i64 r_14 fun x74t1 r_15 =>
uI .i64 r_15 fun x74t2 r_16 =>
nl r_16 (
bnd (f_strings_Repeat D [.str (ByteArray.mk #[104, 97, 108, 116, 10]), I x1]) fun r_17 =>
asS r_17 fun x80 =>
gd (decide ((ByteArray.mk #[58, 97, 10]).size + x80.size ≤ 9223372036854775807)) (
gd (decide (((ByteArray.mk #[58, 97, 10]) ++ x80).size + (ByteArray.mk #[101, 108, 115, 101, 32, 98, 10]).size ≤ 9223372036854775807)) (
bnd (f_strings_Repeat D [.str (ByteArray.mk #[104, 97, 108, 116, 10]), I (wr (x0 - x1))]) fun r_18 =>
asS r_18 fun x86 =>
gd (decide ((((ByteArray.mk #[58, 97, 10]) ++ x80) ++ (ByteArray.mk #[101, 108, 115, 101, 32, 98, 10])).size + x86.size ≤ 9223372036854775807)) (
bnd (f_label_Read D [.str ((((ByteArray.mk #[58, 97, 10]) ++ x80) ++ (ByteArray.mk #[101, 108, 115, 101, 32, 98, 10])) ++ x86)]) fun r_19 =>
asT r_19 fun x88l => uL x88l fun x88t0 r_20 =>
uI .i64 r_20 fun x88t1 r_21 =>
uI .i64 r_21 fun x88t2 r_22 =>
nl r_22 (
jn (
cond (x74t1 == (wr (x1 + 2))) (
cond (x74t2 == 60) (
cond (x88t1 == (wr (x1 + 2))) (
ret (.norm [.bool (x88t2 == 5)])) (
ret (.norm [.bool false]))) (
ret (.norm [.bool false]))) (
ret (.norm [.bool false]))) fun vs_4 =>
uB vs_4 fun x4 r_23 =>
nl r_23 (
ret (.ret [.bool x4]))))))))))))))))))

end Go.Proofs.YtmfmcegpoiinjaaDoor.HM
