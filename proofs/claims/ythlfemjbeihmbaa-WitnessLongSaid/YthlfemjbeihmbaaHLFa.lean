/- The texts of functions, printed out of the dump by hlgen.py. Conditions: none (definitions). -/
import Derived.Test.YthlfemjbeihmbaaHLZa
namespace Go.Proofs.Ythlfemjbeihmbaa.HL
open Go
set_option maxRecDepth 100000
set_option linter.unusedVariables false

/-- countermand/witness.alike -/
def s29 (D : HV → List HV → M HV) (args : List HV) : M HV :=
fin (
uA args fun x0l r =>
uI .i64 x0l fun x0c0 r_1 =>
uI .i64 r_1 fun x0c1 r_2 =>
uI .i64 r_2 fun x0c2 r_3 =>
nl r_3 (
uA r fun x1l r_4 =>
uI .i64 x1l fun x1c0 r_5 =>
uI .i64 r_5 fun x1c1 r_6 =>
uI .i64 r_6 fun x1c2 r_7 =>
nl r_7 (
nl r_4 (
jn (
cond (x0c0 == x1c0) (
ret (.norm [.bool (x0c1 == x1c1)])) (
ret (.norm [.bool false]))) fun vs =>
uB vs fun x4 r_8 =>
nl r_8 (
ret (.ret [.bool x4]))))))

def a29 : Ann := (.n none .z (.n none (.n (some [.t 4 (.sc .kb)]) .z .z) .z))

def e29 (D : HV → List HV → M HV) : Env := ⟨lk [], D, fun _ => none⟩

/-- countermand/witness.single -/
def s27 (D : HV → List HV → M HV) (args : List HV) : M HV :=
fin (
uL args fun x0 r =>
uI .i64 r fun x1 r_1 =>
nl r_1 (
cond (decide ((x0.len : Int) > 24)) (
ret (.ret [.bool false])) (
blk 0 (
loopD (fun vs_1 =>
uI .i64 vs_1 fun x14 r_2 =>
nl r_2 (
cond (decide (x14 < (x0.len : Int))) (
ix x0 x14 3 fun x17b x17o =>
ldN x17b x17o 3 fun x18l =>
uI .i64 x18l fun x18c0 r_3 =>
uI .i64 r_3 fun x18c1 r_4 =>
uI .i64 r_4 fun x18c2 r_5 =>
nl r_5 (
jn (
cond (decide (x18c0 < 0)) (
ret (.norm [.bool true])) (
cond (decide (x18c0 > 2)) (
ret (.norm [.bool true])) (
cond (decide (x18c1 < 0)) (
ret (.norm [.bool true])) (
cond (decide (x18c1 ≥ 8)) (
ret (.norm [.bool true])) (
ret (.norm [.bool (decide (x18c2 < x1))])))))) fun vs_2 =>
uB vs_2 fun x42 r_6 =>
nl r_6 (
cond x42 (
ret (.ret [.bool false])) (
gd (decide (0 ≤ 0)) (gd (decide (0 ≤ x14)) (gd (decide (x14 ≤ (x0.cap : Int))) (gd (decide ((x0.cap : Int) ≤ (x0.cap : Int))) (gd (slOk x0.opn 3 (decide (0 < (x0.cap : Int)))) (
blk 2 (
loopD (fun vs_4 =>
uI .i64 vs_4 fun x47 r_7 =>
nl r_7 (
cond (decide (x47 < ((x14 - 0 : Int).toNat : Int))) (
ix (⟨bif decide ((x0.cap : Int) = 0) then x0.p else x0.p.map (fun q => (q.1, q.2 + (0 : Int).toNat * 3)), (x14 - 0 : Int).toNat, ((x0.cap : Int) - 0 : Int).toNat, x0.opn⟩) x47 3 fun x49b x49o =>
ldN x49b x49o 3 fun x50l =>
uI .i64 x50l fun x50c0 r_8 =>
uI .i64 r_8 fun x50c1 r_9 =>
uI .i64 r_9 fun x50c2 r_10 =>
nl r_10 (
bnd (s29 D [.agg [I x18c0, I x18c1, I x18c2], .agg [I x50c0, I x50c1, I x50c2]]) fun r_11 =>
asB r_11 fun x53 =>
cond x53 (
ret (.ret [.bool false])) (
ret (.norm [I (wr (x47 + 1))])))) (
ret (.exit 2 [])))) [I 0]) fun vs_3 =>
nl vs_3 (
ret (.norm [I (wr (x14 + 1))]))))))))))) (
ret (.exit 0 [])))) [I 0]) fun vs =>
nl vs (
ret (.ret [.bool true])))))

def a27 : Ann := (.n none .z (.n none .z (.n none (.n none .z (.n (some []) (.n (some [.t 14 (.sc (.ki .i64))]) (.n none .z (.n none .z (.n none (.n none (.n none .z (.n none (.n none (.n (some [.t 42 (.sc .kb)]) .z .z) .z) (.n none .z (.n (some []) (.n (some [.t 47 (.sc (.ki .i64))]) .z .z) .z)))) .z) .z))) .z) .z)) .z)))

def e27 (D : HV → List HV → M HV) : Env := ⟨lk [(29, s29 D)], D, fun _ => none⟩

/-- slices.Index[[]countermand/reads.Entry,countermand/reads.Entry] -/
def s32 (D : HV → List HV → M HV) (args : List HV) : M HV :=
fin (
uL args fun x0 r =>
uA r fun x1l r_1 =>
uI .i64 x1l fun x1c0 r_2 =>
uI .i64 r_2 fun x1c1 r_3 =>
uI .i64 r_3 fun x1c2 r_4 =>
nl r_4 (
nl r_1 (
blk 0 (
loopD (fun vs_1 =>
uI .i64 vs_1 fun x8 r_5 =>
nl r_5 (
cond (decide (x8 < (x0.len : Int))) (
ix x0 x8 3 fun x14b x14o =>
ldN x14b x14o 3 fun x15l =>
uI .i64 x15l fun x15c0 r_6 =>
uI .i64 r_6 fun x15c1 r_7 =>
uI .i64 r_7 fun x15c2 r_8 =>
nl r_8 (
cond (cond (x1c0 == x15c0) (cond (x1c1 == x15c1) (cond (x1c2 == x15c2) true false) false) false) (
ret (.ret [I x8])) (
ret (.norm [I (wr (x8 + 1))])))) (
ret (.exit 0 [])))) [I 0]) fun vs =>
nl vs (
ret (.ret [I (-1)])))))

def a32 : Ann := (.n none .z (.n none (.n none .z (.n (some []) (.n (some [.t 8 (.sc (.ki .i64))]) .z .z) .z)) .z))

def e32 (D : HV → List HV → M HV) : Env := ⟨lk [], D, fun _ => none⟩

/-- slices.Contains[[]countermand/reads.Entry,countermand/reads.Entry] -/
def s31 (D : HV → List HV → M HV) (args : List HV) : M HV :=
fin (
uL args fun x0 r =>
uA r fun x1l r_1 =>
uI .i64 x1l fun x1c0 r_2 =>
uI .i64 r_2 fun x1c1 r_3 =>
uI .i64 r_3 fun x1c2 r_4 =>
nl r_4 (
nl r_1 (
bnd (s32 D [.sl x0, .agg [I x1c0, I x1c1, I x1c2]]) fun r_5 =>
asI .i64 r_5 fun x7 =>
ret (.ret [.bool (decide (x7 ≥ 0))]))))

def a31 : Ann := .z

def e31 (D : HV → List HV → M HV) : Env := ⟨lk [(32, s32 D)], D, fun _ => none⟩

/-- countermand/witness.writers -/
def s28 (D : HV → List HV → M HV) (args : List HV) : M HV :=
fin (
uL args fun x0 r =>
uA r fun x1l r_1 =>
uI .i64 x1l fun x1c0 r_2 =>
uI .i64 r_2 fun x1c1 r_3 =>
uI .i64 r_3 fun x1c2 r_4 =>
nl r_4 (
nl r_1 (
blk 0 (
loopD (fun vs_1 =>
uI .i64 vs_1 fun x5 r_5 =>
uI .i64 r_5 fun x10 r_6 =>
nl r_6 (
cond (decide (x10 < (x0.len : Int))) (
blk 1 (
ix x0 x10 2 fun x12b x12o =>
ldN x12b x12o 2 fun x13l =>
uL x13l fun x13c0 r_7 =>
uL r_7 fun x13c1 r_8 =>
nl r_8 (
bnd (s31 D [.sl x13c1, .agg [I x1c0, I x1c1, I x1c2]]) fun r_9 =>
asB r_9 fun x17 =>
cond x17 (
ret (.norm [I (wr (x5 + 1))])) (
ret (.norm [I x5])))) fun vs_2 =>
uI .i64 vs_2 fun x5_1 r_10 =>
nl r_10 (
ret (.norm [I x5_1, I (wr (x10 + 1))]))) (
ret (.exit 0 [I x5])))) [I 0, I 0]) fun vs =>
uI .i64 vs fun x5_2 r_11 =>
nl r_11 (
ret (.ret [I x5_2])))))

def a28 : Ann := (.n none .z (.n none .z (.n none (.n none .z (.n (some [.t 5 (.sc (.ki .i64))]) (.n (some [.t 5 (.sc (.ki .i64)), .t 10 (.sc (.ki .i64))]) (.n none .z (.n none .z (.n none (.n (some [.t 5 (.sc (.ki .i64))]) .z .z) .z))) .z) .z)) .z)))

def e28 (D : HV → List HV → M HV) : Env := ⟨lk [(31, s31 D)], D, fun _ => none⟩

/-- countermand/witness.can -/
def s16 (D : HV → List HV → M HV) (args : List HV) : M HV :=
fin (
uL args fun x0 r =>
nl r (
blk 0 (
loopD (fun vs_1 =>
uI .i64 vs_1 fun x13 r_1 =>
nl r_1 (
cond (decide (x13 < (x0.len : Int))) (
ix x0 x13 2 fun x15b x15o =>
ldN x15b x15o 2 fun x16l =>
uL x16l fun x16c0 r_2 =>
uL r_2 fun x16c1 r_3 =>
nl r_3 (
jn (
bnd (s27 D [.sl x16c0, I 0]) fun r_4 =>
asB r_4 fun x19 =>
cond (!x19) (
ret (.norm [.bool true])) (
bnd (s27 D [.sl x16c1, I 1]) fun r_5 =>
asB r_5 fun x24 =>
ret (.norm [.bool (!x24)]))) fun vs_2 =>
uB vs_2 fun x26 r_6 =>
nl r_6 (
cond x26 (
ret (.ret [.bool false])) (
ret (.norm [I (wr (x13 + 1))]))))) (
ret (.exit 0 [])))) [I 0]) fun vs =>
nl vs (
blk 2 (
loopD (fun vs_4 =>
uI .i64 vs_4 fun x30 r_7 =>
nl r_7 (
cond (decide (x30 < (x0.len : Int))) (
ix x0 x30 2 fun x32b x32o =>
ldN x32b x32o 2 fun x33l =>
uL x33l fun x33c0 r_8 =>
uL r_8 fun x33c1 r_9 =>
nl r_9 (
blk 4 (
loopD (fun vs_6 =>
uI .i64 vs_6 fun x37 r_10 =>
nl r_10 (
cond (decide (x37 < (x33c1.len : Int))) (
ix x33c1 x37 3 fun x39b x39o =>
ldN x39b x39o 3 fun x40l =>
uI .i64 x40l fun x40c0 r_11 =>
uI .i64 r_11 fun x40c1 r_12 =>
uI .i64 r_12 fun x40c2 r_13 =>
nl r_13 (
bnd (s28 D [.sl x0, .agg [I x40c0, I x40c1, I x40c2]]) fun r_14 =>
asI .i64 r_14 fun x43 =>
cond (x43 != 1) (
ret (.ret [.bool false])) (
ret (.norm [I (wr (x37 + 1))])))) (
ret (.exit 4 [])))) [I 0]) fun vs_5 =>
nl vs_5 (
blk 6 (
loopD (fun vs_8 =>
uI .i64 vs_8 fun x49 r_15 =>
nl r_15 (
cond (decide (x49 < (x33c0.len : Int))) (
ix x33c0 x49 3 fun x51b x51o =>
ldN x51b x51o 3 fun x52l =>
uI .i64 x52l fun x52c0 r_16 =>
uI .i64 r_16 fun x52c1 r_17 =>
uI .i64 r_17 fun x52c2 r_18 =>
nl r_18 (
jn (
cond (decide (x52c2 > 0)) (
bnd (s28 D [.sl x0, .agg [I x52c0, I x52c1, I x52c2]]) fun r_19 =>
asI .i64 r_19 fun x59 =>
ret (.norm [.bool (x59 != 1)])) (
ret (.norm [.bool false]))) fun vs_9 =>
uB vs_9 fun x61 r_20 =>
nl r_20 (
cond x61 (
ret (.ret [.bool false])) (
ret (.norm [I (wr (x49 + 1))]))))) (
ret (.exit 6 [])))) [I 0]) fun vs_7 =>
nl vs_7 (
ret (.norm [I (wr (x30 + 1))]))))) (
ret (.exit 2 [])))) [I 0]) fun vs_3 =>
nl vs_3 (
ret (.ret [.bool true])))))

def a16 : Ann := (.n none .z (.n none (.n none .z (.n (some []) (.n (some [.t 13 (.sc (.ki .i64))]) (.n none .z (.n none .z (.n none (.n none (.n none .z (.n none (.n (some [.t 26 (.sc .kb)]) .z .z) .z)) .z) .z))) .z) .z)) (.n none (.n none .z (.n (some []) (.n (some [.t 30 (.sc (.ki .i64))]) (.n none .z (.n none .z (.n none (.n none (.n none .z (.n none (.n none .z (.n (some []) (.n (some [.t 37 (.sc (.ki .i64))]) .z .z) .z)) (.n none .z (.n (some []) (.n (some [.t 49 (.sc (.ki .i64))]) (.n none .z (.n none .z (.n none (.n none (.n none .z (.n none (.n (some [.t 61 (.sc .kb)]) .z .z) .z)) .z) .z))) .z) .z)))) .z) .z))) .z) .z)) .z)))

def e16 (D : HV → List HV → M HV) : Env := ⟨lk [(27, s27 D), (28, s28 D)], D, fun _ => none⟩

/-- countermand/witness.younger -/
def s17 (D : HV → List HV → M HV) (args : List HV) : M HV :=
fin (
uL args fun x0 r =>
uL r fun x1 r_1 =>
uI .i64 r_1 fun x2 r_2 =>
nl r_2 (
blk 0 (
loopD (fun vs_1 =>
uI .i64 vs_1 fun x13 r_3 =>
nl r_3 (
cond (decide (x13 < (x0.len : Int))) (
ix x0 x13 3 fun x15b x15o =>
ldN x15b x15o 3 fun x16l =>
uI .i64 x16l fun x16c0 r_4 =>
uI .i64 r_4 fun x16c1 r_5 =>
uI .i64 r_5 fun x16c2 r_6 =>
nl r_6 (
blk 2 (
loopD (fun vs_3 =>
uI .i64 vs_3 fun x19 r_7 =>
nl r_7 (
cond (decide (x19 < (x1.len : Int))) (
ix x1 x19 3 fun x21b x21o =>
ldN x21b x21o 3 fun x22l =>
uI .i64 x22l fun x22c0 r_8 =>
uI .i64 r_8 fun x22c1 r_9 =>
uI .i64 r_9 fun x22c2 r_10 =>
nl r_10 (
jn (
bnd (s29 D [.agg [I x16c0, I x16c1, I x16c2], .agg [I x22c0, I x22c1, I x22c2]]) fun r_11 =>
asB r_11 fun x25 =>
cond x25 (
cond (decide (x22c2 ≥ x2)) (
ret (.norm [.bool (decide (x16c2 ≤ (wr (x22c2 - x2))))])) (
ret (.norm [.bool false]))) (
ret (.norm [.bool false]))) fun vs_4 =>
uB vs_4 fun x40 r_12 =>
nl r_12 (
cond x40 (
ret (.ret [.bool true])) (
ret (.norm [I (wr (x19 + 1))]))))) (
ret (.exit 2 [])))) [I 0]) fun vs_2 =>
nl vs_2 (
ret (.norm [I (wr (x13 + 1))])))) (
ret (.exit 0 [])))) [I 0]) fun vs =>
nl vs (
ret (.ret [.bool false]))))

def a17 : Ann := (.n none .z (.n none (.n none .z (.n (some []) (.n (some [.t 13 (.sc (.ki .i64))]) (.n none .z (.n none .z (.n none (.n none (.n none .z (.n none .z (.n (some []) (.n (some [.t 19 (.sc (.ki .i64))]) (.n none .z (.n none .z (.n none (.n none (.n none .z (.n none (.n (some [.t 40 (.sc .kb)]) .z .z) .z)) .z) .z))) .z) .z))) .z) .z))) .z) .z)) .z))

def e17 (D : HV → List HV → M HV) : Env := ⟨lk [(29, s29 D)], D, fun _ => none⟩

/-- slices.Index[[]int,int] -/
def s30 (D : HV → List HV → M HV) (args : List HV) : M HV :=
fin (
uL args fun x0 r =>
uI .i64 r fun x1 r_1 =>
nl r_1 (
blk 0 (
loopD (fun vs_1 =>
uI .i64 vs_1 fun x8 r_2 =>
nl r_2 (
cond (decide (x8 < (x0.len : Int))) (
ix x0 x8 1 fun x14b x14o =>
ldC x14b x14o fun v => asI .i64 v fun x15 =>
cond (x1 == x15) (
ret (.ret [I x8])) (
ret (.norm [I (wr (x8 + 1))]))) (
ret (.exit 0 [])))) [I 0]) fun vs =>
nl vs (
ret (.ret [I (-1)]))))

def a30 : Ann := (.n none .z (.n none (.n none .z (.n (some []) (.n (some [.t 8 (.sc (.ki .i64))]) .z .z) .z)) .z))

def e30 (D : HV → List HV → M HV) : Env := ⟨lk [], D, fun _ => none⟩

/-- countermand/witness.order[countermand/witness.Deed] -/
def s18 (D : HV → List HV → M HV) (args : List HV) : M HV :=
fin (
uL args fun x0 r =>
uc r fun x1 r_1 =>
nl r_1 (
gd (decide (0 ≤ (x0.len : Int))) (gd (decide ((x0.len : Int) ≤ (x0.len : Int))) (gd (decide ((x0.len : Int).toNat * 8 ≤ room)) (
nw (repL (x0.len : Int).toNat [I 0]) fun b17 =>
blk 0 (
loopD (fun vs_1 =>
uI .i64 vs_1 fun x20 r_2 =>
nl r_2 (
cond (decide (x20 < (x0.len : Int))) (
ix x0 x20 2 fun x23b x23o =>
ldN x23b x23o 2 fun x24l =>
uL x24l fun x24c0 r_3 =>
uL r_3 fun x24c1 r_4 =>
nl r_4 (
blk 2 (
loopD (fun vs_3 =>
uI .i64 vs_3 fun x27 r_5 =>
nl r_5 (
cond (decide (x27 < (x0.len : Int))) (
blk 3 (
ix x0 x27 2 fun x30b x30o =>
ldN x30b x30o 2 fun x31l =>
uL x31l fun x31c0 r_6 =>
uL r_6 fun x31c1 r_7 =>
nl r_7 (
jn (
cond (x20 != x27) (
bnd (D x1 [.agg [.sl x24c0, .sl x24c1], .agg [.sl x31c0, .sl x31c1]]) fun r_8 =>
asB r_8 fun x39 =>
ret (.norm [.bool x39])) (
ret (.norm [.bool false]))) fun vs_5 =>
uB vs_5 fun x40 r_9 =>
nl r_9 (
cond x40 (
ix (⟨some (b17, 0), (x0.len : Int).toNat, (x0.len : Int).toNat, none⟩) x27 1 fun x43b x43o =>
ldC x43b x43o fun v => asI .i64 v fun x44 =>
ix (⟨some (b17, 0), (x0.len : Int).toNat, (x0.len : Int).toNat, none⟩) x27 1 fun x46b x46o =>
stC x46b x46o (I (wr (x44 + 1))) (
ret (.norm []))) (
ret (.norm []))))) fun vs_4 =>
nl vs_4 (
ret (.norm [I (wr (x27 + 1))]))) (
ret (.exit 2 [])))) [I 0]) fun vs_2 =>
nl vs_2 (
ret (.norm [I (wr (x20 + 1))])))) (
ret (.exit 0 [])))) [I 0]) fun vs =>
nl vs (
blk 4 (
loopD (fun vs_7 =>
uL vs_7 fun x11 r_10 =>
uI .i64 r_10 fun x51 r_11 =>
nl r_11 (
cond (decide (x51 < (x0.len : Int))) (
bnd (s30 D [.sl (⟨some (b17, 0), (x0.len : Int).toNat, (x0.len : Int).toNat, none⟩), I 0]) fun r_12 =>
asI .i64 r_12 fun x54 =>
cond (decide (x54 < 0)) (
ret (.ret [.sl (⟨none, 0, 0, none⟩), .bool false])) (
ix (⟨some (b17, 0), (x0.len : Int).toNat, (x0.len : Int).toNat, none⟩) x54 1 fun x59b x59o =>
stC x59b x59o (I (-1)) (
blk 6 (
loopD (fun vs_9 =>
uI .i64 vs_9 fun x62 r_13 =>
nl r_13 (
cond (decide (x62 < (x0.len : Int))) (
blk 7 (
ix x0 x62 2 fun x65b x65o =>
ldN x65b x65o 2 fun x66l =>
uL x66l fun x66c0 r_14 =>
uL r_14 fun x66c1 r_15 =>
nl r_15 (
jn (
cond (x62 != x54) (
ix x0 x54 2 fun x74b x74o =>
ldN x74b x74o 2 fun x75l =>
uL x75l fun x75c0 r_16 =>
uL r_16 fun x75c1 r_17 =>
nl r_17 (
bnd (D x1 [.agg [.sl x75c0, .sl x75c1], .agg [.sl x66c0, .sl x66c1]]) fun r_18 =>
asB r_18 fun x77 =>
ret (.norm [.bool x77]))) (
ret (.norm [.bool false]))) fun vs_11 =>
uB vs_11 fun x78 r_19 =>
nl r_19 (
cond x78 (
ix (⟨some (b17, 0), (x0.len : Int).toNat, (x0.len : Int).toNat, none⟩) x62 1 fun x81b x81o =>
ldC x81b x81o fun v_1 => asI .i64 v_1 fun x82 =>
ix (⟨some (b17, 0), (x0.len : Int).toNat, (x0.len : Int).toNat, none⟩) x62 1 fun x84b x84o =>
stC x84b x84o (I (wr (x82 - 1))) (
ret (.norm []))) (
ret (.norm []))))) fun vs_10 =>
nl vs_10 (
ret (.norm [I (wr (x62 + 1))]))) (
ret (.exit 6 [])))) [I 0]) fun vs_8 =>
nl vs_8 (
apd x11 1 8 1 [I x54] fun x89 =>
ret (.norm [.sl x89, I (wr (x51 + 1))]))))) (
ret (.exit 4 [.sl x11])))) [.sl (⟨none, 0, 0, none⟩), I 0]) fun vs_6 =>
uL vs_6 fun x11_1 r_20 =>
nl r_20 (
ret (.ret [.sl x11_1, .bool true]))))))))

def a18 : Ann := (.n none .z (.n none .z (.n none (.n none .z (.n (some []) (.n (some [.t 20 (.sc (.ki .i64))]) (.n none .z (.n none .z (.n none (.n none (.n none .z (.n none .z (.n (some []) (.n (some [.t 27 (.sc (.ki .i64))]) (.n none .z (.n none .z (.n none (.n (some []) (.n none .z (.n none (.n (some [.t 40 (.sc .kb)]) .z .z) .z)) .z) .z))) .z) .z))) .z) .z))) .z) .z)) (.n none .z (.n none (.n none .z (.n (some [.t 11 (.sc .kl)]) (.n (some [.t 11 (.sc .kl), .t 51 (.sc (.ki .i64))]) (.n none .z (.n none .z (.n none (.n none (.n none .z (.n none .z (.n none .z (.n none (.n none .z (.n (some []) (.n (some [.t 62 (.sc (.ki .i64))]) (.n none .z (.n none .z (.n none (.n (some []) (.n none .z (.n none (.n (some [.t 78 (.sc .kb)]) .z .z) .z)) .z) .z))) .z) .z)) .z)))) .z) .z))) .z) .z)) .z)))))

def e18 (D : HV → List HV → M HV) : Env := ⟨lk [(30, s30 D)], D, fun _ => none⟩

/-- countermand/witness.Serial -/
def s10 (D : HV → List HV → M HV) (args : List HV) : M HV :=
fin (
uL args fun x0 r =>
nl r (
cond (decide ((x0.len : Int) > 160)) (
ret (.ret [.sl (⟨none, 0, 0, none⟩), I 3])) (
bnd (s16 D [.sl x0]) fun r_1 =>
asB r_1 fun x14 =>
cond (!x14) (
ret (.ret [.sl (⟨none, 0, 0, none⟩), I 1])) (
blk 1 (
loopD (fun vs_1 =>
uI .i64 vs_1 fun x18 r_2 =>
nl r_2 (
cond (decide (x18 < (x0.len : Int))) (
ix x0 x18 2 fun x20b x20o =>
ldN x20b x20o 2 fun x21l =>
uL x21l fun x21c0 r_3 =>
uL r_3 fun x21c1 r_4 =>
nl r_4 (
bnd (s17 D [.sl x21c1, .sl x21c0, I 0]) fun r_5 =>
asB r_5 fun x26 =>
cond x26 (
ret (.ret [.sl (⟨none, 0, 0, none⟩), I 5])) (
ret (.norm [I (wr (x18 + 1))])))) (
ret (.exit 1 [])))) [I 0]) fun vs =>
nl vs (
bnd (s18 D [.sl x0, .func 19 [] []]) fun r_6 =>
asT r_6 fun x30l => uL x30l fun x30t0 r_7 =>
uB r_7 fun x30t1 r_8 =>
nl r_8 (
cond (!x30t1) (
ret (.ret [.sl (⟨none, 0, 0, none⟩), I 5])) (
ret (.ret [.sl x30t0, I 0]))))))))

def a10 : Ann := (.n none .z (.n none .z (.n none (.n none .z (.n (some []) (.n (some [.t 18 (.sc (.ki .i64))]) .z .z) .z)) .z)))

def e10 (D : HV → List HV → M HV) : Env := ⟨lk [(16, s16 D), (17, s17 D), (18, s18 D)], D, fun _ => none⟩

/-- (*countermand/witness.board).done -/
def s26 (D : HV → List HV → M HV) (args : List HV) : M HV :=
fin (
uP args fun x0 r =>
uA r fun x1l r_1 =>
uL x1l fun x1c0 r_2 =>
uL r_2 fun x1c1 r_3 =>
nl r_3 (
nl r_1 (
blk 0 (
loopD (fun vs_1 =>
uI .i64 vs_1 fun x12 r_4 =>
nl r_4 (
cond (decide (x12 < (x1c0.len : Int))) (
ix x1c0 x12 3 fun x14b x14o =>
ldN x14b x14o 3 fun x15l =>
uI .i64 x15l fun x15c0 r_5 =>
uI .i64 r_5 fun x15c1 r_6 =>
uI .i64 r_6 fun x15c2 r_7 =>
nl r_7 (
mP x0 fun x21b x21o =>
gd (decide (0 ≤ x15c0)) (gd (decide (x15c0 < (3 : Int))) (
gd (decide (0 ≤ x15c1)) (gd (decide (x15c1 < (8 : Int))) (
ldC x21b (x21o + x15c0.toNat * 8 + x15c1.toNat * 1) fun v => asI .i64 v fun x24 =>
cond (x24 != x15c2) (
ret (.ret [.bool false])) (
ret (.norm [I (wr (x12 + 1))])))))))) (
ret (.exit 0 [])))) [I 0]) fun vs =>
nl vs (
blk 2 (
loopD (fun vs_3 =>
uI .i64 vs_3 fun x32 r_8 =>
nl r_8 (
cond (decide (x32 < (x1c1.len : Int))) (
ix x1c1 x32 3 fun x34b x34o =>
ldN x34b x34o 3 fun x35l =>
uI .i64 x35l fun x35c0 r_9 =>
uI .i64 r_9 fun x35c1 r_10 =>
uI .i64 r_10 fun x35c2 r_11 =>
nl r_11 (
mP x0 fun x41b x41o =>
gd (decide (0 ≤ x35c0)) (gd (decide (x35c0 < (3 : Int))) (
gd (decide (0 ≤ x35c1)) (gd (decide (x35c1 < (8 : Int))) (
ldC x41b (x41o + x35c0.toNat * 8 + x35c1.toNat * 1) fun v_1 => asI .i64 v_1 fun x44 =>
cond (decide (x44 ≥ x35c2)) (
ret (.ret [.bool false])) (
mP x0 fun x55b x55o =>
gd (decide (0 ≤ x35c0)) (gd (decide (x35c0 < (3 : Int))) (
gd (decide (0 ≤ x35c1)) (gd (decide (x35c1 < (8 : Int))) (
stC x55b (x55o + x35c0.toNat * 8 + x35c1.toNat * 1) (I x35c2) (
ret (.norm [I (wr (x32 + 1))]))))))))))))) (
ret (.exit 2 [])))) [I 0]) fun vs_2 =>
nl vs_2 (
ret (.ret [.bool true]))))))

def a26 : Ann := (.n none .z (.n none (.n none .z (.n (some []) (.n (some [.t 12 (.sc (.ki .i64))]) .z .z) .z)) (.n none (.n none .z (.n (some []) (.n (some [.t 32 (.sc (.ki .i64))]) .z .z) .z)) .z)))

def e26 (D : HV → List HV → M HV) : Env := ⟨lk [], D, fun _ => none⟩

/-- countermand/witness.Replays -/
def s15 (D : HV → List HV → M HV) (args : List HV) : M HV :=
fin (
uL args fun x0 r =>
uL r fun x1 r_1 =>
nl r_1 (
jn (
cond (decide ((x0.len : Int) > 160)) (
ret (.norm [.bool true])) (
cond ((x1.len : Int) != (x0.len : Int)) (
ret (.norm [.bool true])) (
bnd (s16 D [.sl x0]) fun r_2 =>
asB r_2 fun x21 =>
ret (.norm [.bool (!x21)])))) fun vs =>
uB vs fun x23 r_3 =>
nl r_3 (
cond x23 (
ret (.ret [.bool false])) (
nw [I 0, I 0, I 0, I 0, I 0, I 0, I 0, I 0, I 0, I 0, I 0, I 0, I 0, I 0, I 0, I 0, I 0, I 0, I 0, I 0, I 0, I 0, I 0, I 0] fun b5 =>
gd (decide (0 ≤ (x0.len : Int))) (gd (decide ((x0.len : Int) ≤ (x0.len : Int))) (gd (decide ((x0.len : Int).toNat * 1 ≤ room)) (
nw (repL (x0.len : Int).toNat [.bool false]) fun b26 =>
blk 0 (
loopD (fun vs_2 =>
uI .i64 vs_2 fun x29 r_4 =>
nl r_4 (
cond (decide (x29 < (x1.len : Int))) (
ix x1 x29 1 fun x31b x31o =>
ldC x31b x31o fun v => asI .i64 v fun x32 =>
jn (
cond (decide (x32 < 0)) (
ret (.norm [.bool true])) (
cond (decide (x32 ≥ (x0.len : Int))) (
ret (.norm [.bool true])) (
ix (⟨some (b26, 0), (x0.len : Int).toNat, (x0.len : Int).toNat, none⟩) x32 1 fun x44b x44o =>
ldC x44b x44o fun v_1 => asB v_1 fun x45 =>
cond x45 (
ret (.norm [.bool true])) (
ix x0 x32 2 fun x50b x50o =>
ldN x50b x50o 2 fun x51l =>
uL x51l fun x51c0 r_5 =>
uL r_5 fun x51c1 r_6 =>
nl r_6 (
bnd (s26 D [.ptr (some (b5, 0)), .agg [.sl x51c0, .sl x51c1]]) fun r_7 =>
asB r_7 fun x52 =>
ret (.norm [.bool (!x52)])))))) fun vs_3 =>
uB vs_3 fun x54 r_8 =>
nl r_8 (
cond x54 (
ret (.ret [.bool false])) (
ix (⟨some (b26, 0), (x0.len : Int).toNat, (x0.len : Int).toNat, none⟩) x32 1 fun x57b x57o =>
stC x57b x57o (.bool true) (
ret (.norm [I (wr (x29 + 1))]))))) (
ret (.exit 0 [])))) [I 0]) fun vs_1 =>
nl vs_1 (
ret (.ret [.bool true])))))))))

def a15 : Ann := (.n none .z (.n none (.n none (.n (some [.t 23 (.sc .kb)]) .z .z) .z) (.n none .z (.n none .z (.n none (.n none .z (.n (some []) (.n (some [.t 29 (.sc (.ki .i64))]) (.n none .z (.n none .z (.n none (.n none (.n none .z (.n none (.n none (.n (some [.t 54 (.sc .kb)]) .z .z) .z) .z)) .z) .z))) .z) .z)) .z)))))

def e15 (D : HV → List HV → M HV) : Env := ⟨lk [(16, s16 D), (26, s26 D)], D, fun _ => none⟩

/-- countermand/countermandlaw30.alive -/
def s8 (D : HV → List HV → M HV) (args : List HV) : M HV :=
fin (
nl args (
nw [I 0, I 0, I 0] fun b8 =>
nw [I 0, I 0, I 1] fun b11 =>
nw [I 0, I 0, I 2] fun b15 =>
nw [.sl (⟨some (b8, 0), 1, 1, none⟩), .sl (⟨some (b11, 0), 1, 1, none⟩), .sl (⟨some (b8, 0), 1, 1, none⟩), .sl (⟨some (b15, 0), 1, 1, none⟩)] fun b17 =>
bnd (s10 D [.sl (⟨some (b17, 0), 2, 2, none⟩)]) fun r =>
asT r fun x20l => uL x20l fun x20t0 r_1 =>
uI .i64 r_1 fun x20t1 r_2 =>
nl r_2 (
gd (decide (0 ≤ 0)) (gd (decide (0 ≤ 1)) (gd (decide (1 ≤ (2 : Int))) (gd (decide ((2 : Int) ≤ (2 : Int))) (gd (slOk none 2 (decide (0 < (2 : Int)))) (
bnd (s10 D [.sl (⟨bif decide ((2 : Int) = 0) then some (b17, 0) else (some (b17, 0)).map (fun q => (q.1, q.2 + (0 : Int).toNat * 2)), (1 - 0 : Int).toNat, ((2 : Int) - 0 : Int).toNat, none⟩)]) fun r_3 =>
asT r_3 fun x26l => uL x26l fun x26t0 r_4 =>
uI .i64 r_4 fun x26t1 r_5 =>
nl r_5 (
jn (
cond (x20t1 == 5) (
cond (x26t1 == 0) (
cond ((x26t0.len : Int) == 1) (
ix x26t0 0 1 fun x42b x42o =>
ldC x42b x42o fun v => asI .i64 v fun x43 =>
cond (x43 == 0) (
gd (decide (0 ≤ 0)) (gd (decide (0 ≤ 1)) (gd (decide (1 ≤ (2 : Int))) (gd (decide ((2 : Int) ≤ (2 : Int))) (gd (slOk none 2 (decide (0 < (2 : Int)))) (
bnd (s15 D [.sl (⟨bif decide ((2 : Int) = 0) then some (b17, 0) else (some (b17, 0)).map (fun q => (q.1, q.2 + (0 : Int).toNat * 2)), (1 - 0 : Int).toNat, ((2 : Int) - 0 : Int).toNat, none⟩), .sl x26t0]) fun r_6 =>
asB r_6 fun x50 =>
ret (.norm [.bool x50]))))))) (
ret (.norm [.bool false]))) (
ret (.norm [.bool false]))) (
ret (.norm [.bool false]))) (
ret (.norm [.bool false]))) fun vs =>
uB vs fun x0 r_7 =>
nl r_7 (
ret (.ret [.bool x0])))))))))))

def a8 : Ann := (.n none .z (.n none .z (.n none .z (.n none .z (.n none .z (.n none (.n (some [.t 0 (.sc .kb)]) .z .z) .z))))))

def e8 (D : HV → List HV → M HV) : Env := ⟨lk [(10, s10 D), (15, s15 D)], D, fun _ => none⟩

/-- countermand/countermandlaw30.great -/
def s9 (D : HV → List HV → M HV) (args : List HV) : M HV :=
fin (
uL args fun x0 r =>
nl r (
cond (decide ((x0.len : Int) > 40)) (
ret (.ret [.bool true])) (
blk 0 (
loopD (fun vs_1 =>
uI .i64 vs_1 fun x10 r_1 =>
nl r_1 (
cond (decide (x10 < (x0.len : Int))) (
ix x0 x10 2 fun x12b x12o =>
ldN x12b x12o 2 fun x13l =>
uL x13l fun x13c0 r_2 =>
uL r_2 fun x13c1 r_3 =>
nl r_3 (
jn (
cond (decide ((x13c0.len : Int) > 30)) (
ret (.norm [.bool true])) (
ret (.norm [.bool (decide ((x13c1.len : Int) > 30))]))) fun vs_2 =>
uB vs_2 fun x23 r_4 =>
nl r_4 (
cond x23 (
ret (.ret [.bool true])) (
ret (.norm [I (wr (x10 + 1))]))))) (
ret (.exit 0 [])))) [I 0]) fun vs =>
nl vs (
ret (.ret [.bool false])))))

def a9 : Ann := (.n none .z (.n none .z (.n none (.n none .z (.n (some []) (.n (some [.t 10 (.sc (.ki .i64))]) (.n none .z (.n none .z (.n none (.n none (.n none .z (.n none (.n (some [.t 23 (.sc .kb)]) .z .z) .z)) .z) .z))) .z) .z)) .z)))

def e9 (D : HV → List HV → M HV) : Env := ⟨lk [], D, fun _ => none⟩

/-- countermand/countermandlaw30.entries -/
def s20 (D : HV → List HV → M HV) (args : List HV) : M HV :=
fin (
uL args fun x0 r =>
nl r (
blk 0 (
loopD (fun vs_1 =>
uL vs_1 fun x3 r_1 =>
uI .i64 r_1 fun x8 r_2 =>
nl r_2 (
cond (decide (x8 < (x0.len : Int))) (
ix x0 x8 3 fun x10b x10o =>
ldN x10b x10o 3 fun x11l =>
uI .i64 x11l fun x11c0 r_3 =>
uI .i64 r_3 fun x11c1 r_4 =>
uI .i64 r_4 fun x11c2 r_5 =>
nl r_5 (
apd x3 3 24 1 [I x11c0, I x11c1, I x11c2] fun x21 =>
ret (.norm [.sl x21, I (wr (x8 + 1))]))) (
ret (.exit 0 [.sl x3])))) [.sl (⟨none, 0, 0, none⟩), I 0]) fun vs =>
uL vs fun x3_1 r_6 =>
nl r_6 (
ret (.ret [.sl x3_1]))))

def a20 : Ann := (.n none .z (.n none .z (.n none (.n none .z (.n (some [.t 3 (.sc .kl)]) (.n (some [.t 3 (.sc .kl), .t 8 (.sc (.ki .i64))]) .z .z) .z)) .z)))

def e20 (D : HV → List HV → M HV) : Env := ⟨lk [], D, fun _ => none⟩

/-- countermand/countermandlaw30.deeds -/
def s11 (D : HV → List HV → M HV) (args : List HV) : M HV :=
fin (
uL args fun x0 r =>
nl r (
blk 0 (
loopD (fun vs_1 =>
uL vs_1 fun x3 r_1 =>
uI .i64 r_1 fun x8 r_2 =>
nl r_2 (
cond (decide (x8 < (x0.len : Int))) (
ix x0 x8 2 fun x10b x10o =>
ldN x10b x10o 2 fun x11l =>
uL x11l fun x11c0 r_3 =>
uL r_3 fun x11c1 r_4 =>
nl r_4 (
bnd (s20 D [.sl x11c0]) fun r_5 =>
asSl r_5 fun x15 =>
bnd (s20 D [.sl x11c1]) fun r_6 =>
asSl r_6 fun x18 =>
apd x3 2 48 1 [.sl x15, .sl x18] fun x21 =>
ret (.norm [.sl x21, I (wr (x8 + 1))]))) (
ret (.exit 0 [.sl x3])))) [.sl (⟨none, 0, 0, none⟩), I 0]) fun vs =>
uL vs fun x3_1 r_7 =>
nl r_7 (
ret (.ret [.sl x3_1]))))

def a11 : Ann := (.n none .z (.n none .z (.n none (.n none .z (.n (some [.t 3 (.sc .kl)]) (.n (some [.t 3 (.sc .kl), .t 8 (.sc (.ki .i64))]) .z .z) .z)) .z)))

def e11 (D : HV → List HV → M HV) : Env := ⟨lk [(20, s20 D)], D, fun _ => none⟩

/-- countermand/countermandref30.Right -/
def s21 (D : HV → List HV → M HV) (args : List HV) : M HV :=
fin (
uL args fun x0 r =>
uI .i64 r fun x1 r_1 =>
nl r_1 (
cond (decide ((x0.len : Int) > 24)) (
ret (.ret [.bool false])) (
blk 0 (
loopD (fun vs_1 =>
uI .i64 vs_1 fun x13 r_2 =>
uA r_2 fun y5 r_3 =>
nl r_3 (
cond (decide (x13 < (x0.len : Int))) (
ix x0 x13 3 fun x15b x15o =>
ldN x15b x15o 3 fun x16l =>
uI .i64 x16l fun x16c0 r_4 =>
uI .i64 r_4 fun x16c1 r_5 =>
uI .i64 r_5 fun x16c2 r_6 =>
nl r_6 (
jn (
cond (decide (x16c0 < 0)) (
ret (.norm [.bool true])) (
cond (decide (x16c0 > 2)) (
ret (.norm [.bool true])) (
cond (decide (x16c1 < 0)) (
ret (.norm [.bool true])) (
cond (decide (x16c1 > 7)) (
ret (.norm [.bool true])) (
cond (decide (x16c2 < x1)) (
ret (.norm [.bool true])) (
gd (decide (0 ≤ x16c0)) (gd (decide (x16c0 < (3 : Int))) (
gd (decide (0 ≤ x16c1)) (gd (decide (x16c1 < (8 : Int))) (
gx y5 (0 + x16c0.toNat * 8 + x16c1.toNat * 1) fun v => asB v fun x48 =>
ret (.norm [.bool x48]))))))))))) fun vs_2 =>
uB vs_2 fun x49 r_7 =>
nl r_7 (
cond x49 (
ret (.ret [.bool false])) (
gd (decide (0 ≤ x16c0)) (gd (decide (x16c0 < (3 : Int))) (
gd (decide (0 ≤ x16c1)) (gd (decide (x16c1 < (8 : Int))) (
gd (decide (0 + x16c0.toNat * 8 + x16c1.toNat * 1 < y5.length)) (
ret (.norm [I (wr (x13 + 1)), .agg (List.set y5 (0 + x16c0.toNat * 8 + x16c1.toNat * 1) (.bool true))])))))))))) (
ret (.exit 0 [.agg y5])))) [I 0, .agg [.bool false, .bool false, .bool false, .bool false, .bool false, .bool false, .bool false, .bool false, .bool false, .bool false, .bool false, .bool false, .bool false, .bool false, .bool false, .bool false, .bool false, .bool false, .bool false, .bool false, .bool false, .bool false, .bool false, .bool false]]) fun vs =>
uA vs fun y5_1 r_8 =>
nl r_8 (
ret (.ret [.bool true])))))

def a21 : Ann := (.n none .z (.n none .z (.n none .z (.n none (.n none .z (.n (some [.x 5 none]) (.n (some [.t 13 (.sc (.ki .i64)), .x 5 none]) (.n none .z (.n none .z (.n none (.n none (.n none .z (.n none (.n none (.n (some [.t 49 (.sc .kb)]) .z .z) .z) .z)) .z) .z))) .z) .z)) .z))))

def e21 (D : HV → List HV → M HV) : Env := ⟨lk [], D, fun _ => none⟩

/-- countermand/countermandref30.Wrote -/
def s22 (D : HV → List HV → M HV) (args : List HV) : M HV :=
fin (
uL args fun x0 r =>
uA r fun x1l r_1 =>
uI .i64 x1l fun x1c0 r_2 =>
uI .i64 r_2 fun x1c1 r_3 =>
uI .i64 r_3 fun x1c2 r_4 =>
nl r_4 (
nl r_1 (
blk 0 (
loopD (fun vs_1 =>
uI .i64 vs_1 fun x5 r_5 =>
uI .i64 r_5 fun x12 r_6 =>
nl r_6 (
cond (decide (x12 < (x0.len : Int))) (
ix x0 x12 2 fun x14b x14o =>
ldN x14b x14o 2 fun x15l =>
uL x15l fun x15c0 r_7 =>
uL r_7 fun x15c1 r_8 =>
nl r_8 (
blk 2 (
loopD (fun vs_3 =>
uI .i64 vs_3 fun x5_1 r_9 =>
uI .i64 r_9 fun x19 r_10 =>
nl r_10 (
cond (decide (x19 < (x15c1.len : Int))) (
blk 3 (
ix x15c1 x19 3 fun x21b x21o =>
ldN x21b x21o 3 fun x22l =>
uI .i64 x22l fun x22c0 r_11 =>
uI .i64 r_11 fun x22c1 r_12 =>
uI .i64 r_12 fun x22c2 r_13 =>
nl r_13 (
cond (cond (x22c0 == x1c0) (cond (x22c1 == x1c1) (cond (x22c2 == x1c2) true false) false) false) (
ret (.norm [I (wr (x5_1 + 1))])) (
ret (.norm [I x5_1])))) fun vs_4 =>
uI .i64 vs_4 fun x5_2 r_14 =>
nl r_14 (
ret (.norm [I x5_2, I (wr (x19 + 1))]))) (
ret (.exit 2 [I x5_1])))) [I x5, I 0]) fun vs_2 =>
uI .i64 vs_2 fun x5_3 r_15 =>
nl r_15 (
ret (.norm [I x5_3, I (wr (x12 + 1))])))) (
ret (.exit 0 [I x5])))) [I 0, I 0]) fun vs =>
uI .i64 vs fun x5_4 r_16 =>
nl r_16 (
ret (.ret [I x5_4])))))

def a22 : Ann := (.n none .z (.n none .z (.n none (.n none .z (.n (some [.t 5 (.sc (.ki .i64))]) (.n (some [.t 5 (.sc (.ki .i64)), .t 12 (.sc (.ki .i64))]) (.n none .z (.n none .z (.n none (.n none (.n none .z (.n none .z (.n (some [.t 5 (.sc (.ki .i64))]) (.n (some [.t 5 (.sc (.ki .i64)), .t 19 (.sc (.ki .i64))]) (.n none .z (.n none .z (.n none (.n (some [.t 5 (.sc (.ki .i64))]) .z .z) .z))) .z) .z))) .z) .z))) .z) .z)) .z)))

def e22 (D : HV → List HV → M HV) : Env := ⟨lk [], D, fun _ => none⟩

/-- countermand/countermandref30.Can -/
def s12 (D : HV → List HV → M HV) (args : List HV) : M HV :=
fin (
uL args fun x0 r =>
nl r (
blk 0 (
loopD (fun vs_1 =>
uI .i64 vs_1 fun x13 r_1 =>
nl r_1 (
cond (decide (x13 < (x0.len : Int))) (
ix x0 x13 2 fun x15b x15o =>
ldN x15b x15o 2 fun x16l =>
uL x16l fun x16c0 r_2 =>
uL r_2 fun x16c1 r_3 =>
nl r_3 (
jn (
bnd (s21 D [.sl x16c0, I 0]) fun r_4 =>
asB r_4 fun x19 =>
cond (!x19) (
ret (.norm [.bool true])) (
bnd (s21 D [.sl x16c1, I 1]) fun r_5 =>
asB r_5 fun x24 =>
ret (.norm [.bool (!x24)]))) fun vs_2 =>
uB vs_2 fun x26 r_6 =>
nl r_6 (
cond x26 (
ret (.ret [.bool false])) (
ret (.norm [I (wr (x13 + 1))]))))) (
ret (.exit 0 [])))) [I 0]) fun vs =>
nl vs (
blk 2 (
loopD (fun vs_4 =>
uI .i64 vs_4 fun x30 r_7 =>
nl r_7 (
cond (decide (x30 < (x0.len : Int))) (
ix x0 x30 2 fun x32b x32o =>
ldN x32b x32o 2 fun x33l =>
uL x33l fun x33c0 r_8 =>
uL r_8 fun x33c1 r_9 =>
nl r_9 (
blk 4 (
loopD (fun vs_6 =>
uI .i64 vs_6 fun x37 r_10 =>
nl r_10 (
cond (decide (x37 < (x33c1.len : Int))) (
ix x33c1 x37 3 fun x39b x39o =>
ldN x39b x39o 3 fun x40l =>
uI .i64 x40l fun x40c0 r_11 =>
uI .i64 r_11 fun x40c1 r_12 =>
uI .i64 r_12 fun x40c2 r_13 =>
nl r_13 (
bnd (s22 D [.sl x0, .agg [I x40c0, I x40c1, I x40c2]]) fun r_14 =>
asI .i64 r_14 fun x43 =>
cond (decide (x43 > 1)) (
ret (.ret [.bool false])) (
ret (.norm [I (wr (x37 + 1))])))) (
ret (.exit 4 [])))) [I 0]) fun vs_5 =>
nl vs_5 (
blk 6 (
loopD (fun vs_8 =>
uI .i64 vs_8 fun x49 r_15 =>
nl r_15 (
cond (decide (x49 < (x33c0.len : Int))) (
ix x33c0 x49 3 fun x51b x51o =>
ldN x51b x51o 3 fun x52l =>
uI .i64 x52l fun x52c0 r_16 =>
uI .i64 r_16 fun x52c1 r_17 =>
uI .i64 r_17 fun x52c2 r_18 =>
nl r_18 (
jn (
cond (decide (x52c2 > 0)) (
bnd (s22 D [.sl x0, .agg [I x52c0, I x52c1, I x52c2]]) fun r_19 =>
asI .i64 r_19 fun x59 =>
ret (.norm [.bool (x59 == 0)])) (
ret (.norm [.bool false]))) fun vs_9 =>
uB vs_9 fun x61 r_20 =>
nl r_20 (
cond x61 (
ret (.ret [.bool false])) (
ret (.norm [I (wr (x49 + 1))]))))) (
ret (.exit 6 [])))) [I 0]) fun vs_7 =>
nl vs_7 (
ret (.norm [I (wr (x30 + 1))]))))) (
ret (.exit 2 [])))) [I 0]) fun vs_3 =>
nl vs_3 (
ret (.ret [.bool true])))))

def a12 : Ann := (.n none .z (.n none (.n none .z (.n (some []) (.n (some [.t 13 (.sc (.ki .i64))]) (.n none .z (.n none .z (.n none (.n none (.n none .z (.n none (.n (some [.t 26 (.sc .kb)]) .z .z) .z)) .z) .z))) .z) .z)) (.n none (.n none .z (.n (some []) (.n (some [.t 30 (.sc (.ki .i64))]) (.n none .z (.n none .z (.n none (.n none (.n none .z (.n none (.n none .z (.n (some []) (.n (some [.t 37 (.sc (.ki .i64))]) .z .z) .z)) (.n none .z (.n (some []) (.n (some [.t 49 (.sc (.ki .i64))]) (.n none .z (.n none .z (.n none (.n none (.n none .z (.n none (.n (some [.t 61 (.sc .kb)]) .z .z) .z)) .z) .z))) .z) .z)))) .z) .z))) .z) .z)) .z)))

def e12 (D : HV → List HV → M HV) : Env := ⟨lk [(21, s21 D), (22, s22 D)], D, fun _ => none⟩

/-- countermand/countermandref30.Next -/
def s23 (D : HV → List HV → M HV) (args : List HV) : M HV :=
fin (
uA args fun x0l r =>
uA r fun x1l r_1 =>
uL x1l fun x1c0 r_2 =>
uL r_2 fun x1c1 r_3 =>
nl r_3 (
nl r_1 (
blk 0 (
loopD (fun vs_1 =>
uI .i64 vs_1 fun x12 r_4 =>
nl r_4 (
cond (decide (x12 < (x1c0.len : Int))) (
ix x1c0 x12 3 fun x14b x14o =>
ldN x14b x14o 3 fun x15l =>
uI .i64 x15l fun x15c0 r_5 =>
uI .i64 r_5 fun x15c1 r_6 =>
uI .i64 r_6 fun x15c2 r_7 =>
nl r_7 (
gd (decide (0 ≤ x15c0)) (gd (decide (x15c0 < (3 : Int))) (
gd (decide (0 ≤ x15c1)) (gd (decide (x15c1 < (8 : Int))) (
gx x0l (0 + x15c0.toNat * 8 + x15c1.toNat * 1) fun v => asI .i64 v fun x22 =>
cond (x22 != x15c2) (
ret (.ret [.bool false])) (
ret (.norm [I (wr (x12 + 1))])))))))) (
ret (.exit 0 [])))) [I 0]) fun vs =>
nl vs (
blk 2 (
loopD (fun vs_3 =>
uI .i64 vs_3 fun x30 r_8 =>
nl r_8 (
cond (decide (x30 < (x1c1.len : Int))) (
ix x1c1 x30 3 fun x32b x32o =>
ldN x32b x32o 3 fun x33l =>
uI .i64 x33l fun x33c0 r_9 =>
uI .i64 r_9 fun x33c1 r_10 =>
uI .i64 r_10 fun x33c2 r_11 =>
nl r_11 (
gd (decide (0 ≤ x33c0)) (gd (decide (x33c0 < (3 : Int))) (
gd (decide (0 ≤ x33c1)) (gd (decide (x33c1 < (8 : Int))) (
gx x0l (0 + x33c0.toNat * 8 + x33c1.toNat * 1) fun v_1 => asI .i64 v_1 fun x40 =>
cond (decide (x40 ≥ x33c2)) (
ret (.ret [.bool false])) (
ret (.norm [I (wr (x30 + 1))])))))))) (
ret (.exit 2 [])))) [I 0]) fun vs_2 =>
nl vs_2 (
ret (.ret [.bool true]))))))

def a23 : Ann := (.n none .z (.n none (.n none .z (.n (some []) (.n (some [.t 12 (.sc (.ki .i64))]) .z .z) .z)) (.n none (.n none .z (.n (some []) (.n (some [.t 30 (.sc (.ki .i64))]) .z .z) .z)) .z)))

def e23 (D : HV → List HV → M HV) : Env := ⟨lk [], D, fun _ => none⟩

/-- countermand/countermandref30.Needs -/
def s24 (D : HV → List HV → M HV) (args : List HV) : M HV :=
fin (
uA args fun x0l r =>
uL x0l fun x0c0 r_1 =>
uL r_1 fun x0c1 r_2 =>
nl r_2 (
uA r fun x1l r_3 =>
uL x1l fun x1c0 r_4 =>
uL r_4 fun x1c1 r_5 =>
nl r_5 (
nl r_3 (
blk 0 (
loopD (fun vs_1 =>
uI .i64 vs_1 fun x14 r_6 =>
nl r_6 (
cond (decide (x14 < (x1c1.len : Int))) (
ix x1c1 x14 3 fun x16b x16o =>
ldN x16b x16o 3 fun x17l =>
uI .i64 x17l fun x17c0 r_7 =>
uI .i64 r_7 fun x17c1 r_8 =>
uI .i64 r_8 fun x17c2 r_9 =>
nl r_9 (
blk 2 (
loopD (fun vs_3 =>
uI .i64 vs_3 fun x21 r_10 =>
nl r_10 (
cond (decide (x21 < (x0c0.len : Int))) (
ix x0c0 x21 3 fun x23b x23o =>
ldN x23b x23o 3 fun x24l =>
uI .i64 x24l fun x24c0 r_11 =>
uI .i64 r_11 fun x24c1 r_12 =>
uI .i64 r_12 fun x24c2 r_13 =>
nl r_13 (
jn (
cond (x24c0 == x17c0) (
cond (x24c1 == x17c1) (
ret (.norm [.bool (decide (x24c2 < x17c2))])) (
ret (.norm [.bool false]))) (
ret (.norm [.bool false]))) fun vs_4 =>
uB vs_4 fun x43 r_14 =>
nl r_14 (
cond x43 (
ret (.ret [.bool true])) (
ret (.norm [I (wr (x21 + 1))]))))) (
ret (.exit 2 [])))) [I 0]) fun vs_2 =>
nl vs_2 (
blk 4 (
loopD (fun vs_6 =>
uI .i64 vs_6 fun x48 r_15 =>
nl r_15 (
cond (decide (x48 < (x0c1.len : Int))) (
ix x0c1 x48 3 fun x50b x50o =>
ldN x50b x50o 3 fun x51l =>
uI .i64 x51l fun x51c0 r_16 =>
uI .i64 r_16 fun x51c1 r_17 =>
uI .i64 r_17 fun x51c2 r_18 =>
nl r_18 (
jn (
cond (x51c0 == x17c0) (
cond (x51c1 == x17c1) (
ret (.norm [.bool (decide (x51c2 < x17c2))])) (
ret (.norm [.bool false]))) (
ret (.norm [.bool false]))) fun vs_7 =>
uB vs_7 fun x70 r_19 =>
nl r_19 (
cond x70 (
ret (.ret [.bool true])) (
ret (.norm [I (wr (x48 + 1))]))))) (
ret (.exit 4 [])))) [I 0]) fun vs_5 =>
nl vs_5 (
ret (.norm [I (wr (x14 + 1))]))))) (
ret (.exit 0 [])))) [I 0]) fun vs =>
nl vs (
ret (.ret [.bool false]))))))

def a24 : Ann := (.n none .z (.n none (.n none .z (.n (some []) (.n (some [.t 14 (.sc (.ki .i64))]) (.n none .z (.n none .z (.n none (.n none (.n none .z (.n none (.n none .z (.n (some []) (.n (some [.t 21 (.sc (.ki .i64))]) (.n none .z (.n none .z (.n none (.n none (.n none .z (.n none (.n (some [.t 43 (.sc .kb)]) .z .z) .z)) .z) .z))) .z) .z)) (.n none .z (.n (some []) (.n (some [.t 48 (.sc (.ki .i64))]) (.n none .z (.n none .z (.n none (.n none (.n none .z (.n none (.n (some [.t 70 (.sc .kb)]) .z .z) .z)) .z) .z))) .z) .z)))) .z) .z))) .z) .z)) .z))

def e24 (D : HV → List HV → M HV) : Env := ⟨lk [], D, fun _ => none⟩

/-- countermand/countermandref30.Done -/
def s25 (D : HV → List HV → M HV) (args : List HV) : M HV :=
fin (
uA args fun x0l r =>
uA r fun x1l r_1 =>
uL x1l fun x1c0 r_2 =>
uL r_2 fun x1c1 r_3 =>
nl r_3 (
nl r_1 (
blk 0 (
loopD (fun vs_1 =>
uI .i64 vs_1 fun x10 r_4 =>
uA r_4 fun y2 r_5 =>
nl r_5 (
cond (decide (x10 < (x1c1.len : Int))) (
ix x1c1 x10 3 fun x12b x12o =>
ldN x12b x12o 3 fun x13l =>
uI .i64 x13l fun x13c0 r_6 =>
uI .i64 r_6 fun x13c1 r_7 =>
uI .i64 r_7 fun x13c2 r_8 =>
nl r_8 (
gd (decide (0 ≤ x13c0)) (gd (decide (x13c0 < (3 : Int))) (
gd (decide (0 ≤ x13c1)) (gd (decide (x13c1 < (8 : Int))) (
gd (decide (0 + x13c0.toNat * 8 + x13c1.toNat * 1 < y2.length)) (
ret (.norm [I (wr (x10 + 1)), .agg (List.set y2 (0 + x13c0.toNat * 8 + x13c1.toNat * 1) (I x13c2))])))))))) (
ret (.exit 0 [.agg y2])))) [I 0, .agg x0l]) fun vs =>
uA vs fun y2_1 r_9 =>
nl r_9 (
gxN y2_1 0 24 fun x23l =>
gd (Nat.beq x23l.length 24) (
gd (Nat.ble (0 + x23l.length) ([I 0, I 0, I 0, I 0, I 0, I 0, I 0, I 0, I 0, I 0, I 0, I 0, I 0, I 0, I 0, I 0, I 0, I 0, I 0, I 0, I 0, I 0, I 0, I 0]).length) (
gxN (putN [I 0, I 0, I 0, I 0, I 0, I 0, I 0, I 0, I 0, I 0, I 0, I 0, I 0, I 0, I 0, I 0, I 0, I 0, I 0, I 0, I 0, I 0, I 0, I 0] 0 x23l) 0 24 fun z0l =>
ret (.ret [.agg z0l])))))))

def a25 : Ann := (.n none .z (.n none (.n none .z (.n (some [.x 2 none]) (.n (some [.t 10 (.sc (.ki .i64)), .x 2 none]) .z .z) .z)) .z))

def e25 (D : HV → List HV → M HV) : Env := ⟨lk [], D, fun _ => none⟩

/-- countermand/countermandref30.Serial -/
def s13 (D : HV → List HV → M HV) (args : List HV) : M HV :=
fin (
uL args fun x0 r =>
nl r (
gd (decide (0 ≤ (x0.len : Int))) (gd (decide ((x0.len : Int) ≤ (x0.len : Int))) (gd (decide ((x0.len : Int).toNat * 1 ≤ room)) (
nw (repL (x0.len : Int).toNat [.bool false]) fun b14 =>
blk 0 (
loopD (fun vs_1 =>
uL vs_1 fun x5 r_1 =>
uI .i64 r_1 fun x17 r_2 =>
uA r_2 fun y4 r_3 =>
nl r_3 (
cond (decide (x17 < (x0.len : Int))) (
blk 2 (
loopD (fun vs_3 =>
uI .i64 vs_3 fun x7 r_4 =>
uI .i64 r_4 fun x8 r_5 =>
nl r_5 (
cond (decide (x8 ≥ 0)) (
blk 3 (
jn (
ix (⟨some (b14, 0), (x0.len : Int).toNat, (x0.len : Int).toNat, none⟩) x8 1 fun x28b x28o =>
ldC x28b x28o fun v => asB v fun x29 =>
cond x29 (
ret (.norm [.bool true])) (
gxN y4 0 24 fun x31l =>
ix x0 x8 2 fun x34b x34o =>
ldN x34b x34o 2 fun x35l =>
uL x35l fun x35c0 r_6 =>
uL r_6 fun x35c1 r_7 =>
nl r_7 (
bnd (s23 D [.agg x31l, .agg [.sl x35c0, .sl x35c1]]) fun r_8 =>
asB r_8 fun x36 =>
ret (.norm [.bool (!x36)])))) fun vs_5 =>
uB vs_5 fun x38 r_9 =>
nl r_9 (
cond x38 (
ret (.exit 3 [I x7])) (
blk 4 (
loopD (fun vs_7 =>
uB vs_7 fun x9 r_10 =>
uI .i64 r_10 fun x41 r_11 =>
nl r_11 (
cond (decide (x41 < (x0.len : Int))) (
blk 5 (
ix x0 x41 2 fun x44b x44o =>
ldN x44b x44o 2 fun x45l =>
uL x45l fun x45c0 r_12 =>
uL r_12 fun x45c1 r_13 =>
nl r_13 (
jn (
cond (x41 != x8) (
ix (⟨some (b14, 0), (x0.len : Int).toNat, (x0.len : Int).toNat, none⟩) x41 1 fun x52b x52o =>
ldC x52b x52o fun v_1 => asB v_1 fun x53 =>
cond (!x53) (
ix x0 x8 2 fun x60b x60o =>
ldN x60b x60o 2 fun x61l =>
uL x61l fun x61c0 r_14 =>
uL r_14 fun x61c1 r_15 =>
nl r_15 (
bnd (s24 D [.agg [.sl x45c0, .sl x45c1], .agg [.sl x61c0, .sl x61c1]]) fun r_16 =>
asB r_16 fun x62 =>
ret (.norm [.bool x62]))) (
ret (.norm [.bool false]))) (
ret (.norm [.bool false]))) fun vs_9 =>
uB vs_9 fun x63 r_17 =>
nl r_17 (
cond x63 (
ret (.norm [.bool false])) (
ret (.norm [.bool x9]))))) fun vs_8 =>
uB vs_8 fun x9_1 r_18 =>
nl r_18 (
ret (.norm [.bool x9_1, I (wr (x41 + 1))]))) (
ret (.exit 4 [.bool x9])))) [.bool true, I 0]) fun vs_6 =>
uB vs_6 fun x9_2 r_19 =>
nl r_19 (
cond x9_2 (
ret (.norm [I x8])) (
ret (.norm [I x7])))))) fun vs_4 =>
uI .i64 vs_4 fun x7_1 r_20 =>
nl r_20 (
ret (.norm [I x7_1, I (wr (x8 - 1))]))) (
ret (.exit 2 [I x7])))) [I (-1), I (wr ((x0.len : Int) - 1))]) fun vs_2 =>
uI .i64 vs_2 fun x7_2 r_21 =>
nl r_21 (
cond (decide (x7_2 < 0)) (
ret (.ret [.sl (⟨none, 0, 0, none⟩), .bool false])) (
ix (⟨some (b14, 0), (x0.len : Int).toNat, (x0.len : Int).toNat, none⟩) x7_2 1 fun x71b x71o =>
stC x71b x71o (.bool true) (
gxN y4 0 24 fun x72l =>
ix x0 x7_2 2 fun x75b x75o =>
ldN x75b x75o 2 fun x76l =>
uL x76l fun x76c0 r_22 =>
uL r_22 fun x76c1 r_23 =>
nl r_23 (
bnd (s25 D [.agg x72l, .agg [.sl x76c0, .sl x76c1]]) fun r_24 =>
asA r_24 fun x77l =>
gd (Nat.beq x77l.length 24) (
gd (Nat.ble (0 + x77l.length) y4.length) (
apd x5 1 8 1 [I x7_2] fun x81 =>
ret (.norm [.sl x81, I (wr (x17 + 1)), .agg (putN y4 0 x77l)])))))))) (
ret (.exit 0 [.sl x5, .agg y4])))) [.sl (⟨none, 0, 0, none⟩), I 0, .agg [I 0, I 0, I 0, I 0, I 0, I 0, I 0, I 0, I 0, I 0, I 0, I 0, I 0, I 0, I 0, I 0, I 0, I 0, I 0, I 0, I 0, I 0, I 0, I 0]]) fun vs =>
uL vs fun x5_1 r_25 =>
uA r_25 fun y4_1 r_26 =>
nl r_26 (
ret (.ret [.sl x5_1, .bool true])))))))

def a13 : Ann := (.n none .z (.n none .z (.n none .z (.n none .z (.n none (.n none .z (.n (some [.t 5 (.sc .kl), .x 4 none]) (.n (some [.t 5 (.sc .kl), .t 17 (.sc (.ki .i64)), .x 4 none]) (.n none .z (.n none .z (.n none (.n none (.n none .z (.n none (.n none .z (.n (some [.t 7 (.sc (.ki .i64))]) (.n (some [.t 7 (.sc (.ki .i64)), .t 8 (.sc (.ki .i64))]) (.n none .z (.n none (.n (some [.t 7 (.sc (.ki .i64))]) (.n none (.n none (.n (some [.t 38 (.sc .kb)]) .z .z) .z) (.n none .z (.n none (.n none .z (.n (some [.t 9 (.sc .kb)]) (.n (some [.t 9 (.sc .kb), .t 41 (.sc (.ki .i64))]) (.n none .z (.n none .z (.n none (.n (some [.t 9 (.sc .kb)]) (.n none .z (.n none (.n (some [.t 63 (.sc .kb)]) .z .z) .z)) .z) .z))) .z) .z)) .z))) .z) .z)) .z) .z)) .z)) .z) .z))) .z) .z)) .z)))))

def e13 (D : HV → List HV → M HV) : Env := ⟨lk [(23, s23 D), (24, s24 D), (25, s25 D)], D, fun _ => none⟩

/-- countermand/countermandlaw30.WitnessSerial -/
def s3 (D : HV → List HV → M HV) (args : List HV) : M HV :=
fin (
uL args fun x0 r =>
nl r (
bnd (s8 D []) fun r_1 =>
asB r_1 fun x8 =>
cond (!x8) (
ret (.ret [.bool false])) (
bnd (s9 D [.sl x0]) fun r_2 =>
asB r_2 fun x11 =>
cond x11 (
ret (.ret [.bool true])) (
bnd (s11 D [.sl x0]) fun r_3 =>
asSl r_3 fun x14 =>
bnd (s10 D [.sl x14]) fun r_4 =>
asT r_4 fun x15l => uL x15l fun x15t0 r_5 =>
uI .i64 r_5 fun x15t1 r_6 =>
nl r_6 (
bnd (s12 D [.sl x0]) fun r_7 =>
asB r_7 fun x19 =>
cond (!x19) (
jn (
cond ((x15t0.len : Int) == 0) (
ret (.norm [.bool (x15t1 == 1)])) (
ret (.norm [.bool false]))) fun vs =>
uB vs fun x2 r_8 =>
nl r_8 (
ret (.ret [.bool x2]))) (
bnd (s13 D [.sl x0]) fun r_9 =>
asT r_9 fun x30l => uL x30l fun x30t0 r_10 =>
uB r_10 fun x30t1 r_11 =>
nl r_11 (
cond (!x30t1) (
jn (
cond ((x15t0.len : Int) == 0) (
ret (.norm [.bool (x15t1 == 5)])) (
ret (.norm [.bool false]))) fun vs_1 =>
uB vs_1 fun x2_1 r_12 =>
nl r_12 (
ret (.ret [.bool x2_1]))) (
jn (
cond ((x15t0.len : Int) != (x30t0.len : Int)) (
ret (.norm [.bool true])) (
ret (.norm [.bool (x15t1 != 0)]))) fun vs_2 =>
uB vs_2 fun x50 r_13 =>
nl r_13 (
cond x50 (
ret (.ret [.bool false])) (
blk 0 (
loopD (fun vs_4 =>
uI .i64 vs_4 fun x53 r_14 =>
nl r_14 (
cond (decide (x53 < (x15t0.len : Int))) (
ix x15t0 x53 1 fun x58b x58o =>
ldC x58b x58o fun v => asI .i64 v fun x59 =>
ix x30t0 x53 1 fun x62b x62o =>
ldC x62b x62o fun v_1 => asI .i64 v_1 fun x63 =>
cond (x59 != x63) (
ret (.ret [.bool false])) (
ret (.norm [I (wr (x53 + 1))]))) (
ret (.exit 0 [])))) [I 0]) fun vs_3 =>
nl vs_3 (
ret (.ret [.bool true]))))))))))))

def a3 : Ann := (.n none .z (.n none .z (.n none .z (.n none .z (.n none (.n none .z (.n none (.n none (.n (some [.t 2 (.sc .kb)]) .z .z) .z) .z)) (.n none .z (.n none (.n none .z (.n none (.n none (.n (some [.t 2 (.sc .kb)]) .z .z) .z) .z)) (.n none (.n none (.n (some [.t 50 (.sc .kb)]) .z .z) .z) (.n none (.n none .z (.n (some []) (.n (some [.t 53 (.sc (.ki .i64))]) .z .z) .z)) .z)))))))))

def e3 (D : HV → List HV → M HV) : Env := ⟨lk [(8, s8 D), (9, s9 D), (10, s10 D), (11, s11 D), (12, s12 D), (13, s13 D)], D, fun _ => none⟩

/-- countermand/countermandref30.Replays -/
def s14 (D : HV → List HV → M HV) (args : List HV) : M HV :=
fin (
uL args fun x0 r =>
uL r fun x1 r_1 =>
nl r_1 (
cond ((x1.len : Int) != (x0.len : Int)) (
ret (.ret [.bool false])) (
blk 0 (
loopD (fun vs_1 =>
uI .i64 vs_1 fun x17 r_2 =>
uA r_2 fun y5 r_3 =>
nl r_3 (
cond (decide (x17 < (x1.len : Int))) (
ix x1 x17 1 fun x20b x20o =>
ldC x20b x20o fun v => asI .i64 v fun x21 =>
jn (
cond (decide (x21 < 0)) (
ret (.norm [.bool true])) (
cond (decide (x21 ≥ (x0.len : Int))) (
ret (.norm [.bool true])) (
gxN y5 0 24 fun x31l =>
ix x0 x21 2 fun x34b x34o =>
ldN x34b x34o 2 fun x35l =>
uL x35l fun x35c0 r_4 =>
uL r_4 fun x35c1 r_5 =>
nl r_5 (
bnd (s23 D [.agg x31l, .agg [.sl x35c0, .sl x35c1]]) fun r_6 =>
asB r_6 fun x36 =>
ret (.norm [.bool (!x36)]))))) fun vs_2 =>
uB vs_2 fun x38 r_7 =>
nl r_7 (
cond x38 (
ret (.ret [.bool false])) (
gd (decide (0 ≤ 0)) (gd (decide (0 ≤ x17)) (gd (decide (x17 ≤ (x1.cap : Int))) (gd (decide ((x1.cap : Int) ≤ (x1.cap : Int))) (gd (slOk x1.opn 1 (decide (0 < (x1.cap : Int)))) (
blk 2 (
loopD (fun vs_4 =>
uI .i64 vs_4 fun x43 r_8 =>
nl r_8 (
cond (decide (x43 < ((x17 - 0 : Int).toNat : Int))) (
ix (⟨bif decide ((x1.cap : Int) = 0) then x1.p else x1.p.map (fun q => (q.1, q.2 + (0 : Int).toNat * 1)), (x17 - 0 : Int).toNat, ((x1.cap : Int) - 0 : Int).toNat, x1.opn⟩) x43 1 fun x45b x45o =>
ldC x45b x45o fun v_1 => asI .i64 v_1 fun x46 =>
cond (x21 == x46) (
ret (.ret [.bool false])) (
ret (.norm [I (wr (x43 + 1))]))) (
ret (.exit 2 [])))) [I 0]) fun vs_3 =>
nl vs_3 (
gxN y5 0 24 fun x51l =>
ix x0 x21 2 fun x54b x54o =>
ldN x54b x54o 2 fun x55l =>
uL x55l fun x55c0 r_9 =>
uL r_9 fun x55c1 r_10 =>
nl r_10 (
bnd (s25 D [.agg x51l, .agg [.sl x55c0, .sl x55c1]]) fun r_11 =>
asA r_11 fun x56l =>
gd (Nat.beq x56l.length 24) (
gd (Nat.ble (0 + x56l.length) y5.length) (
ret (.norm [I (wr (x17 + 1)), .agg (putN y5 0 x56l)]))))))))))))) (
ret (.exit 0 [.agg y5])))) [I 0, .agg [I 0, I 0, I 0, I 0, I 0, I 0, I 0, I 0, I 0, I 0, I 0, I 0, I 0, I 0, I 0, I 0, I 0, I 0, I 0, I 0, I 0, I 0, I 0, I 0]]) fun vs =>
uA vs fun y5_1 r_12 =>
nl r_12 (
ret (.ret [.bool true])))))

def a14 : Ann := (.n none .z (.n none .z (.n none .z (.n none (.n none .z (.n (some [.x 5 none]) (.n (some [.t 17 (.sc (.ki .i64)), .x 5 none]) (.n none .z (.n none .z (.n none (.n none (.n none .z (.n none (.n none (.n (some [.t 38 (.sc .kb)]) .z .z) .z) (.n none (.n none .z (.n (some []) (.n (some [.t 43 (.sc (.ki .i64))]) .z .z) .z)) .z))) .z) .z))) .z) .z)) .z))))

def e14 (D : HV → List HV → M HV) : Env := ⟨lk [(23, s23 D), (25, s25 D)], D, fun _ => none⟩

/-- countermand/countermandlaw30.WitnessReplays -/
def s4 (D : HV → List HV → M HV) (args : List HV) : M HV :=
fin (
uL args fun x0 r =>
uL r fun x1 r_1 =>
nl r_1 (
bnd (s8 D []) fun r_2 =>
asB r_2 fun x6 =>
cond (!x6) (
ret (.ret [.bool false])) (
jn (
bnd (s9 D [.sl x0]) fun r_3 =>
asB r_3 fun x9 =>
cond x9 (
ret (.norm [.bool true])) (
ret (.norm [.bool (decide ((x1.len : Int) > 80))]))) fun vs =>
uB vs fun x14 r_4 =>
nl r_4 (
cond x14 (
ret (.ret [.bool true])) (
jn (
bnd (s12 D [.sl x0]) fun r_5 =>
asB r_5 fun x16 =>
cond x16 (
bnd (s14 D [.sl x0, .sl x1]) fun r_6 =>
asB r_6 fun x20 =>
ret (.norm [.bool x20])) (
ret (.norm [.bool false]))) fun vs_1 =>
uB vs_1 fun x5 r_7 =>
nl r_7 (
bnd (s11 D [.sl x0]) fun r_8 =>
asSl r_8 fun x23 =>
bnd (s15 D [.sl x23, .sl x1]) fun r_9 =>
asB r_9 fun x25 =>
ret (.ret [.bool (x25 == x5)])))))))

def a4 : Ann := (.n none .z (.n none .z (.n none (.n none (.n (some [.t 14 (.sc .kb)]) .z .z) .z) (.n none (.n (some [.t 5 (.sc .kb)]) .z .z) .z))))

def e4 (D : HV → List HV → M HV) : Env := ⟨lk [(8, s8 D), (9, s9 D), (11, s11 D), (12, s12 D), (14, s14 D), (15, s15 D)], D, fun _ => none⟩

/-- countermand/countermandlaw30.WitnessFinds -/
def s5 (D : HV → List HV → M HV) (args : List HV) : M HV :=
fin (
uL args fun x0 r =>
uL r fun x1 r_1 =>
nl r_1 (
bnd (s8 D []) fun r_2 =>
asB r_2 fun x8 =>
cond (!x8) (
ret (.ret [.bool false])) (
jn (
bnd (s9 D [.sl x0]) fun r_3 =>
asB r_3 fun x11 =>
cond x11 (
ret (.norm [.bool true])) (
ret (.norm [.bool (decide ((x1.len : Int) > 80))]))) fun vs =>
uB vs fun x16 r_4 =>
nl r_4 (
cond x16 (
ret (.ret [.bool true])) (
bnd (s11 D [.sl x0]) fun r_5 =>
asSl r_5 fun x18 =>
bnd (s10 D [.sl x18]) fun r_6 =>
asT r_6 fun x21l => uL x21l fun x21t0 r_7 =>
uI .i64 r_7 fun x21t1 r_8 =>
nl r_8 (
cond (x21t1 == 0) (
bnd (s15 D [.sl x18, .sl x21t0]) fun r_9 =>
asB r_9 fun x28 =>
ret (.ret [.bool x28])) (
bnd (s12 D [.sl x0]) fun r_10 =>
asB r_10 fun x30 =>
cond (!x30) (
jn (
cond (x21t1 == 1) (
bnd (s15 D [.sl x18, .sl x1]) fun r_11 =>
asB r_11 fun x37 =>
ret (.norm [.bool (!x37)])) (
ret (.norm [.bool false]))) fun vs_1 =>
uB vs_1 fun x4 r_12 =>
nl r_12 (
ret (.ret [.bool x4]))) (
jn (
cond (x21t1 == 5) (
bnd (s15 D [.sl x18, .sl x1]) fun r_13 =>
asB r_13 fun x45 =>
cond (!x45) (
bnd (s14 D [.sl x0, .sl x1]) fun r_14 =>
asB r_14 fun x51 =>
ret (.norm [.bool (!x51)])) (
ret (.norm [.bool false]))) (
ret (.norm [.bool false]))) fun vs_2 =>
uB vs_2 fun x4_1 r_15 =>
nl r_15 (
ret (.ret [.bool x4_1]))))))))))

def a5 : Ann := (.n none .z (.n none .z (.n none (.n none (.n (some [.t 16 (.sc .kb)]) .z .z) .z) (.n none .z (.n none .z (.n none .z (.n none (.n none .z (.n none (.n none (.n (some [.t 4 (.sc .kb)]) .z .z) .z) .z)) (.n none (.n (some [.t 4 (.sc .kb)]) .z .z) .z))))))))

def e5 (D : HV → List HV → M HV) : Env := ⟨lk [(8, s8 D), (9, s9 D), (10, s10 D), (11, s11 D), (12, s12 D), (14, s14 D), (15, s15 D)], D, fun _ => none⟩

/-- countermand/countermandlaw30.WitnessFirst -/
def s6 (D : HV → List HV → M HV) (args : List HV) : M HV :=
fin (
uL args fun x0 r =>
uL r fun x1 r_1 =>
nl r_1 (
bnd (s8 D []) fun r_2 =>
asB r_2 fun x8 =>
cond (!x8) (
ret (.ret [.bool false])) (
jn (
bnd (s9 D [.sl x0]) fun r_3 =>
asB r_3 fun x11 =>
cond x11 (
ret (.norm [.bool true])) (
cond (decide ((x1.len : Int) > 80)) (
ret (.norm [.bool true])) (
bnd (s12 D [.sl x0]) fun r_4 =>
asB r_4 fun x19 =>
cond (!x19) (
ret (.norm [.bool true])) (
bnd (s14 D [.sl x0, .sl x1]) fun r_5 =>
asB r_5 fun x25 =>
ret (.norm [.bool (!x25)]))))) fun vs =>
uB vs fun x27 r_6 =>
nl r_6 (
cond x27 (
ret (.ret [.bool true])) (
bnd (s11 D [.sl x0]) fun r_7 =>
asSl r_7 fun x30 =>
bnd (s10 D [.sl x30]) fun r_8 =>
asT r_8 fun x31l => uL x31l fun x31t0 r_9 =>
uI .i64 r_9 fun x31t1 r_10 =>
nl r_10 (
jn (
cond (x31t1 != 0) (
ret (.norm [.bool true])) (
ret (.norm [.bool ((x31t0.len : Int) != (x1.len : Int))]))) fun vs_1 =>
uB vs_1 fun x42 r_11 =>
nl r_11 (
cond x42 (
ret (.ret [.bool false])) (
blk 0 (
loopD (fun vs_3 =>
uI .i64 vs_3 fun x45 r_12 =>
nl r_12 (
cond (decide (x45 < (x31t0.len : Int))) (
ix x31t0 x45 1 fun x50b x50o =>
ldC x50b x50o fun v => asI .i64 v fun x51 =>
ix x1 x45 1 fun x54b x54o =>
ldC x54b x54o fun v_1 => asI .i64 v_1 fun x55 =>
cond (x51 != x55) (
ix x31t0 x45 1 fun x59b x59o =>
ldC x59b x59o fun v_2 => asI .i64 v_2 fun x60 =>
ix x1 x45 1 fun x63b x63o =>
ldC x63b x63o fun v_3 => asI .i64 v_3 fun x64 =>
ret (.ret [.bool (decide (x60 < x64))])) (
ret (.norm [I (wr (x45 + 1))]))) (
ret (.exit 0 [])))) [I 0]) fun vs_2 =>
nl vs_2 (
ret (.ret [.bool true]))))))))))

def a6 : Ann := (.n none .z (.n none .z (.n none (.n none (.n (some [.t 27 (.sc .kb)]) .z .z) .z) (.n none .z (.n none (.n none (.n (some [.t 42 (.sc .kb)]) .z .z) .z) (.n none (.n none .z (.n (some []) (.n (some [.t 45 (.sc (.ki .i64))]) .z .z) .z)) .z))))))

def e6 (D : HV → List HV → M HV) : Env := ⟨lk [(8, s8 D), (9, s9 D), (10, s10 D), (11, s11 D), (12, s12 D), (14, s14 D)], D, fun _ => none⟩

/-- countermand/countermandlaw30.WitnessLong -/
def s7 (D : HV → List HV → M HV) (args : List HV) : M HV :=
fin (
uI .i64 args fun x0 r =>
nl r (
bnd (s8 D []) fun r_1 =>
asB r_1 fun x9 =>
cond (!x9) (
ret (.ret [.bool false])) (
jn (
cond (decide (x0 < 0)) (
ret (.norm [.bool true])) (
ret (.norm [.bool (decide (x0 > 300))]))) fun vs =>
uB vs fun x16 r_2 =>
nl r_2 (
cond x16 (
ret (.ret [.bool true])) (
gd (decide (0 ≤ x0)) (gd (decide (x0 ≤ x0)) (gd (decide (x0.toNat * 48 ≤ room)) (
nw (repL x0.toNat [.sl (⟨none, 0, 0, none⟩), .sl (⟨none, 0, 0, none⟩)]) fun b18 =>
bnd (s10 D [.sl (⟨some (b18, 0), x0.toNat, x0.toNat, none⟩)]) fun r_3 =>
asT r_3 fun x21l => uL x21l fun x21t0 r_4 =>
uI .i64 r_4 fun x21t1 r_5 =>
nl r_5 (
cond (decide (x0 > 160)) (
jn (
cond ((x21t0.len : Int) == 0) (
cond (x21t1 == 3) (
gd (decide (0 ≤ x0)) (gd (decide (x0 ≤ x0)) (gd (decide (x0.toNat * 8 ≤ room)) (
nw (repL x0.toNat [I 0]) fun b36 =>
bnd (s15 D [.sl (⟨some (b18, 0), x0.toNat, x0.toNat, none⟩), .sl (⟨some (b36, 0), x0.toNat, x0.toNat, none⟩)]) fun r_6 =>
asB r_6 fun x37 =>
ret (.norm [.bool (!x37)]))))) (
ret (.norm [.bool false]))) (
ret (.norm [.bool false]))) fun vs_1 =>
uB vs_1 fun x2 r_7 =>
nl r_7 (
ret (.ret [.bool x2]))) (
jn (
cond (x21t1 != 0) (
ret (.norm [.bool true])) (
ret (.norm [.bool ((x21t0.len : Int) != x0)]))) fun vs_2 =>
uB vs_2 fun x47 r_8 =>
nl r_8 (
cond x47 (
ret (.ret [.bool false])) (
gd (decide (0 ≤ x0)) (gd (decide (x0 ≤ x0)) (gd (decide (x0.toNat * 8 ≤ room)) (
nw (repL x0.toNat [I 0]) fun b49 =>
blk 0 (
loopD (fun vs_4 =>
uI .i64 vs_4 fun x52 r_9 =>
nl r_9 (
cond (decide (x52 < (x21t0.len : Int))) (
ix x21t0 x52 1 fun x55b x55o =>
ldC x55b x55o fun v => asI .i64 v fun x56 =>
cond (x52 != x56) (
ret (.ret [.bool false])) (
ix (⟨some (b49, 0), x0.toNat, x0.toNat, none⟩) x52 1 fun x66b x66o =>
stC x66b x66o (I (wr ((wr (x0 - 1)) - x52))) (
ret (.norm [I (wr (x52 + 1))])))) (
ret (.exit 0 [])))) [I 0]) fun vs_3 =>
nl vs_3 (
jn (
bnd (s15 D [.sl (⟨some (b18, 0), x0.toNat, x0.toNat, none⟩), .sl x21t0]) fun r_10 =>
asB r_10 fun x70 =>
cond x70 (
bnd (s15 D [.sl (⟨some (b18, 0), x0.toNat, x0.toNat, none⟩), .sl (⟨some (b49, 0), x0.toNat, x0.toNat, none⟩)]) fun r_11 =>
asB r_11 fun x74 =>
ret (.norm [.bool x74])) (
ret (.norm [.bool false]))) fun vs_5 =>
uB vs_5 fun x2_1 r_12 =>
nl r_12 (
ret (.ret [.bool x2_1]))))))))))))))))))

def a7 : Ann := (.n none .z (.n none .z (.n none (.n none (.n (some [.t 16 (.sc .kb)]) .z .z) .z) (.n none .z (.n none .z (.n none (.n none .z (.n none (.n none (.n (some [.t 2 (.sc .kb)]) .z .z) .z) .z)) (.n none (.n none (.n (some [.t 47 (.sc .kb)]) .z .z) .z) (.n none .z (.n none (.n none .z (.n (some []) (.n (some [.t 52 (.sc (.ki .i64))]) .z .z) .z)) (.n none (.n (some [.t 2 (.sc .kb)]) .z .z) .z))))))))))

def e7 (D : HV → List HV → M HV) : Env := ⟨lk [(8, s8 D), (10, s10 D), (15, s15 D)], D, fun _ => none⟩

/-- countermand/witness.ahead -/
def s19 (D : HV → List HV → M HV) (args : List HV) : M HV :=
fin (
uA args fun x0l r =>
uL x0l fun x0c0 r_1 =>
uL r_1 fun x0c1 r_2 =>
nl r_2 (
uA r fun x1l r_3 =>
uL x1l fun x1c0 r_4 =>
uL r_4 fun x1c1 r_5 =>
nl r_5 (
nl r_3 (
jn (
bnd (s17 D [.sl x0c1, .sl x1c0, I 0]) fun r_6 =>
asB r_6 fun x9 =>
cond x9 (
ret (.norm [.bool true])) (
bnd (s17 D [.sl x0c1, .sl x1c1, I 1]) fun r_7 =>
asB r_7 fun x15 =>
cond x15 (
ret (.norm [.bool true])) (
bnd (s17 D [.sl x0c0, .sl x1c1, I 1]) fun r_8 =>
asB r_8 fun x22 =>
ret (.norm [.bool x22])))) fun vs =>
uB vs fun x4 r_9 =>
nl r_9 (
ret (.ret [.bool x4]))))))

def a19 : Ann := (.n none .z (.n none (.n (some [.t 4 (.sc .kb)]) .z .z) .z))

def e19 (D : HV → List HV → M HV) : Env := ⟨lk [(17, s17 D)], D, fun _ => none⟩

end Go.Proofs.Ythlfemjbeihmbaa.HL
