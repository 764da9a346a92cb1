/- Lemmas for the row. Conditions: none. -/
import Derived.Test.YtbphjihgbenkdaaGreatHQ5i
import Derived.Test.YtbphjihgbenkdaaGreatHQ5n
namespace Go.Proofs.YtbphjihgbenkdaaGreat.HQ
set_option linter.unusedVariables false
set_option linter.unusedSectionVars false
set_option linter.unusedSimpArgs false
open Go
set_option maxRecDepth 100000
noncomputable section
set_option linter.unusedVariables false
def f_disk_good (D : DD) (b : List HV) : M HV :=
fin (
uI .i64 b fun a r =>
nl r (
jn (
cond (a == 0) (
ret (.norm [.bool true])) (
ret (.norm [.bool (a == 1)]))) fun c =>
uB c fun d e =>
nl e (
ret (.ret [.bool d]))))
def f_disk_Disk_Read (D : DD) (c : List HV) : M HV :=
fin (
uP c fun b r =>
uI .i64 r fun a d =>
nl d (
jn (
cond (Option.isNone b) (
ret (.norm [.bool true])) (
bnd (f_disk_good D [I a]) fun e =>
asB e fun f =>
ret (.norm [.bool (!f)]))) fun g =>
uB g fun h i =>
nl i (
cond h (
ret (.ret [.str (ByteArray.mk #[])])) (
mP b fun j k =>
gd (decide (0 ≤ a)) (gd (decide (a < (2 : Int))) (
ldC j (k + a.toNat * 2) fun v => asS v fun l =>
ret (.ret [.str l])))))))
def f_wafer_foots (D : DD) (b : List HV) : M HV :=
fin (
uI .u32 b fun a r =>
nl r (
ret (.ret [.str (strB [IntKind.wrap .u8 a, IntKind.wrap .u8 (Int.fdiv a (2 ^ 8)), IntKind.wrap .u8 (Int.fdiv a (2 ^ 16)), IntKind.wrap .u8 (Int.fdiv a (2 ^ 24))])])))
def f_wafer_Sum (D : DD) (f : List HV) : M HV :=
fin (
uS f fun b r =>
nl r (
blk 0 (
loopD (fun g =>
uI .u32 g fun d h =>
uI .i64 h fun a i =>
nl i (
cond (decide (a < (b.size : Int))) (
gd (decide (0 ≤ a)) (gd (decide (a < (b.size : Int))) (
blk 2 (
loopD (fun j =>
uI .u32 j fun c k =>
uI .i64 k fun e l =>
nl l (
cond (decide (e < 8)) (
ret (.norm [.int .u32 (IntKind.wrap .u32 ((BitVec.ofInt 32 (Int.fdiv c (2 ^ 1)) ^^^ BitVec.ofInt 32 (IntKind.wrap .u32 ((BitVec.ofInt 32 2197175160 &&& BitVec.ofInt 32 (IntKind.wrap .u32 (0 - (IntKind.wrap .u32 ((BitVec.ofInt 32 c &&& BitVec.ofInt 32 1).toNat : Int))))).toNat : Int))).toNat : Int)), I (wr (e + 1))])) (
ret (.exit 2 [.int .u32 c])))) [.int .u32 (IntKind.wrap .u32 ((BitVec.ofInt 32 d ^^^ BitVec.ofInt 32 (IntKind.wrap .u32 ((b.data[a.toNat]?.getD 0).toNat : Int))).toNat : Int)), I 0]) fun m =>
uI .u32 m fun n o =>
nl o (
ret (.norm [.int .u32 n, I (wr (a + 1))]))))) (
ret (.exit 0 [.int .u32 d])))) [.int .u32 4294967295, I 0]) fun p =>
uI .u32 p fun q s =>
nl s (
ret (.ret [.int .u32 (IntKind.wrap .u32 ((BitVec.ofInt 32 (4294967295) ^^^ BitVec.ofInt 32 q).toNat : Int))]))))
def f_wafer_Open (D : DD) (b : List HV) : M HV :=
fin (
uS b fun a r =>
nl r (
cond (decide ((a.size : Int) < 2)) (
ret (.ret [.str (ByteArray.mk #[]), I 0])) (
gd (decide (0 ≤ 0)) (gd (decide (0 < (a.size : Int))) (
gd (decide (0 ≤ 1)) (gd (decide (1 < (a.size : Int))) (
jn (
cond (decide ((wr ((BitVec.ofInt 64 (wr ((wr ((a.data[(0 : Int).toNat]?.getD 0).toNat : Int)) * 2 ^ 8)) ||| BitVec.ofInt 64 (wr ((a.data[(1 : Int).toNat]?.getD 0).toNat : Int))).toNat : Int)) > 1024)) (
ret (.norm [.bool true])) (
ret (.norm [.bool (decide ((a.size : Int) < (wr ((wr (2 + (wr ((BitVec.ofInt 64 (wr ((wr ((a.data[(0 : Int).toNat]?.getD 0).toNat : Int)) * 2 ^ 8)) ||| BitVec.ofInt 64 (wr ((a.data[(1 : Int).toNat]?.getD 0).toNat : Int))).toNat : Int)))) + 4))))]))) fun c =>
uB c fun d e =>
nl e (
cond d (
ret (.ret [.str (ByteArray.mk #[]), I 0])) (
gd (decide (0 ≤ 0)) (gd (decide (0 ≤ wr (2 + (wr ((BitVec.ofInt 64 (wr ((wr ((a.data[(0 : Int).toNat]?.getD 0).toNat : Int)) * 2 ^ 8)) ||| BitVec.ofInt 64 (wr ((a.data[(1 : Int).toNat]?.getD 0).toNat : Int))).toNat : Int))))) (gd (decide (wr (2 + (wr ((BitVec.ofInt 64 (wr ((wr ((a.data[(0 : Int).toNat]?.getD 0).toNat : Int)) * 2 ^ 8)) ||| BitVec.ofInt 64 (wr ((a.data[(1 : Int).toNat]?.getD 0).toNat : Int))).toNat : Int))) ≤ (a.size : Int))) (
bnd (f_wafer_Sum D [.str (a.extract (0 : Int).toNat (wr (2 + (wr ((BitVec.ofInt 64 (wr ((wr ((a.data[(0 : Int).toNat]?.getD 0).toNat : Int)) * 2 ^ 8)) ||| BitVec.ofInt 64 (wr ((a.data[(1 : Int).toNat]?.getD 0).toNat : Int))).toNat : Int)))).toNat)]) fun f =>
asI .u32 f fun g =>
bnd (f_wafer_foots D [.int .u32 g]) fun h =>
asS h fun i =>
gd (decide (0 ≤ wr (2 + (wr ((BitVec.ofInt 64 (wr ((wr ((a.data[(0 : Int).toNat]?.getD 0).toNat : Int)) * 2 ^ 8)) ||| BitVec.ofInt 64 (wr ((a.data[(1 : Int).toNat]?.getD 0).toNat : Int))).toNat : Int))))) (gd (decide (wr (2 + (wr ((BitVec.ofInt 64 (wr ((wr ((a.data[(0 : Int).toNat]?.getD 0).toNat : Int)) * 2 ^ 8)) ||| BitVec.ofInt 64 (wr ((a.data[(1 : Int).toNat]?.getD 0).toNat : Int))).toNat : Int))) ≤ wr ((wr (2 + (wr ((BitVec.ofInt 64 (wr ((wr ((a.data[(0 : Int).toNat]?.getD 0).toNat : Int)) * 2 ^ 8)) ||| BitVec.ofInt 64 (wr ((a.data[(1 : Int).toNat]?.getD 0).toNat : Int))).toNat : Int)))) + 4))) (gd (decide (wr ((wr (2 + (wr ((BitVec.ofInt 64 (wr ((wr ((a.data[(0 : Int).toNat]?.getD 0).toNat : Int)) * 2 ^ 8)) ||| BitVec.ofInt 64 (wr ((a.data[(1 : Int).toNat]?.getD 0).toNat : Int))).toNat : Int)))) + 4) ≤ (a.size : Int))) (
cond (!(i.toList == (a.extract (wr (2 + (wr ((BitVec.ofInt 64 (wr ((wr ((a.data[(0 : Int).toNat]?.getD 0).toNat : Int)) * 2 ^ 8)) ||| BitVec.ofInt 64 (wr ((a.data[(1 : Int).toNat]?.getD 0).toNat : Int))).toNat : Int)))).toNat (wr ((wr (2 + (wr ((BitVec.ofInt 64 (wr ((wr ((a.data[(0 : Int).toNat]?.getD 0).toNat : Int)) * 2 ^ 8)) ||| BitVec.ofInt 64 (wr ((a.data[(1 : Int).toNat]?.getD 0).toNat : Int))).toNat : Int)))) + 4)).toNat).toList)) (
ret (.ret [.str (ByteArray.mk #[]), I 0])) (
gd (decide (0 ≤ 2)) (gd (decide (2 ≤ wr (2 + (wr ((BitVec.ofInt 64 (wr ((wr ((a.data[(0 : Int).toNat]?.getD 0).toNat : Int)) * 2 ^ 8)) ||| BitVec.ofInt 64 (wr ((a.data[(1 : Int).toNat]?.getD 0).toNat : Int))).toNat : Int))))) (gd (decide (wr (2 + (wr ((BitVec.ofInt 64 (wr ((wr ((a.data[(0 : Int).toNat]?.getD 0).toNat : Int)) * 2 ^ 8)) ||| BitVec.ofInt 64 (wr ((a.data[(1 : Int).toNat]?.getD 0).toNat : Int))).toNat : Int))) ≤ (a.size : Int))) (
ret (.ret [.str (a.extract (2 : Int).toNat (wr (2 + (wr ((BitVec.ofInt 64 (wr ((wr ((a.data[(0 : Int).toNat]?.getD 0).toNat : Int)) * 2 ^ 8)) ||| BitVec.ofInt 64 (wr ((a.data[(1 : Int).toNat]?.getD 0).toNat : Int))).toNat : Int)))).toNat), I (wr ((wr (2 + (wr ((BitVec.ofInt 64 (wr ((wr ((a.data[(0 : Int).toNat]?.getD 0).toNat : Int)) * 2 ^ 8)) ||| BitVec.ofInt 64 (wr ((a.data[(1 : Int).toNat]?.getD 0).toNat : Int))).toNat : Int)))) + 4))]))))))))))))))))))))
def f_wafer_All_1 (D : DD) (c : List HV) : M HV :=
fin (
uc c fun d r =>
uP r fun e f =>
nl f (
mP e fun g h =>
ldC g h fun v => asS v fun i =>
loopD (fun j =>
uS j fun a k =>
nl k (
bnd (f_wafer_Open D [.str a]) fun l =>
asT l fun m => uS m fun n o =>
uI .i64 o fun b p =>
nl p (
jn (
cond (b == 0) (
ret (.norm [.bool true])) (
bnd (D d [.str n]) fun q =>
asB q fun s =>
ret (.norm [.bool (!s)]))) fun t =>
uB t fun u w =>
nl w (
cond u (
ret (.ret [])) (
gd (decide (0 ≤ b)) (gd (decide (b ≤ (a.size : Int))) (gd (decide ((a.size : Int) ≤ (a.size : Int))) (
ret (.norm [.str (a.extract b.toNat (a.size : Int).toNat)]))))))))) [.str i]))
def f_wafer_All (D : DD) (a : List HV) : M HV :=
fin (
uS a fun b r =>
nl r (
nw [.str b] fun c =>
ret (.ret [.func n_wafer_All_1 [] [.ptr (some (c, 0))]])))
def f_wafer_Whole (D : DD) (d : List HV) : M HV :=
fin (
uS d fun e r =>
nl r (
nw [I 0] fun b =>
stC b 0 (I 0) (
bnd (f_wafer_All D [.str e]) fun c =>
blk 0 (
ny c (nwL 94685864 [(3, .ptr (some (b, 0)))] fun l =>
bnd (D c [.yld l]) fun q =>
endL l (
ret (.norm []))
(onX 0 (ret (.exit 0 [])) noX) (
ret (.ret [I 0])))) fun f =>
nl f (
ldC b 0 fun v => asI .i64 v fun g =>
ret (.ret [I g])))))
def r0_wafer_Whole (D : DD) (l : Nat) (b : List (Nat × HV)) (c : List HV) : M Leaf :=
gdS [3] b fun vs' =>
uP vs' fun a r =>
nl r (
uS c fun d e =>
nl e (
busyL l (
mP a fun f g =>
ldC f g fun v => asI .i64 v fun h =>
mP a fun qb qo =>
stC qb qo (I (wr (h + (wr ((wr (2 + (d.size : Int))) + 4))))) (
ret (.norm [])))))
def f_wal_Open (D : DD) (e : List HV) : M HV :=
fin (
uP e fun b r =>
uI .i64 r fun a f =>
nl f (
cond (Option.isNone b) (
ret (.ret [.ptr none, I 2])) (
jn (
cond (a != 0) (
ret (.norm [.bool (a != 1)])) (
ret (.norm [.bool false]))) fun g =>
uB g fun h i =>
nl i (
cond h (
ret (.ret [.ptr none, I 1])) (
bnd (f_disk_Disk_Read D [.ptr b, I a]) fun j =>
asS j fun c =>
bnd (f_wafer_Whole D [.str c]) fun k =>
asI .i64 k fun d =>
nw [.ptr b, I a, I d, .bool (decide (d < (c.size : Int)))] fun l =>
ret (.ret [.ptr (some (l, 0)), I 0]))))))
def f_wal_Log_All_1 (D : DD) (e : List HV) : M HV :=
fin (
uc e fun c r =>
uP r fun b f =>
nl f (
nt c (nw (HV.cs c) fun g =>
mP b fun h i =>
ldC h i fun v => asP v fun j =>
cond (Option.isNone j) (
ret (.ret [])) (
mP b fun k m =>
ldC k m fun n => asP n fun o =>
mP o fun p s =>
ldC p s fun t => asP t fun u =>
mP b fun w x =>
ldC w x fun y => asP y fun z =>
mP z fun aa ab =>
ldC aa (ab + 1) fun ac => asI .i64 ac fun ad =>
bnd (f_disk_Disk_Read D [.ptr u, I ad]) fun ae =>
asS ae fun af =>
bnd (f_wafer_All D [.str af]) fun d =>
ny d (nwL 91115101 [(2, .ptr (some (g, 0)))] fun l =>
bnd (D d [.yld l]) fun q =>
endL l (
ret (.ret []))
(onX 0 (stk) noX) (
ret (.ret [])))))))
def r0_wal_Log_All_1 (D : DD) (l : Nat) (a : List (Nat × HV)) (b : List HV) : M Leaf :=
gdS [2] a fun vs' =>
uP vs' fun c r =>
nl r (
uS b fun d e =>
nl e (
busyL l (
mP c fun f g =>
ldC f g fun v => bnd (D v [.str d]) fun h =>
asB h fun i =>
cond (!i) (
ret (.ret [])) (
ret (.norm [])))))
def f_wal_Log_All (D : DD) (a : List HV) : M HV :=
fin (
uP a fun b r =>
nl r (
nw [.ptr b] fun c =>
ret (.ret [.func n_wal_Log_All_1 [] [.ptr (some (c, 0))]])))
def f_stylus_Of (D : DD) (a : List HV) : M HV :=
fin (
uS a fun b r =>
nl r (
nw [.str b, .bool false] fun c =>
ret (.ret [.ptr (some (c, 0))])))
def f_stylus_Reader_Spoil (D : DD) (b : List HV) : M HV :=
fin (
uP b fun a r =>
nl r (
cond (!(Option.isNone a)) (
mP a fun c d =>
stC c d (.str (ByteArray.mk #[])) (
mP a fun e f =>
stC e (f + 1) (.bool true) (
ret (.ret [])))) (
ret (.ret []))))
def f_stylus_Reader_Raw (D : DD) (e : List HV) : M HV :=
fin (
uP e fun b r =>
uI .i64 r fun a f =>
nl f (
jn (
cond (Option.isNone b) (
ret (.norm [.bool true])) (
mP b fun g h =>
ldC g (h + 1) fun v => asB v fun i =>
cond i (
ret (.norm [.bool true])) (
cond (decide (a < 0)) (
ret (.norm [.bool true])) (
mP b fun j k =>
ldC j k fun l => asS l fun m =>
ret (.norm [.bool (decide (a > (m.size : Int)))]))))) fun n =>
uB n fun o p =>
nl p (
cond o (
bnd (f_stylus_Reader_Spoil D [.ptr b]) fun q =>
asT q fun s => nl s (
ret (.ret [.str (ByteArray.mk #[])]))) (
mP b fun t u =>
ldC t u fun w => asS w fun d =>
gd (decide (0 ≤ 0)) (gd (decide (0 ≤ a)) (gd (decide (a ≤ (d.size : Int))) (
mP b fun x y =>
ldC x y fun z => asS z fun c =>
gd (decide (0 ≤ a)) (gd (decide (a ≤ (c.size : Int))) (gd (decide ((c.size : Int) ≤ (c.size : Int))) (
mP b fun aa ab =>
stC aa ab (.str (c.extract a.toNat (c.size : Int).toNat)) (
ret (.ret [.str (d.extract (0 : Int).toNat a.toNat)]))))))))))))
def f_stylus_Reader_word (D : DD) (e : List HV) : M HV :=
fin (
uP e fun c r =>
nl r (
blk 0 (
loopD (fun f =>
uI .u64 f fun d g =>
uI .i64 g fun b h =>
nl h (
cond (decide (b < 64)) (
bnd (f_stylus_Reader_Raw D [.ptr c, I 1]) fun i =>
asS i fun a =>
jn (
cond (a.toList == (ByteArray.mk #[]).toList) (
ret (.norm [.bool true])) (
cond (b == 63) (
gd (decide (0 ≤ 0)) (gd (decide (0 < (a.size : Int))) (
cond (decide (((a.data[(0 : Int).toNat]?.getD 0).toNat : Int) > 1)) (
ret (.norm [.bool true])) (
cond (decide (b > 0)) (
gd (decide (0 ≤ 0)) (gd (decide (0 < (a.size : Int))) (
ret (.norm [.bool (((a.data[(0 : Int).toNat]?.getD 0).toNat : Int) == 0)])))) (
ret (.norm [.bool false])))))) (
cond (decide (b > 0)) (
gd (decide (0 ≤ 0)) (gd (decide (0 < (a.size : Int))) (
ret (.norm [.bool (((a.data[(0 : Int).toNat]?.getD 0).toNat : Int) == 0)])))) (
ret (.norm [.bool false]))))) fun j =>
uB j fun k l =>
nl l (
cond k (
ret (.exit 0 [])) (
gd (decide (0 ≤ 0)) (gd (decide (0 < (a.size : Int))) (
gd (decide (0 ≤ b)) (
gd (decide (0 ≤ 0)) (gd (decide (0 < (a.size : Int))) (
cond (decide (((a.data[(0 : Int).toNat]?.getD 0).toNat : Int) < 128)) (
ret (.ret [.int .u64 (IntKind.wrap .u64 ((BitVec.ofInt 64 d ||| BitVec.ofInt 64 (IntKind.wrap .u64 ((IntKind.wrap .u64 (IntKind.wrap .u8 ((BitVec.ofInt 8 ((a.data[(0 : Int).toNat]?.getD 0).toNat : Int) &&& BitVec.ofInt 8 127).toNat : Int))) * 2 ^ (min b.toNat 64)))).toNat : Int))])) (
ret (.norm [.int .u64 (IntKind.wrap .u64 ((BitVec.ofInt 64 d ||| BitVec.ofInt 64 (IntKind.wrap .u64 ((IntKind.wrap .u64 (IntKind.wrap .u8 ((BitVec.ofInt 8 ((a.data[(0 : Int).toNat]?.getD 0).toNat : Int) &&& BitVec.ofInt 8 127).toNat : Int))) * 2 ^ (min b.toNat 64)))).toNat : Int)), I (wr (b + 7))])))))))))) (
ret (.exit 0 [])))) [.int .u64 0, I 0]) fun m =>
nl m (
bnd (f_stylus_Reader_Spoil D [.ptr c]) fun n =>
asT n fun o => nl o (
ret (.ret [.int .u64 0])))))
def f_stylus_Reader_Nat (D : DD) (d : List HV) : M HV :=
fin (
uP d fun a r =>
uI .i64 r fun b e =>
nl e (
bnd (f_stylus_Reader_word D [.ptr a]) fun f =>
asI .u64 f fun c =>
jn (
cond (decide (b < 0)) (
ret (.norm [.bool true])) (
ret (.norm [.bool (decide (c > (IntKind.wrap .u64 b)))]))) fun g =>
uB g fun h i =>
nl i (
cond h (
bnd (f_stylus_Reader_Spoil D [.ptr a]) fun j =>
asT j fun k => nl k (
ret (.ret [I 0]))) (
ret (.ret [I (wr c)])))))
def f_stylus_Reader_Bad (D : DD) (b : List HV) : M HV :=
fin (
uP b fun a r =>
nl r (
jn (
cond (Option.isNone a) (
ret (.norm [.bool true])) (
mP a fun c d =>
ldC c (d + 1) fun v => asB v fun e =>
ret (.norm [.bool e]))) fun f =>
uB f fun g h =>
nl h (
ret (.ret [.bool g]))))
def f_stylus_Reader_Left (D : DD) (b : List HV) : M HV :=
fin (
uP b fun a r =>
nl r (
cond (Option.isNone a) (
ret (.ret [I 0])) (
mP a fun c d =>
ldC c d fun v => asS v fun e =>
ret (.ret [I (e.size : Int)]))))
def f_vault_first (D : DD) (d : List HV) : M HV :=
fin (
uS d fun e r =>
nl r (
bnd (f_stylus_Of D [.str e]) fun f =>
asP f fun a =>
bnd (f_stylus_Reader_Nat D [.ptr a, I 1]) fun g =>
asI .i64 g fun h =>
bnd (f_stylus_Reader_Nat D [.ptr a, I 1099511627776]) fun i =>
asI .i64 i fun b =>
bnd (f_stylus_Reader_Left D [.ptr a]) fun j =>
asI .i64 j fun k =>
bnd (f_stylus_Reader_Raw D [.ptr a, I k]) fun l =>
asS l fun c =>
jn (
bnd (f_stylus_Reader_Bad D [.ptr a]) fun m =>
asB m fun n =>
cond (!n) (
cond (h == 0) (
ret (.norm [I b, .str c, .bool (decide (b > 0))])) (
ret (.norm [I b, .str c, .bool false]))) (
ret (.norm [I b, .str c, .bool false]))) fun o =>
uI .i64 o fun p q =>
uS q fun s t =>
uB t fun u v =>
nl v (
ret (.ret [I p, .str s, .bool u]))))
def f_vault_look (D : DD) (k : List HV) : M HV :=
fin (
uP k fun m r =>
nl r (
nw [I 0] fun c =>
nw [.str (ByteArray.mk #[]), .sl (⟨none, 0, 0, none⟩)] fun d =>
nw [.str (ByteArray.mk #[]), .sl (⟨none, 0, 0, none⟩)] fun b =>
nw [I 0] fun e =>
nw [I 0] fun f =>
stC e 0 (I 0) (
stC f 0 (I 0) (
bnd (f_wal_Log_All D [.ptr m]) fun g =>
blk 0 (
ny g (nwL 69547369 [(2, .ptr (some (c, 0))), (3, .ptr (some (d, 0))), (4, .ptr (some (b, 0))), (5, .ptr (some (e, 0))), (6, .ptr (some (f, 0)))] fun l =>
bnd (D g [.yld l]) fun q =>
endL l (
ret (.norm []))
(onX 0 (ret (.exit 0 [])) noX) (
ldC c 0 fun v => asI .i64 v fun n =>
ldN d 0 2 fun o =>
uS o fun p s =>
uL s fun t u =>
nl u (
ret (.ret [I n, .agg [.str p, .sl t]]))))) fun w =>
nl w (
snp true fun h =>
ldC e 0 fun x => asI .i64 x fun y =>
snp true fun i =>
ldN b 0 2 fun z =>
uS z fun aa ab =>
uL ab fun ac ad =>
nl ad (
snp true fun j =>
stC c 0 (I y) (
snp true fun ae =>
gdP ((ae.get b = j.get b ∧ j.get b = i.get b ∧ i.get b = h.get b ∧ True) ∧ True) (
stN d 0 [.str aa, .sl ac] (
ldC c 0 fun af => asI .i64 af fun ag =>
ldN d 0 2 fun ah =>
uS ah fun ai aj =>
uL aj fun ak al =>
nl al (
ret (.ret [I ag, .agg [.str ai, .sl ak]])))))))))))
def r0_vault_look (D : DD) (l : Nat) (d : List (Nat × HV)) (e : List HV) : M Leaf :=
gdS [2, 3, 4, 5, 6] d fun vs' =>
uP vs' fun f r =>
uP r fun g h =>
uP h fun b i =>
uP i fun j k =>
uP k fun c m =>
nl m (
uS e fun a n =>
nl n (
busyL l (
blk 1 (
mP c fun o p =>
ldC o p fun v => asI .i64 v fun q =>
mP c fun qb qo =>
stC qb qo (I (wr (q + 1))) (
mP c fun s t =>
ldC s t fun u => asI .i64 u fun w =>
cond (w == 1) (
bnd (f_vault_first D [.str a]) fun x =>
asT x fun y => uI .i64 y fun z aa =>
uS aa fun ab ac =>
uB ac fun ad ae =>
nl ae (
cond (!ad) (
mP f fun qb_1 qo_1 =>
stC qb_1 qo_1 (I 0) (
mP g fun qb_2 qo_2 =>
stN qb_2 qo_2 [.str (ByteArray.mk #[]), .sl (⟨none, 0, 0, none⟩)] (
ret (.ret [])))) (
mP j fun qb_3 qo_3 =>
stC qb_3 qo_3 (I z) (
mP b fun af ag =>
stC af ag (.str ab) (
ret (.exit 1 [])))))) (
jn (
cond (a.toList == (ByteArray.mk #[]).toList) (
ret (.norm [.bool true])) (
gd (decide (0 ≤ 0)) (gd (decide (0 < (a.size : Int))) (
ret (.norm [.bool (((a.data[(0 : Int).toNat]?.getD 0).toNat : Int) != 1)]))))) fun ah =>
uB ah fun ai aj =>
nl aj (
cond ai (
ret (.exit 0 [])) (
mP b fun ak al =>
ldC ak (al + 1) fun am => asSl am fun an =>
gd (decide (0 ≤ 1)) (gd (decide (1 ≤ (a.size : Int))) (gd (decide ((a.size : Int) ≤ (a.size : Int))) (
apd an 1 16 1 [.str (a.extract (1 : Int).toNat (a.size : Int).toNat)] fun ao =>
mP b fun ap aq =>
stC ap (aq + 1) (.sl ao) (
ret (.norm [])))))))))) fun ar =>
nl ar (
ret (.norm [])))))
def f_vault_Open (D : DD) (h : List HV) : M HV :=
fin (
uP h fun b r =>
nl r (
cond (Option.isNone b) (
ret (.ret [.ptr none, .agg [.str (ByteArray.mk #[]), .sl (⟨none, 0, 0, none⟩)], I 2])) (
nw [.ptr b, .ptr none, I 0, .bool false] fun a =>
blk 0 (
loopD (fun i =>
uI .i64 i fun c j =>
uA j fun k l =>
uS k fun d m =>
uL m fun e n =>
nl n (
nl l (
cond (decide (c < 2)) (
blk 1 (
bnd (f_wal_Open D [.ptr b, I c]) fun o =>
asT o fun p => uP p fun f q =>
uI .i64 q fun ay s =>
nl s (
bnd (f_vault_look D [.ptr f]) fun t =>
asT t fun u => uI .i64 u fun g w =>
uA w fun x y =>
uS x fun z aa =>
uL aa fun ab ac =>
nl ac (
nl y (
jn (
ldC a 1 fun v => asP v fun ad =>
cond (Option.isNone ad) (
ret (.norm [.bool true])) (
ldC a 2 fun ae => asI .i64 ae fun af =>
ret (.norm [.bool (decide (g > af))]))) fun ag =>
uB ag fun ah ai =>
nl ai (
cond ah (
stC a 1 (.ptr f) (
stC a 2 (I g) (
ret (.norm [.agg [.str z, .sl ab]])))) (
ret (.norm [.agg [.str d, .sl e]]))))))) fun aj =>
uA aj fun ak al =>
uS ak fun am an =>
uL an fun ao ap =>
nl ap (
nl al (
ret (.norm [I (wr (c + 1)), .agg [.str am, .sl ao]])))) (
ret (.exit 0 [.agg [.str d, .sl e]]))))) [I 0, .agg [.str (ByteArray.mk #[]), .sl (⟨none, 0, 0, none⟩)]]) fun vs =>
uA vs fun ar as =>
uS ar fun au av =>
uL av fun aw ax =>
nl ax (
nl as (
ret (.ret [.ptr (some (a, 0)), .agg [.str au, .sl aw], I 0]))))))
def f_cell_New_file_File (D : DD) (c : List HV) : M HV :=
fin (
uI .i64 c fun d r =>
uA r fun e f =>
uB e fun g h =>
uS h fun i j =>
nl j (
nl f (
nw [.sl (⟨none, 0, 0, none⟩)] fun a =>
blk 0 (
loopD (fun k =>
uI .i64 k fun b l =>
nl l (
cond (decide (b < d)) (
ldC a 0 fun v => asSl v fun m =>
apd m 3 32 1 [.bool g, .str i, I 0] fun n =>
stC a 0 (.sl n) (
ret (.norm [I (wr (b + 1))]))) (
ret (.exit 0 [])))) [I 0]) fun o =>
nl o (
ret (.ret [.ptr (some (a, 0))])))))
def f_tome_New (D : DD) (a : List HV) : M HV :=
fin (
nl a (
bnd (f_cell_New_file_File D [I 6, .agg [.bool false, .str (ByteArray.mk #[])]]) fun r =>
asP r fun b =>
nw [.ptr b] fun c =>
ret (.ret [.ptr (some (c, 0))])))
def f_stylus_Reader_Text (D : DD) (b : List HV) : M HV :=
fin (
uP b fun a r =>
uI .i64 r fun c d =>
nl d (
bnd (f_stylus_Reader_Nat D [.ptr a, I c]) fun e =>
asI .i64 e fun f =>
bnd (f_stylus_Reader_Raw D [.ptr a, I f]) fun g =>
asS g fun h =>
ret (.ret [.str h])))
def f_file_Good (D : DD) (b : List HV) : M HV :=
fin (
uA b fun c r =>
uB c fun d e =>
uS e fun a f =>
nl f (
nl r (
jn (
cond (decide ((a.size : Int) ≤ 32)) (
cond d (
ret (.norm [.bool true])) (
ret (.norm [.bool (a.toList == (ByteArray.mk #[]).toList)]))) (
ret (.norm [.bool false]))) fun g =>
uB g fun h i =>
nl i (
ret (.ret [.bool h])))))
def f_cell_Row_file_File_is (D : DD) (c : List HV) : M HV :=
fin (
uP c fun a r =>
uI .i64 r fun b d =>
nl d (
jn (
cond (!(Option.isNone a)) (
cond (decide (b ≥ 0)) (
mP a fun e f =>
ldC e f fun v => asSl v fun g =>
ret (.norm [.bool (decide (b < (g.len : Int)))])) (
ret (.norm [.bool false]))) (
ret (.norm [.bool false]))) fun h =>
uB h fun i j =>
nl j (
ret (.ret [.bool i]))))
def f_cell_Row_file_File_Set (D : DD) (c : List HV) : M HV :=
fin (
uP c fun a r =>
uI .i64 r fun b d =>
uA d fun e f =>
uB e fun g h =>
uS h fun i j =>
nl j (
uI .i64 f fun k l =>
nl l (
bnd (f_cell_Row_file_File_is D [.ptr a, I b]) fun m =>
asB m fun n =>
cond (!n) (
ret (.ret [.bool false])) (
mP a fun o p =>
ldC o p fun v => asSl v fun q =>
ix q b 3 fun s t =>
stN s t [.bool g, .str i, I k] (
ret (.ret [.bool true]))))))
def f_tome_Tome_Set (D : DD) (d : List HV) : M HV :=
fin (
uP d fun a r =>
uI .i64 r fun e f =>
uA f fun g h =>
uB g fun b i =>
uS i fun c j =>
nl j (
uI .i64 h fun k l =>
nl l (
jn (
cond (!(Option.isNone a)) (
bnd (f_file_Good D [.agg [.bool b, .str c]]) fun m =>
asB m fun n =>
cond n (
mP a fun o p =>
ldC o p fun v => asP v fun q =>
bnd (f_cell_Row_file_File_Set D [.ptr q, I e, .agg [.bool b, .str c], I k]) fun s =>
asB s fun t =>
ret (.norm [.bool t])) (
ret (.norm [.bool false]))) (
ret (.norm [.bool false]))) fun u =>
uB u fun w x =>
nl x (
ret (.ret [.bool w])))))
def f_tome_Read (D : DD) (d : List HV) : M HV :=
fin (
uS d fun e r =>
nl r (
bnd (f_tome_New D []) fun f =>
asP f fun c =>
bnd (f_stylus_Of D [.str e]) fun g =>
asP g fun a =>
blk 0 (
loopD (fun h =>
uI .i64 h fun i j =>
nl j (
bnd (f_stylus_Reader_Left D [.ptr a]) fun k =>
asI .i64 k fun l =>
cond (decide (l > 0)) (
bnd (f_stylus_Reader_Nat D [.ptr a, I 5]) fun m =>
asI .i64 m fun b =>
bnd (f_stylus_Reader_Text D [.ptr a, I 32]) fun n =>
asS n fun o =>
jn (
bnd (f_stylus_Reader_Bad D [.ptr a]) fun p =>
asB p fun q =>
cond q (
ret (.norm [.bool true])) (
ret (.norm [.bool (decide (b ≤ i))]))) fun s =>
uB s fun t u =>
nl u (
cond t (
ret (.ret [.ptr none, .bool false])) (
bnd (f_tome_Tome_Set D [.ptr c, I b, .agg [.bool true, .str o], I 0]) fun v =>
asB v fun x =>
ret (.norm [I b])))) (
ret (.exit 0 [])))) [I (-1)]) fun w =>
nl w (
ret (.ret [.ptr c, .bool true]))))
def f_world_read (D : DD) (c : List HV) : M HV :=
fin (
uS c fun b r =>
nl r (
cond (b.toList == (ByteArray.mk #[]).toList) (
bnd (f_tome_New D []) fun d =>
asP d fun e =>
ret (.ret [I 0, .ptr e, .bool true])) (
bnd (f_stylus_Of D [.str b]) fun f =>
asP f fun a =>
bnd (f_stylus_Reader_Nat D [.ptr a, I 1099511627776]) fun g =>
asI .i64 g fun h =>
bnd (f_stylus_Reader_Bad D [.ptr a]) fun i =>
asB i fun j =>
cond j (
ret (.ret [I 0, .ptr none, .bool false])) (
bnd (f_stylus_Reader_Left D [.ptr a]) fun k =>
asI .i64 k fun l =>
bnd (f_stylus_Reader_Raw D [.ptr a, I l]) fun m =>
asS m fun n =>
bnd (f_tome_Read D [.str n]) fun o =>
asT o fun p => uP p fun q s =>
uB s fun t u =>
nl u (
ret (.ret [I h, .ptr q, .bool t]))))))
def f_redo_Read (D : DD) (e : List HV) : M HV :=
fin (
uS e fun f r =>
nl r (
bnd (f_stylus_Of D [.str f]) fun g =>
asP g fun a =>
bnd (f_stylus_Reader_Nat D [.ptr a, I 1099511627776]) fun h =>
asI .i64 h fun i =>
blk 0 (
loopD (fun j =>
uL j fun c k =>
uI .i64 k fun l m =>
nl m (
bnd (f_stylus_Reader_Left D [.ptr a]) fun n =>
asI .i64 n fun o =>
cond (decide (o > 0)) (
bnd (f_stylus_Reader_Nat D [.ptr a, I 5]) fun p =>
asI .i64 p fun d =>
bnd (f_stylus_Reader_Nat D [.ptr a, I 1]) fun q =>
asI .i64 q fun s =>
jn (
cond (s == 1) (
bnd (f_stylus_Reader_Text D [.ptr a, I 32]) fun t =>
asS t fun u =>
ret (.norm [.agg [I d, .bool true, .str u]])) (
ret (.norm [.agg [I d, .bool false, .str (ByteArray.mk #[])]]))) fun v =>
uA v fun w x =>
uI .i64 w fun b y =>
uB y fun z aa =>
uS aa fun ab ac =>
nl ac (
nl x (
jn (
bnd (f_stylus_Reader_Bad D [.ptr a]) fun ad =>
asB ad fun ae =>
cond ae (
ret (.norm [.bool true])) (
ret (.norm [.bool (decide (b ≤ l))]))) fun af =>
uB af fun ag ah =>
nl ah (
cond ag (
ret (.ret [I 0, .sl (⟨none, 0, 0, none⟩), .bool false])) (
apd c 3 32 1 [I b, .bool z, .str ab] fun ai =>
ret (.norm [.sl ai, I b])))))) (
ret (.exit 0 [.sl c])))) [.sl (⟨none, 0, 0, none⟩), I (-1)]) fun vs =>
uL vs fun ak al =>
nl al (
bnd (f_stylus_Reader_Bad D [.ptr a]) fun am =>
asB am fun an =>
cond an (
ret (.ret [I 0, .sl (⟨none, 0, 0, none⟩), .bool false])) (
ret (.ret [I i, .sl ak, .bool true])))))
def f_redo_Apply (D : DD) (c : List HV) : M HV :=
fin (
uP c fun d r =>
uL r fun b e =>
uI .i64 e fun f g =>
nl g (
blk 0 (
loopD (fun h =>
uI .i64 h fun a i =>
nl i (
cond (decide (a < (b.len : Int))) (
ix b a 3 fun j k =>
ldN j k 3 fun l =>
uI .i64 l fun m n =>
uB n fun o p =>
uS p fun q s =>
nl s (
bnd (f_tome_Tome_Set D [.ptr d, I m, .agg [.bool o, .str q], I f]) fun t =>
asB t fun v =>
ret (.norm [I (wr (a + 1))]))) (
ret (.exit 0 [])))) [I 0]) fun u =>
nl u (
ret (.ret []))))
def f_redo_Replay (D : DD) (e : List HV) : M HV :=
fin (
uP e fun f r =>
uL r fun c g =>
nl g (
blk 0 (
loopD (fun h =>
uI .i64 h fun a i =>
uI .i64 i fun b j =>
nl j (
cond (decide (b < (c.len : Int))) (
ix c b 1 fun k l =>
ldC k l fun v => asS v fun m =>
bnd (f_redo_Read D [.str m]) fun n =>
asT n fun o => uI .i64 o fun d p =>
uL p fun q s =>
uB s fun t u =>
nl u (
cond (!t) (
ret (.ret [I a, I b])) (
bnd (f_redo_Apply D [.ptr f, .sl q, I 0]) fun w =>
asT w fun x => nl x (
ret (.norm [I (bif decide (d > a) then d else a), I (wr (b + 1))]))))) (
ret (.exit 0 [I a])))) [I 0, I 0]) fun y =>
uI .i64 y fun z aa =>
nl aa (
ret (.ret [I z, I (c.len : Int)]))))
def f_stylus_Stylus_Nat (D : DD) (f : List HV) : M HV :=
fin (
uP f fun a r =>
uL r fun d g =>
nl g (
blk 0 (
loopD (fun h =>
uI .i64 h fun c i =>
nl i (
cond (decide (c < (d.len : Int))) (
blk 1 (
ix d c 1 fun j k =>
ldC j k fun v => asI .i64 v fun e =>
cond (decide (e < 0)) (
ret (.exit 1 [])) (
blk 2 (
loopD (fun l =>
uI .i64 l fun b m =>
nl m (
cond (decide (b ≥ 128)) (
mP a fun n o =>
ldC n o fun p => asSl p fun q =>
apd q 1 1 1 [.int .u8 (IntKind.wrap .u8 ((BitVec.ofInt 8 (IntKind.wrap .u8 b) ||| BitVec.ofInt 8 128).toNat : Int))] fun s =>
mP a fun t u =>
stC t u (.sl s) (
ret (.norm [I (Int.fdiv b (2 ^ 7))]))) (
ret (.exit 2 [I b])))) [I e]) fun w =>
uI .i64 w fun x y =>
nl y (
mP a fun z aa =>
ldC z aa fun ab => asSl ab fun ac =>
apd ac 1 1 1 [.int .u8 (IntKind.wrap .u8 x)] fun ad =>
mP a fun ae af =>
stC ae af (.sl ad) (
ret (.norm []))))) fun ag =>
nl ag (
ret (.norm [I (wr (c + 1))]))) (
ret (.exit 0 [])))) [I 0]) fun vs =>
nl vs (
ret (.ret []))))
def f_stylus_Stylus_Raw (D : DD) (c : List HV) : M HV :=
fin (
uP c fun a r =>
uS r fun b d =>
nl d (
mP a fun e f =>
ldC e f fun v => asSl v fun g =>
apdU 5 g 1 1 b.size (bytesHV b) fun h =>
mP a fun i j =>
stC i j (.sl h) (
ret (.ret []))))
def f_stylus_Stylus_Bytes (D : DD) (c : List HV) : M HV :=
fin (
uP c fun d r =>
nl r (
mP d fun e f =>
ldC e f fun v => asSl v fun a =>
rdS a 1 fun b =>
gd (decide (b.length = a.len)) (strM b fun g =>
ret (.ret [.str g]))))
def f_wal_Log_Area (D : DD) (b : List HV) : M HV :=
fin (
uP b fun a r =>
nl r (
cond (Option.isNone a) (
ret (.ret [I 0])) (
mP a fun c d =>
ldC c (d + 1) fun v => asI .i64 v fun e =>
ret (.ret [I e]))))
def f_disk_Disk_Reset (D : DD) (c : List HV) : M HV :=
fin (
uP c fun b r =>
uI .i64 r fun a d =>
nl d (
cond (Option.isNone b) (
ret (.ret [I 2])) (
bnd (f_disk_good D [I a]) fun e =>
asB e fun f =>
cond (!f) (
ret (.ret [I 1])) (
mP b fun g h =>
gd (decide (0 ≤ a)) (gd (decide (a < (2 : Int))) (
stC g (h + a.toNat * 2) (.str (ByteArray.mk #[])) (
mP b fun i j =>
ldC i (j + 4) fun v => asSl v fun k =>
apd k 3 32 1 [I a, .bool true, .str (ByteArray.mk #[])] fun l =>
mP b fun m n =>
stC m (n + 4) (.sl l) (
ret (.ret [I 0])))))))))
def f_wal_Log_Clear (D : DD) (b : List HV) : M HV :=
fin (
uP b fun a r =>
nl r (
cond (!(Option.isNone a)) (
mP a fun c d =>
ldC c d fun v => asP v fun e =>
mP a fun f g =>
ldC f (g + 1) fun h => asI .i64 h fun i =>
bnd (f_disk_Disk_Reset D [.ptr e, I i]) fun j =>
asI .i64 j fun o =>
mP a fun k l =>
stC k (l + 2) (I 0) (
mP a fun m n =>
stC m (n + 3) (.bool false) (
ret (.ret [])))) (
ret (.ret []))))
def f_disk_Disk_land (D : DD) (e : List HV) : M HV :=
fin (
uP e fun b r =>
uA r fun f g =>
uI .i64 f fun a h =>
uB h fun i j =>
uS j fun c k =>
nl k (
nl g (
cond i (
mP b fun l m =>
gd (decide (0 ≤ a)) (gd (decide (a < (2 : Int))) (
stC l (m + a.toNat * 2 + 1) (.str (ByteArray.mk #[])) (
ret (.ret []))))) (
mP b fun n o =>
gd (decide (0 ≤ a)) (gd (decide (a < (2 : Int))) (
ldC n (o + a.toNat * 2 + 1) fun v => asS v fun d =>
gd (decide (d.size + c.size ≤ 9223372036854775807)) (
mP b fun p q =>
gd (decide (0 ≤ a)) (gd (decide (a < (2 : Int))) (
stC p (q + a.toNat * 2 + 1) (.str (d ++ c)) (
ret (.ret [])))))))))))
def f_disk_Disk_Sync (D : DD) (d : List HV) : M HV :=
fin (
uP d fun a r =>
nl r (
cond (Option.isNone a) (
ret (.ret [])) (
mP a fun e f =>
ldC e (f + 4) fun v => asSl v fun c =>
blk 0 (
loopD (fun g =>
uI .i64 g fun b h =>
nl h (
cond (decide (b < (c.len : Int))) (
ix c b 3 fun i j =>
ldN i j 3 fun k =>
uI .i64 k fun l m =>
uB m fun n o =>
uS o fun p q =>
nl q (
bnd (f_disk_Disk_land D [.ptr a, .agg [I l, .bool n, .str p]]) fun s =>
asT s fun t => nl t (
ret (.norm [I (wr (b + 1))])))) (
ret (.exit 0 [])))) [I 0]) fun u =>
nl u (
mP a fun w x =>
stC w (x + 4) (.sl (⟨none, 0, 0, none⟩)) (
ret (.ret []))))))
def f_wal_Log_Force (D : DD) (b : List HV) : M HV :=
fin (
uP b fun a r =>
nl r (
cond (!(Option.isNone a)) (
mP a fun c d =>
ldC c d fun v => asP v fun e =>
bnd (f_disk_Disk_Sync D [.ptr e]) fun f =>
asT f fun g => nl g (
ret (.ret []))) (
ret (.ret []))))
def f_wafer_Close (D : DD) (c : List HV) : M HV :=
fin (
uS c fun a r =>
nl r (
cond (decide ((a.size : Int) > 1024)) (
ret (.ret [.str (ByteArray.mk #[])])) (
gd (decide ((strB [IntKind.wrap .u8 (Int.fdiv (a.size : Int) (2 ^ 8)), IntKind.wrap .u8 (a.size : Int)]).size + a.size ≤ 9223372036854775807)) (
bnd (f_wafer_Sum D [.str ((strB [IntKind.wrap .u8 (Int.fdiv (a.size : Int) (2 ^ 8)), IntKind.wrap .u8 (a.size : Int)]) ++ a)]) fun d =>
asI .u32 d fun e =>
bnd (f_wafer_foots D [.int .u32 e]) fun f =>
asS f fun b =>
gd (decide (((strB [IntKind.wrap .u8 (Int.fdiv (a.size : Int) (2 ^ 8)), IntKind.wrap .u8 (a.size : Int)]) ++ a).size + b.size ≤ 9223372036854775807)) (
ret (.ret [.str (((strB [IntKind.wrap .u8 (Int.fdiv (a.size : Int) (2 ^ 8)), IntKind.wrap .u8 (a.size : Int)]) ++ a) ++ b)]))))))
def f_disk_Disk_Append (D : DD) (e : List HV) : M HV :=
fin (
uP e fun b r =>
uI .i64 r fun a f =>
uS f fun c g =>
nl g (
cond (Option.isNone b) (
ret (.ret [I 2])) (
bnd (f_disk_good D [I a]) fun h =>
asB h fun i =>
cond (!i) (
ret (.ret [I 1])) (
mP b fun j k =>
gd (decide (0 ≤ a)) (gd (decide (a < (2 : Int))) (
ldC j (k + a.toNat * 2) fun v => asS v fun l =>
cond (decide ((c.size : Int) > (wr (16384 - (l.size : Int))))) (
ret (.ret [I 6])) (
mP b fun m n =>
gd (decide (0 ≤ a)) (gd (decide (a < (2 : Int))) (
ldC m (n + a.toNat * 2) fun o => asS o fun d =>
gd (decide (d.size + c.size ≤ 9223372036854775807)) (
mP b fun p q =>
gd (decide (0 ≤ a)) (gd (decide (a < (2 : Int))) (
stC p (q + a.toNat * 2) (.str (d ++ c)) (
mP b fun s t =>
ldC s (t + 4) fun u => asSl u fun w =>
apd w 3 32 1 [I a, .bool false, .str c] fun x =>
mP b fun y z =>
stC y (z + 4) (.sl x) (
ret (.ret [I 0])))))))))))))))
def f_wal_Log_Append (D : DD) (e : List HV) : M HV :=
fin (
uP e fun a r =>
uS r fun b f =>
nl f (
cond (Option.isNone a) (
ret (.ret [I 2])) (
cond (decide ((b.size : Int) > 1024)) (
ret (.ret [I 3])) (
mP a fun g h =>
ldC g (h + 3) fun v => asB v fun i =>
cond i (
ret (.ret [I 9])) (
bnd (f_wafer_Close D [.str b]) fun j =>
asS j fun c =>
mP a fun k l =>
ldC k l fun m => asP m fun n =>
mP a fun o p =>
ldC o (p + 1) fun q => asI .i64 q fun s =>
bnd (f_disk_Disk_Append D [.ptr n, I s, .str c]) fun t =>
asI .i64 t fun d =>
cond (d != 0) (
ret (.ret [I d])) (
mP a fun u w =>
ldC u (w + 2) fun x => asI .i64 x fun y =>
mP a fun z aa =>
stC z (aa + 2) (I (wr (y + (c.size : Int)))) (
ret (.ret [I 0]))))))))
def f_vault_Vault_Settle (D : DD) (s : List HV) : M HV :=
fin (
uP s fun b r =>
uS r fun t u =>
nl u (
cond (Option.isNone b) (
ret (.ret [I 2])) (
mP b fun w x =>
ldC w (x + 2) fun v => asI .i64 v fun y =>
cond (decide (y ≥ 1099511627776)) (
ret (.ret [I 6])) (
nw [.sl (⟨none, 0, 0, none⟩)] fun d =>
mP b fun z aa =>
ldC z (aa + 2) fun ab => asI .i64 ab fun ac =>
nw [I 0, I (wr (ac + 1))] fun ad =>
bnd (f_stylus_Stylus_Nat D [.ptr (some (d, 0)), .sl (⟨some (ad, 0), 2, 2, none⟩)]) fun ae =>
asT ae fun af => nl af (
bnd (f_stylus_Stylus_Raw D [.ptr (some (d, 0)), .str t]) fun ag =>
asT ag fun ah => nl ah (
bnd (f_stylus_Stylus_Bytes D [.ptr (some (d, 0))]) fun ai =>
asS ai fun aj =>
cond (decide ((aj.size : Int) > 1024)) (
ret (.ret [I 3])) (
mP b fun ak al =>
ldC ak (al + 1) fun am => asP am fun e =>
snp true fun h =>
snp true fun f =>
mP b fun a an =>
snp true fun g =>
snp true fun i =>
ldC a an fun ao => asP ao fun ap =>
snp true fun j =>
snp true fun k =>
bnd (f_wal_Log_Area D [.ptr e]) fun aq =>
asI .i64 aq fun ar =>
snp true fun l =>
snp true fun m =>
bnd (f_wal_Open D [.ptr ap, I (wr (1 - ar))]) fun as =>
asT as fun au => uP au fun c av =>
uI .i64 av fun bl aw =>
nl aw (
snp true fun n =>
snp true fun o =>
snp true fun p =>
snp true fun q =>
snp true fun ax =>
gdP ((ax.get a = q.get a ∧ q.get a = p.get a ∧ p.get a = o.get a ∧ o.get a = n.get a ∧ n.get a = m.get a ∧ m.get a = l.get a ∧ l.get a = k.get a ∧ k.get a = j.get a ∧ j.get a = i.get a ∧ i.get a = g.get a ∧ g.get a = f.get a ∧ f.get a = h.get a ∧ True) ∧ True) (
bnd (f_wal_Log_Clear D [.ptr c]) fun ay =>
asT ay fun az => nl az (
bnd (f_wal_Log_Force D [.ptr c]) fun a0 =>
asT a0 fun a1 => nl a1 (
bnd (f_stylus_Stylus_Bytes D [.ptr (some (d, 0))]) fun a2 =>
asS a2 fun a3 =>
bnd (f_wal_Log_Append D [.ptr c, .str a3]) fun a4 =>
asI .i64 a4 fun bm =>
bnd (f_wal_Log_Force D [.ptr c]) fun a5 =>
asT a5 fun a6 => nl a6 (
bnd (f_wal_Log_Clear D [.ptr e]) fun a7 =>
asT a7 fun a8 => nl a8 (
bnd (f_wal_Log_Force D [.ptr e]) fun a9 =>
asT a9 fun ba => nl ba (
mP b fun bb bc =>
ldC bb (bc + 2) fun bd => asI .i64 bd fun be =>
mP b fun bf bg =>
stC bf (bg + 1) (.ptr c) (
mP b fun bh bi =>
stC bh (bi + 2) (I (wr (be + 1))) (
mP b fun bj bk =>
stC bj (bk + 3) (.bool true) (
ret (.ret [I 0]))))))))))))))))))
def f_cell_Row_file_File_All_1 (D : DD) (d : List HV) : M HV :=
fin (
uc d fun e r =>
uP r fun b f =>
nl f (
mP b fun g h =>
ldC g h fun v => asP v fun i =>
cond (Option.isNone i) (
ret (.ret [])) (
mP b fun j k =>
ldC j k fun l => asP l fun m =>
mP m fun n o =>
ldC n o fun p => asSl p fun c =>
blk 0 (
loopD (fun q =>
uI .i64 q fun a s =>
nl s (
cond (decide (a < (c.len : Int))) (
ix c a 3 fun t u =>
ldN t u 3 fun w =>
uB w fun x y =>
uS y fun z aa =>
uI .i64 aa fun af ab =>
nl ab (
bnd (D e [I a, .agg [.bool x, .str z]]) fun ac =>
asB ac fun ad =>
cond (!ad) (
ret (.ret [])) (
ret (.norm [I (wr (a + 1))])))) (
ret (.exit 0 [])))) [I 0]) fun vs =>
nl vs (
ret (.ret [])))))
def f_cell_Row_file_File_All (D : DD) (a : List HV) : M HV :=
fin (
uP a fun b r =>
nl r (
nw [.ptr b] fun c =>
ret (.ret [.func n_cell_Row_file_File_All_1 [] [.ptr (some (c, 0))]])))
def f_tome_Tome_All_1 (D : DD) (e : List HV) : M HV :=
fin (
uc e fun b r =>
uP r fun c f =>
nl f (
nt b (nw (HV.cs b) fun g =>
mP c fun h i =>
ldC h i fun v => asP v fun j =>
cond (Option.isNone j) (
ret (.ret [])) (
mP c fun k m =>
ldC k m fun n => asP n fun o =>
mP o fun p s =>
ldC p s fun t => asP t fun u =>
bnd (f_cell_Row_file_File_All D [.ptr u]) fun d =>
ny d (nwL 71670451 [(2, .ptr (some (g, 0)))] fun l =>
bnd (D d [.yld l]) fun q =>
endL l (
ret (.ret []))
(onX 0 (stk) noX) (
ret (.ret [])))))))
def r0_tome_Tome_All_1 (D : DD) (l : Nat) (b : List (Nat × HV)) (c : List HV) : M Leaf :=
gdS [2] b fun vs' =>
uP vs' fun d r =>
nl r (
uI .i64 c fun e f =>
uA f fun g h =>
uB g fun a i =>
uS i fun j k =>
nl k (
nl h (
busyL l (
jn (
cond a (
mP d fun m n =>
ldC m n fun v => bnd (D v [I e, .agg [.bool a, .str j]]) fun o =>
asB o fun p =>
ret (.norm [.bool (!p)])) (
ret (.norm [.bool false]))) fun q =>
uB q fun s t =>
nl t (
cond s (
ret (.ret [])) (
ret (.norm [])))))))
def f_tome_Tome_All (D : DD) (a : List HV) : M HV :=
fin (
uP a fun b r =>
nl r (
nw [.ptr b] fun c =>
ret (.ret [.func n_tome_Tome_All_1 [] [.ptr (some (c, 0))]])))
def f_stylus_Stylus_Text (D : DD) (e : List HV) : M HV :=
fin (
uP e fun b r =>
uL r fun c f =>
nl f (
blk 0 (
loopD (fun g =>
uI .i64 g fun a h =>
nl h (
cond (decide (a < (c.len : Int))) (
ix c a 1 fun i j =>
ldC i j fun v => asS v fun d =>
nw [I (d.size : Int)] fun k =>
bnd (f_stylus_Stylus_Nat D [.ptr b, .sl (⟨some (k, 0), 1, 1, none⟩)]) fun l =>
asT l fun m => nl m (
bnd (f_stylus_Stylus_Raw D [.ptr b, .str d]) fun n =>
asT n fun o => nl o (
ret (.norm [I (wr (a + 1))])))) (
ret (.exit 0 [])))) [I 0]) fun p =>
nl p (
ret (.ret []))))
def f_tome_Tome_Bytes (D : DD) (d : List HV) : M HV :=
fin (
uP d fun e r =>
nl r (
nw [.sl (⟨none, 0, 0, none⟩)] fun f =>
nw [.ptr none] fun b =>
stC b 0 (.ptr (some (f, 0))) (
bnd (f_tome_Tome_All D [.ptr e]) fun c =>
blk 0 (
ny c (nwL 38705704 [(3, .ptr (some (b, 0)))] fun l =>
bnd (D c [.yld l]) fun q =>
endL l (
ret (.norm []))
(onX 0 (ret (.exit 0 [])) noX) (
ret (.ret [.str (ByteArray.mk #[])])))) fun g =>
nl g (
ldC b 0 fun v => asP v fun h =>
bnd (f_stylus_Stylus_Bytes D [.ptr h]) fun i =>
asS i fun j =>
ret (.ret [.str j])))))
def r0_tome_Tome_Bytes (D : DD) (l : Nat) (b : List (Nat × HV)) (c : List HV) : M Leaf :=
gdS [3] b fun vs' =>
uP vs' fun a r =>
nl r (
uI .i64 c fun d e =>
uA e fun f g =>
uB f fun aa h =>
uS h fun i j =>
nl j (
nl g (
busyL l (
mP a fun k m =>
ldC k m fun v => asP v fun n =>
nw [I d] fun o =>
bnd (f_stylus_Stylus_Nat D [.ptr n, .sl (⟨some (o, 0), 1, 1, none⟩)]) fun p =>
asT p fun q => nl q (
mP a fun s t =>
ldC s t fun u => asP u fun w =>
nw [.str i] fun x =>
bnd (f_stylus_Stylus_Text D [.ptr w, .sl (⟨some (x, 0), 1, 1, none⟩)]) fun y =>
asT y fun z => nl z (
ret (.norm [])))))))
def f_world_image (D : DD) (b : List HV) : M HV :=
fin (
uI .i64 b fun c r =>
uP r fun d e =>
nl e (
nw [.sl (⟨none, 0, 0, none⟩)] fun a =>
nw [I c] fun f =>
bnd (f_stylus_Stylus_Nat D [.ptr (some (a, 0)), .sl (⟨some (f, 0), 1, 1, none⟩)]) fun g =>
asT g fun h => nl h (
bnd (f_tome_Tome_Bytes D [.ptr d]) fun i =>
asS i fun j =>
bnd (f_stylus_Stylus_Raw D [.ptr (some (a, 0)), .str j]) fun k =>
asT k fun l => nl l (
bnd (f_stylus_Stylus_Bytes D [.ptr (some (a, 0))]) fun m =>
asS m fun n =>
ret (.ret [.str n])))))
def f_cell_New_int (D : DD) (c : List HV) : M HV :=
fin (
uI .i64 c fun d r =>
uI .i64 r fun e f =>
nl f (
nw [.sl (⟨none, 0, 0, none⟩)] fun a =>
blk 0 (
loopD (fun g =>
uI .i64 g fun b h =>
nl h (
cond (decide (b < d)) (
ldC a 0 fun v => asSl v fun i =>
apd i 2 16 1 [I e, I 0] fun j =>
stC a 0 (.sl j) (
ret (.norm [I (wr (b + 1))]))) (
ret (.exit 0 [])))) [I 0]) fun k =>
nl k (
ret (.ret [.ptr (some (a, 0))]))))
def f_feed_New (D : DD) (a : List HV) : M HV :=
fin (
nl a (
bnd (f_cell_New_int D [I 3, I 0]) fun r =>
asP r fun b =>
nw [.str (ByteArray.mk #[]), .str (ByteArray.mk #[]), .str (ByteArray.mk #[]), .ptr b] fun c =>
ret (.ret [.ptr (some (c, 0))])))
def f_attempt_NewView (D : DD) (a : List HV) : M HV :=
fin (
nl a (
bnd (f_cell_New_int D [I 8, I 0]) fun r =>
asP r fun b =>
bnd (f_tome_New D []) fun c =>
asP c fun d =>
bnd (f_feed_New D []) fun e =>
asP e fun f =>
nw [.ptr b, .ptr d, .ptr f, I 0] fun g =>
ret (.ret [.ptr (some (g, 0))])))
def f_wire_New (D : DD) (a : List HV) : M HV :=
fin (
nl a (
nw [.str (ByteArray.mk #[]), .str (ByteArray.mk #[]), .str (ByteArray.mk #[]), .str (ByteArray.mk #[]), .str (ByteArray.mk #[]), .str (ByteArray.mk #[]), .str (ByteArray.mk #[]), .str (ByteArray.mk #[]), .str (ByteArray.mk #[])] fun b =>
ret (.ret [.ptr (some (b, 0))])))
def f_token_New (D : DD) (a : List HV) : M HV :=
fin (
nl a (
nw [I (-1), .bool false, I (-1)] fun b =>
ret (.ret [.ptr (some (b, 0))])))
def f_world_Open (D : DD) (j : List HV) : M HV :=
fin (
uP j fun d r =>
nl r (
bnd (f_vault_Open D [.ptr d]) fun k =>
asT k fun l => uP l fun e m =>
uA m fun n o =>
uS n fun p q =>
uL q fun f s =>
nl s (
uI .i64 o fun g t =>
nl t (
cond (g != 0) (
ret (.ret [.ptr none, I g])) (
bnd (f_world_read D [.str p]) fun u =>
asT u fun w => uI .i64 w fun a x =>
uP x fun c y =>
uB y fun z aa =>
nl aa (
cond (!z) (
ret (.ret [.ptr none, I 4])) (
bnd (f_redo_Replay D [.ptr c, .sl f]) fun ab =>
asT ab fun ac => uI .i64 ac fun b ad =>
uI .i64 ad fun ae af =>
nl af (
cond (decide (ae < (f.len : Int))) (
ret (.ret [.ptr none, I 4])) (
bnd (f_world_image D [I (bif decide (b > a) then b else a), .ptr c]) fun ag =>
asS ag fun ah =>
bnd (f_vault_Vault_Settle D [.ptr e, .str ah]) fun ai =>
asI .i64 ai fun h =>
cond (h != 0) (
ret (.ret [.ptr none, I h])) (
bnd (f_attempt_NewView D []) fun aj =>
asP aj fun ak =>
bnd (f_wire_New D []) fun al =>
asP al fun am =>
bnd (f_token_New D []) fun an =>
asP an fun ao =>
nw [.ptr ak, .ptr am, .ptr ao, .ptr d, .ptr e, I 0, I 0, I 0, I 0, .sl (⟨none, 0, 0, none⟩), I (bif decide (b > a) then b else a), I 0] fun i =>
ldC i 0 fun v => asP v fun ap =>
mP ap fun aq ar =>
stC aq (ar + 1) (.ptr c) (
ret (.ret [.ptr (some (i, 0)), I 0]))))))))))))
def f_disk_New (D : DD) (a : List HV) : M HV :=
fin (
nl a (
nw [.str (ByteArray.mk #[]), .str (ByteArray.mk #[]), .str (ByteArray.mk #[]), .str (ByteArray.mk #[]), .sl (⟨none, 0, 0, none⟩)] fun b =>
ret (.ret [.ptr (some (b, 0))])))
def f_commit_New (D : DD) (c : List HV) : M HV :=
fin (
uI .i64 c fun a r =>
uP r fun b d =>
nl d (
jn (
cond (Option.isNone b) (
ret (.norm [.bool true])) (
ret (.norm [.bool (decide (a < 0))]))) fun e =>
uB e fun f g =>
nl g (
cond f (
ret (.ret [.ptr none])) (
nw [I a, .ptr b, I 0] fun h =>
ret (.ret [.ptr (some (h, 0))])))))
def f_commit_Commit_Phase (D : DD) (b : List HV) : M HV :=
fin (
uP b fun a r =>
nl r (
cond (Option.isNone a) (
ret (.ret [I 0])) (
mP a fun c d =>
ldC c (d + 2) fun v => asI .i64 v fun e =>
ret (.ret [I e]))))
def f_draft_Draft_int_Len (D : DD) (b : List HV) : M HV :=
fin (
uP b fun a r =>
nl r (
cond (Option.isNone a) (
ret (.ret [I 0])) (
mP a fun c d =>
ldC c d fun v => asSl v fun e =>
ret (.ret [I (e.len : Int)]))))
def f_sheet_Sheet_Draft (D : DD) (b : List HV) : M HV :=
fin (
uP b fun a r =>
nl r (
cond (Option.isNone a) (
ret (.ret [.ptr none])) (
mP a fun c d =>
ldC c d fun v => asP v fun e =>
ret (.ret [.ptr e]))))
def f_draft_Draft_file_File_Len (D : DD) (b : List HV) : M HV :=
fin (
uP b fun a r =>
nl r (
cond (Option.isNone a) (
ret (.ret [I 0])) (
mP a fun c d =>
ldC c d fun v => asSl v fun e =>
ret (.ret [I (e.len : Int)]))))
def f_attempt_Attempt_Writes (D : DD) (n : List HV) : M HV :=
fin (
uP n fun b r =>
nl r (
cond (Option.isNone b) (
ret (.ret [I 0, I 0])) (
snp true fun h =>
snp true fun c =>
mP b fun o p =>
snp true fun d =>
snp true fun e =>
snp true fun f =>
ldC o (p + 2) fun v => asP v fun q =>
snp true fun g =>
bnd (f_draft_Draft_int_Len D [.ptr q]) fun s =>
asI .i64 s fun t =>
snp true fun i =>
snp true fun j =>
mP b fun a u =>
snp true fun k =>
snp true fun l =>
snp true fun m =>
ldC a (u + 2 + 1) fun w => asP w fun x =>
snp true fun y =>
gdP ((y.get a = m.get a ∧ m.get a = l.get a ∧ l.get a = k.get a ∧ k.get a = j.get a ∧ j.get a = i.get a ∧ i.get a = g.get a ∧ g.get a = f.get a ∧ f.get a = e.get a ∧ e.get a = d.get a ∧ d.get a = c.get a ∧ c.get a = h.get a ∧ True) ∧ True) (
bnd (f_sheet_Sheet_Draft D [.ptr x]) fun z =>
asP z fun aa =>
bnd (f_draft_Draft_file_File_Len D [.ptr aa]) fun ab =>
asI .i64 ab fun ac =>
ret (.ret [I t, I ac])))))
def f_world_World_Token (D : DD) (b : List HV) : M HV :=
fin (
uP b fun a r =>
nl r (
cond (Option.isNone a) (
ret (.ret [.ptr none])) (
mP a fun c d =>
ldC c (d + 2) fun v => asP v fun e =>
ret (.ret [.ptr e]))))
def f_token_Token_Free (D : DD) (c : List HV) : M HV :=
fin (
uP c fun a r =>
uI .i64 r fun b d =>
nl d (
jn (
cond (!(Option.isNone a)) (
cond (decide (b ≥ 0)) (
mP a fun e f =>
ldC e f fun v => asI .i64 v fun g =>
cond (g == (-1)) (
mP a fun h i =>
ldC h (i + 2) fun j => asI .i64 j fun k =>
cond (k == (-1)) (
ret (.norm [.bool true])) (
mP a fun l m =>
ldC l (m + 2) fun n => asI .i64 n fun o =>
ret (.norm [.bool (o == b)]))) (
mP a fun p q =>
ldC p q fun s => asI .i64 s fun t =>
cond (t == b) (
mP a fun u w =>
ldC u (w + 2) fun x => asI .i64 x fun y =>
cond (y == (-1)) (
ret (.norm [.bool true])) (
mP a fun z aa =>
ldC z (aa + 2) fun ab => asI .i64 ab fun ac =>
ret (.norm [.bool (ac == b)]))) (
ret (.norm [.bool false])))) (
ret (.norm [.bool false]))) (
ret (.norm [.bool false]))) fun vs =>
uB vs fun x4 af =>
nl af (
ret (.ret [.bool x4]))))
def f_reads_Now_Of (D : DD) (c : List HV) : M HV :=
fin (
uA c fun d r =>
uI .i64 r fun a e =>
uI .i64 e fun b f =>
nl f (
jn (
cond (decide (a < 0)) (
ret (.norm [.bool true])) (
cond (decide (a > 2)) (
ret (.norm [.bool true])) (
cond (decide (b < 0)) (
ret (.norm [.bool true])) (
ret (.norm [.bool (decide (b ≥ 8))]))))) fun g =>
uB g fun h i =>
nl i (
cond h (
ret (.ret [I 0])) (
gd (decide (0 ≤ a)) (gd (decide (a < (3 : Int))) (
gd (decide (0 ≤ b)) (gd (decide (b < (8 : Int))) (
gx d (0 + a.toNat * 8 + b.toNat * 1) fun v => asI .i64 v fun j =>
ret (.ret [I j])))))))))
def f_reads_Set_Valid (D : DD) (d : List HV) : M HV :=
fin (
uP d fun b r =>
uA r fun e f =>
nl f (
cond (Option.isNone b) (
ret (.ret [.bool true])) (
mP b fun g h =>
ldC g h fun v => asSl v fun c =>
blk 0 (
loopD (fun i =>
uI .i64 i fun a j =>
nl j (
cond (decide (a < (c.len : Int))) (
ix c a 3 fun k l =>
ldN k l 3 fun m =>
uI .i64 m fun n o =>
uI .i64 o fun p q =>
uI .i64 q fun s t =>
nl t (
gxN e 0 25 fun u =>
bnd (f_reads_Now_Of D [.agg u, I n, I p]) fun w =>
asI .i64 w fun x =>
cond (x != s) (
ret (.ret [.bool false])) (
ret (.norm [I (wr (a + 1))])))) (
ret (.exit 0 [])))) [I 0]) fun y =>
nl y (
ret (.ret [.bool true])))))
def f_cell_Row_file_File_Get (D : DD) (c : List HV) : M HV :=
fin (
uP c fun a r =>
uI .i64 r fun b d =>
nl d (
bnd (f_cell_Row_file_File_is D [.ptr a, I b]) fun e =>
asB e fun f =>
cond (!f) (
ret (.ret [.agg [.bool false, .str (ByteArray.mk #[])], I 0])) (
mP a fun g h =>
ldC g h fun v => asSl v fun i =>
ix i b 3 fun j k =>
ldN j k 2 fun l =>
uB l fun m n =>
uS n fun o p =>
nl p (
mP a fun q s =>
ldC q s fun t => asSl t fun u =>
ix u b 3 fun w x =>
ldC w (x + 2) fun y => asI .i64 y fun z =>
ret (.ret [.agg [.bool m, .str o], I z])))))
def f_tome_Tome_Get (D : DD) (b : List HV) : M HV :=
fin (
uP b fun a r =>
uI .i64 r fun c d =>
nl d (
cond (Option.isNone a) (
ret (.ret [.agg [.bool false, .str (ByteArray.mk #[])], I 0])) (
mP a fun e f =>
ldC e f fun v => asP v fun g =>
bnd (f_cell_Row_file_File_Get D [.ptr g, I c]) fun h =>
asT h fun i => uA i fun j k =>
uB j fun l m =>
uS m fun n o =>
nl o (
uI .i64 k fun p q =>
nl q (
ret (.ret [.agg [.bool l, .str n], I p]))))))
def f_cell_Row_int_is (D : DD) (c : List HV) : M HV :=
fin (
uP c fun a r =>
uI .i64 r fun b d =>
nl d (
jn (
cond (!(Option.isNone a)) (
cond (decide (b ≥ 0)) (
mP a fun e f =>
ldC e f fun v => asSl v fun g =>
ret (.norm [.bool (decide (b < (g.len : Int)))])) (
ret (.norm [.bool false]))) (
ret (.norm [.bool false]))) fun h =>
uB h fun i j =>
nl j (
ret (.ret [.bool i]))))
def f_cell_Row_int_Get (D : DD) (c : List HV) : M HV :=
fin (
uP c fun a r =>
uI .i64 r fun b d =>
nl d (
bnd (f_cell_Row_int_is D [.ptr a, I b]) fun e =>
asB e fun f =>
cond (!f) (
ret (.ret [I 0, I 0])) (
mP a fun g h =>
ldC g h fun v => asSl v fun i =>
ix i b 2 fun j k =>
ldC j k fun l => asI .i64 l fun m =>
mP a fun n o =>
ldC n o fun p => asSl p fun q =>
ix q b 2 fun s t =>
ldC s (t + 1) fun u => asI .i64 u fun w =>
ret (.ret [I m, I w]))))
def f_feed_Feed_Place (D : DD) (b : List HV) : M HV :=
fin (
uP b fun a r =>
uI .i64 r fun c d =>
nl d (
cond (Option.isNone a) (
ret (.ret [I 0, I 0])) (
mP a fun e f =>
ldC e (f + 3) fun v => asP v fun g =>
bnd (f_cell_Row_int_Get D [.ptr g, I c]) fun h =>
asT h fun i => uI .i64 i fun j k =>
uI .i64 k fun l m =>
nl m (
ret (.ret [I j, I l])))))
def f_cell_Row_int_Version (D : DD) (a : List HV) : M HV :=
fin (
uP a fun b r =>
uI .i64 r fun c d =>
nl d (
bnd (f_cell_Row_int_Get D [.ptr b, I c]) fun e =>
asT e fun f => uI .i64 f fun j g =>
uI .i64 g fun h i =>
nl i (
ret (.ret [I h]))))
def f_attempt_View_Now (D : DD) (i : List HV) : M HV :=
fin (
uP i fun d r =>
nl r (
cond (Option.isNone d) (
ret (.ret [.agg [I 0, I 0, I 0, I 0, I 0, I 0, I 0, I 0, I 0, I 0, I 0, I 0, I 0, I 0, I 0, I 0, I 0, I 0, I 0, I 0, I 0, I 0, I 0, I 0, I 0]])) (
mP d fun j k =>
ldC j (k + 3) fun v => asI .i64 v fun l =>
blk 0 (
loopD (fun m =>
uI .i64 m fun a n =>
uA n fun e o =>
nl o (
cond (decide (a < 8)) (
mP d fun p q =>
ldC p q fun s => asP s fun t =>
bnd (f_cell_Row_int_Version D [.ptr t, I a]) fun u =>
asI .i64 u fun w =>
gd (decide (0 ≤ a)) (gd (decide (a < (8 : Int))) (
gd (decide (0 + a.toNat * 1 < e.length)) (
ret (.norm [I (wr (a + 1)), .agg (List.set e (0 + a.toNat * 1) (I w))]))))) (
ret (.exit 0 [.agg e])))) [I 0, .agg [I 0, I 0, I 0, I 0, I 0, I 0, I 0, I 0, I 0, I 0, I 0, I 0, I 0, I 0, I 0, I 0, I 0, I 0, I 0, I 0, I 0, I 0, I 0, I 0, I l]]) fun x =>
uA x fun y z =>
nl z (
blk 2 (
loopD (fun aa =>
uI .i64 aa fun b ab =>
uA ab fun f ac =>
nl ac (
cond (decide (b < 6)) (
mP d fun ad ae =>
ldC ad (ae + 1) fun af => asP af fun ag =>
bnd (f_tome_Tome_Get D [.ptr ag, I b]) fun ah =>
asT ah fun ai => uA ai fun aj ak =>
uB aj fun a9 al =>
uS al fun ba am =>
nl am (
uI .i64 ak fun an ao =>
nl ao (
gd (decide (0 ≤ b)) (gd (decide (b < (8 : Int))) (
gd (decide (8 + b.toNat * 1 < f.length)) (
ret (.norm [I (wr (b + 1)), .agg (List.set f (8 + b.toNat * 1) (I an))]))))))) (
ret (.exit 2 [.agg f])))) [I 0, .agg y]) fun ap =>
uA ap fun aq ar =>
nl ar (
blk 4 (
loopD (fun as =>
uI .i64 as fun c au =>
uA au fun g av =>
nl av (
cond (decide (c < 3)) (
mP d fun aw ax =>
ldC aw (ax + 2) fun ay => asP ay fun az =>
bnd (f_feed_Feed_Place D [.ptr az, I c]) fun a0 =>
asT a0 fun a1 => uI .i64 a1 fun bb a2 =>
uI .i64 a2 fun a3 a4 =>
nl a4 (
gd (decide (0 ≤ c)) (gd (decide (c < (8 : Int))) (
gd (decide (16 + c.toNat * 1 < g.length)) (
ret (.norm [I (wr (c + 1)), .agg (List.set g (16 + c.toNat * 1) (I a3))])))))) (
ret (.exit 4 [.agg g])))) [I 0, .agg aq]) fun a5 =>
uA a5 fun a6 a7 =>
nl a7 (
gxN a6 0 25 fun h =>
gd (Nat.beq h.length 25) (
gd (Nat.ble (0 + h.length) (([I 0, I 0, I 0, I 0, I 0, I 0, I 0, I 0, I 0, I 0, I 0, I 0, I 0, I 0, I 0, I 0, I 0, I 0, I 0, I 0, I 0, I 0, I 0, I 0, I 0]) : List HV).length) (
gxN (putN [I 0, I 0, I 0, I 0, I 0, I 0, I 0, I 0, I 0, I 0, I 0, I 0, I 0, I 0, I 0, I 0, I 0, I 0, I 0, I 0, I 0, I 0, I 0, I 0, I 0] 0 h) 0 25 fun a8 =>
ret (.ret [.agg a8])))))))))
def f_attempt_Attempt_Valid (D : DD) (o : List HV) : M HV :=
fin (
uP o fun b r =>
nl r (
jn (
snp true fun h =>
snp true fun c =>
snp true fun d =>
snp true fun e =>
cond (!(Option.isNone b)) (
snp true fun f =>
mP b fun a p =>
snp true fun g =>
snp true fun i =>
ldC a (p + 1) fun v => asP v fun q =>
snp true fun j =>
snp true fun k =>
mP b fun s t =>
snp true fun l =>
snp true fun m =>
ldC s t fun u => asP u fun w =>
snp true fun n =>
bnd (f_attempt_View_Now D [.ptr w]) fun x =>
asA x fun y =>
snp true fun z =>
gdP ((z.get a = n.get a ∧ n.get a = m.get a ∧ m.get a = l.get a ∧ l.get a = k.get a ∧ k.get a = j.get a ∧ j.get a = i.get a ∧ i.get a = g.get a ∧ g.get a = f.get a ∧ f.get a = e.get a ∧ e.get a = d.get a ∧ d.get a = c.get a ∧ c.get a = h.get a ∧ True) ∧ True) (
bnd (f_reads_Set_Valid D [.ptr q, .agg y]) fun aa =>
asB aa fun ab =>
ret (.norm [.bool ab]))) (
snp true fun af =>
snp true fun ag =>
snp true fun ah =>
snp true fun ai =>
snp true fun aj =>
snp true fun ak =>
snp true fun al =>
snp true fun am =>
snp true fun an =>
gdP (True) (
ret (.norm [.bool false])))) fun vs =>
uB vs fun x2 ae =>
nl ae (
ret (.ret [.bool x2]))))
def f_token_Token_Lock (D : DD) (c : List HV) : M HV :=
fin (
uP c fun a r =>
uI .i64 r fun b d =>
nl d (
bnd (f_token_Token_Free D [.ptr a, I b]) fun e =>
asB e fun f =>
cond (!f) (
ret (.ret [.bool false])) (
mP a fun g h =>
stC g (h + 2) (I b) (
ret (.ret [.bool true])))))
def f_commit_Commit_check (D : DD) (p : List HV) : M HV :=
fin (
uP p fun c r =>
uP r fun d q =>
nl q (
snp true fun h =>
snp true fun e =>
bnd (f_world_World_Token D [.ptr d]) fun s =>
asP s fun t =>
snp true fun f =>
snp true fun g =>
mP c fun a u =>
snp true fun i =>
snp true fun j =>
ldC a u fun v => asI .i64 v fun w =>
snp true fun x =>
gdP ((x.get a = j.get a ∧ j.get a = i.get a ∧ i.get a = g.get a ∧ g.get a = f.get a ∧ f.get a = e.get a ∧ e.get a = h.get a ∧ True) ∧ True) (
bnd (f_token_Token_Free D [.ptr t, I w]) fun y =>
asB y fun z =>
cond (!z) (
ret (.ret [I 10])) (
mP c fun aa ab =>
ldC aa (ab + 1) fun ac => asP ac fun ad =>
bnd (f_attempt_Attempt_Valid D [.ptr ad]) fun ae =>
asB ae fun af =>
cond (!af) (
ret (.ret [I 9])) (
snp true fun ag =>
snp true fun k =>
bnd (f_world_World_Token D [.ptr d]) fun ah =>
asP ah fun ai =>
snp true fun l =>
snp true fun m =>
mP c fun b aj =>
snp true fun n =>
snp true fun o =>
ldC b aj fun ak => asI .i64 ak fun al =>
snp true fun am =>
gdP ((am.get b = o.get b ∧ o.get b = n.get b ∧ n.get b = m.get b ∧ m.get b = l.get b ∧ l.get b = k.get b ∧ k.get b = ag.get b ∧ True) ∧ True) (
bnd (f_token_Token_Lock D [.ptr ai, I al]) fun an =>
asB an fun a3 =>
mP c fun ao ap =>
stC ao (ap + 2) (I 1) (
mP c fun aq ar =>
ldC aq (ar + 1) fun as => asP as fun au =>
bnd (f_attempt_Attempt_Writes D [.ptr au]) fun av =>
asT av fun aw => uI .i64 aw fun a4 ax =>
uI .i64 ax fun ay az =>
nl az (
jn (
cond (ay == 0) (
mP c fun a0 a1 =>
stC a0 (a1 + 2) (I 3) (
ret (.norm []))) (
ret (.norm []))) fun vs =>
nl vs (
ret (.ret [I 0]))))))))))
def f_token_Token_Sure (D : DD) (c : List HV) : M HV :=
fin (
uP c fun a r =>
uI .i64 r fun b d =>
nl d (
jn (
cond (!(Option.isNone a)) (
cond (decide (b ≥ 0)) (
mP a fun e f =>
ldC e f fun v => asI .i64 v fun g =>
cond (g == b) (
mP a fun h i =>
ldC h (i + 1) fun j => asB j fun k =>
ret (.norm [.bool (!k)])) (
ret (.norm [.bool false]))) (
ret (.norm [.bool false]))) (
ret (.norm [.bool false]))) fun l =>
uB l fun m n =>
nl n (
ret (.ret [.bool m]))))
def f_token_Token_Unlock (D : DD) (c : List HV) : M HV :=
fin (
uP c fun a r =>
uI .i64 r fun b d =>
nl d (
jn (
cond (Option.isNone a) (
ret (.norm [.bool true])) (
cond (decide (b < 0)) (
ret (.norm [.bool true])) (
mP a fun e f =>
ldC e (f + 2) fun v => asI .i64 v fun g =>
ret (.norm [.bool (g != b)])))) fun h =>
uB h fun i j =>
nl j (
cond i (
ret (.ret [.bool false])) (
mP a fun k l =>
stC k (l + 2) (I (-1)) (
ret (.ret [.bool true]))))))
def f_wal_Log_Size (D : DD) (b : List HV) : M HV :=
fin (
uP b fun a r =>
nl r (
cond (Option.isNone a) (
ret (.ret [I 0])) (
mP a fun c d =>
ldC c (d + 2) fun v => asI .i64 v fun e =>
ret (.ret [I e]))))
def f_vault_Vault_Size (D : DD) (b : List HV) : M HV :=
fin (
uP b fun a r =>
nl r (
cond (Option.isNone a) (
ret (.ret [I 0])) (
mP a fun c d =>
ldC c (d + 1) fun v => asP v fun e =>
bnd (f_wal_Log_Size D [.ptr e]) fun f =>
asI .i64 f fun g =>
ret (.ret [I g]))))
def f_vault_Vault_Append (D : DD) (c : List HV) : M HV :=
fin (
uP c fun a r =>
uS r fun b d =>
nl d (
cond (Option.isNone a) (
ret (.ret [I 2])) (
mP a fun e f =>
ldC e (f + 3) fun v => asB v fun g =>
cond (!g) (
ret (.ret [I 9])) (
mP a fun h i =>
ldC h (i + 1) fun j => asP j fun k =>
gd (decide ((strB [1]).size + b.size ≤ 9223372036854775807)) (
bnd (f_wal_Log_Append D [.ptr k, .str ((strB [1]) ++ b)]) fun l =>
asI .i64 l fun m =>
ret (.ret [I m]))))))
def f_draft_Draft_file_File_All_1 (D : DD) (d : List HV) : M HV :=
fin (
uc d fun e r =>
uP r fun b f =>
nl f (
mP b fun g h =>
ldC g h fun v => asP v fun i =>
cond (Option.isNone i) (
ret (.ret [])) (
mP b fun j k =>
ldC j k fun l => asP l fun m =>
mP m fun n o =>
ldC n o fun p => asSl p fun c =>
blk 0 (
loopD (fun q =>
uI .i64 q fun a s =>
nl s (
cond (decide (a < (c.len : Int))) (
ix c a 3 fun t u =>
ldN t u 3 fun w =>
uI .i64 w fun x y =>
uB y fun z aa =>
uS aa fun ab ac =>
nl ac (
bnd (D e [I x, .agg [.bool z, .str ab]]) fun ad =>
asB ad fun ae =>
cond (!ae) (
ret (.ret [])) (
ret (.norm [I (wr (a + 1))])))) (
ret (.exit 0 [])))) [I 0]) fun vs =>
nl vs (
ret (.ret [])))))
def f_draft_Draft_file_File_All (D : DD) (a : List HV) : M HV :=
fin (
uP a fun b r =>
nl r (
nw [.ptr b] fun c =>
ret (.ret [.func n_draft_Draft_file_File_All_1 [] [.ptr (some (c, 0))]])))
def f_redo_Bytes (D : DD) (d : List HV) : M HV :=
fin (
uI .i64 d fun e r =>
uP r fun f g =>
nl g (
nw [.sl (⟨none, 0, 0, none⟩)] fun h =>
nw [.ptr none] fun b =>
stC b 0 (.ptr (some (h, 0))) (
ldC b 0 fun v => asP v fun i =>
nw [I e] fun j =>
bnd (f_stylus_Stylus_Nat D [.ptr i, .sl (⟨some (j, 0), 1, 1, none⟩)]) fun k =>
asT k fun m => nl m (
bnd (f_draft_Draft_file_File_All D [.ptr f]) fun c =>
blk 0 (
ny c (nwL 89324821 [(5, .ptr (some (b, 0)))] fun l =>
bnd (D c [.yld l]) fun q =>
endL l (
ret (.norm []))
(onX 0 (ret (.exit 0 [])) noX) (
ret (.ret [.str (ByteArray.mk #[])])))) fun n =>
nl n (
ldC b 0 fun o => asP o fun p =>
bnd (f_stylus_Stylus_Bytes D [.ptr p]) fun s =>
asS s fun t =>
ret (.ret [.str t]))))))
def r0_redo_Bytes (D : DD) (l : Nat) (c : List (Nat × HV)) (d : List HV) : M Leaf :=
gdS [5] c fun vs' =>
uP vs' fun a r =>
nl r (
uI .i64 d fun b e =>
uA e fun f g =>
uB f fun h i =>
uS i fun j k =>
nl k (
nl g (
busyL l (
cond h (
mP a fun m n =>
ldC m n fun v => asP v fun o =>
nw [I b, I 1] fun p =>
bnd (f_stylus_Stylus_Nat D [.ptr o, .sl (⟨some (p, 0), 2, 2, none⟩)]) fun q =>
asT q fun s => nl s (
mP a fun t u =>
ldC t u fun w => asP w fun x =>
nw [.str j] fun y =>
bnd (f_stylus_Stylus_Text D [.ptr x, .sl (⟨some (y, 0), 1, 1, none⟩)]) fun z =>
asT z fun aa => nl aa (
ret (.norm [])))) (
mP a fun ab ac =>
ldC ab ac fun ad => asP ad fun ae =>
nw [I b, I 0] fun af =>
bnd (f_stylus_Stylus_Nat D [.ptr ae, .sl (⟨some (af, 0), 2, 2, none⟩)]) fun ag =>
asT ag fun ah => nl ah (
ret (.norm [])))))))
def f_world_World_Write (D : DD) (ag : List HV) : M HV :=
fin (
uP ag fun c r =>
uP r fun x1 ai =>
nl ai (
cond (Option.isNone c) (
ret (.ret [I 2])) (
mP c fun aj ak =>
ldC aj (ak + 11) fun v => asI .i64 v fun al =>
cond (decide (al > 0)) (
mP c fun am an =>
ldC am (an + 11) fun ao => asI .i64 ao fun ap =>
mP c fun aq ar =>
stC aq (ar + 11) (I (wr (ap - 1))) (
ret (.ret [I 7]))) (
mP c fun as au =>
ldC as (au + 10) fun av => asI .i64 av fun aw =>
cond (decide (aw ≥ 1099511627776)) (
ret (.ret [I 6])) (
mP c fun ax ay =>
ldC ax (ay + 4) fun az => asP az fun a0 =>
bnd (f_vault_Vault_Size D [.ptr a0]) fun a1 =>
asI .i64 a1 fun a2 =>
jn (
cond (decide (a2 > 2048)) (
snp true fun h =>
snp true fun d =>
mP c fun a a3 =>
snp true fun e =>
snp true fun f =>
ldC a (a3 + 4) fun a4 => asP a4 fun a5 =>
snp true fun g =>
snp true fun i =>
mP c fun a6 a7 =>
snp true fun j =>
snp true fun k =>
ldC a6 (a7 + 10) fun a8 => asI .i64 a8 fun a9 =>
snp true fun l =>
snp true fun m =>
mP c fun ba bb =>
snp true fun n =>
snp true fun o =>
ldC ba bb fun bc => asP bc fun bd =>
snp true fun p =>
mP bd fun be bf =>
snp true fun q =>
snp true fun s =>
ldC be (bf + 1) fun bg => asP bg fun bh =>
snp true fun t =>
bnd (f_world_image D [I a9, .ptr bh]) fun bi =>
asS bi fun bj =>
snp true fun bk =>
gdP ((bk.get a = t.get a ∧ t.get a = s.get a ∧ s.get a = q.get a ∧ q.get a = p.get a ∧ p.get a = o.get a ∧ o.get a = n.get a ∧ n.get a = m.get a ∧ m.get a = l.get a ∧ l.get a = k.get a ∧ k.get a = j.get a ∧ j.get a = i.get a ∧ i.get a = g.get a ∧ g.get a = f.get a ∧ f.get a = e.get a ∧ e.get a = d.get a ∧ d.get a = h.get a ∧ True) ∧ True) (
bnd (f_vault_Vault_Settle D [.ptr a5, .str bj]) fun bl =>
asI .i64 bl fun u =>
cond (u != 0) (
ret (.ret [I u])) (
ret (.norm [])))) (
ret (.norm []))) fun vs =>
nl vs (
snp true fun bn =>
snp true fun w =>
mP c fun b bo =>
snp true fun x =>
snp true fun y =>
ldC b (bo + 4) fun bp => asP bp fun bq =>
snp true fun z =>
snp true fun aa =>
mP c fun br bs =>
snp true fun ab =>
snp true fun ac =>
ldC br (bs + 10) fun bt => asI .i64 bt fun bu =>
snp true fun ad =>
snp true fun ae =>
snp true fun af =>
bnd (f_redo_Bytes D [I (wr (bu + 1)), .ptr x1]) fun bv =>
asS bv fun bw =>
snp true fun bx =>
gdP ((bx.get b = af.get b ∧ af.get b = ae.get b ∧ ae.get b = ad.get b ∧ ad.get b = ac.get b ∧ ac.get b = ab.get b ∧ ab.get b = aa.get b ∧ aa.get b = z.get b ∧ z.get b = y.get b ∧ y.get b = x.get b ∧ x.get b = w.get b ∧ w.get b = bn.get b ∧ True) ∧ True) (
bnd (f_vault_Vault_Append D [.ptr bq, .str bw]) fun bz =>
asI .i64 bz fun b0 =>
ret (.ret [I b0]))))))))
def f_attempt_Attempt_State (D : DD) (b : List HV) : M HV :=
fin (
uP b fun a r =>
nl r (
cond (Option.isNone a) (
ret (.ret [.agg [.ptr none, .ptr none, .ptr none, I 0, I 0, I 0, I 0]])) (
mP a fun c d =>
ldN c (d + 2) 7 fun e =>
uP e fun f g =>
uP g fun h i =>
uP i fun j k =>
uI .i64 k fun l m =>
uI .i64 m fun n o =>
uI .i64 o fun p q =>
uI .i64 q fun s t =>
nl t (
ret (.ret [.agg [.ptr f, .ptr h, .ptr j, I l, I n, I p, I s]])))))
def f_commit_Commit_write (D : DD) (q : List HV) : M HV :=
fin (
uP q fun c r =>
uP r fun d s =>
nl s (
mP c fun t u =>
ldC t (u + 1) fun v => asP v fun w =>
bnd (f_attempt_Attempt_State D [.ptr w]) fun x =>
asA x fun y => uP y fun a3 z =>
uP z fun aa ab =>
uP ab fun a4 ac =>
uI .i64 ac fun a5 ad =>
uI .i64 ad fun a6 ae =>
uI .i64 ae fun a7 af =>
uI .i64 af fun a8 ag =>
nl ag (
bnd (f_sheet_Sheet_Draft D [.ptr aa]) fun ah =>
asP ah fun ai =>
bnd (f_world_World_Write D [.ptr d, .ptr ai]) fun aj =>
asI .i64 aj fun e =>
cond (e == 0) (
mP c fun ak al =>
stC ak (al + 2) (I 2) (
ret (.ret [I 0]))) (
snp true fun h =>
snp true fun f =>
bnd (f_world_World_Token D [.ptr d]) fun am =>
asP am fun an =>
snp true fun g =>
snp true fun i =>
mP c fun a ao =>
snp true fun j =>
snp true fun k =>
ldC a ao fun ap => asI .i64 ap fun aq =>
snp true fun ar =>
gdP ((ar.get a = k.get a ∧ k.get a = j.get a ∧ j.get a = i.get a ∧ i.get a = g.get a ∧ g.get a = f.get a ∧ f.get a = h.get a ∧ True) ∧ True) (
bnd (f_token_Token_Sure D [.ptr an, I aq]) fun as =>
asB as fun au =>
cond au (
ret (.ret [I 10])) (
snp true fun av =>
snp true fun l =>
bnd (f_world_World_Token D [.ptr d]) fun aw =>
asP aw fun ax =>
snp true fun m =>
snp true fun n =>
mP c fun b ay =>
snp true fun o =>
snp true fun p =>
ldC b ay fun az => asI .i64 az fun a0 =>
snp true fun a1 =>
gdP ((a1.get b = p.get b ∧ p.get b = o.get b ∧ o.get b = n.get b ∧ n.get b = m.get b ∧ m.get b = l.get b ∧ l.get b = av.get b ∧ True) ∧ True) (
bnd (f_token_Token_Unlock D [.ptr ax, I a0]) fun a2 =>
asB a2 fun a9 =>
ret (.ret [I e]))))))))
def f_vault_Vault_Force (D : DD) (b : List HV) : M HV :=
fin (
uP b fun a r =>
nl r (
cond (!(Option.isNone a)) (
mP a fun c d =>
ldC c (d + 1) fun v => asP v fun e =>
bnd (f_wal_Log_Force D [.ptr e]) fun f =>
asT f fun g => nl g (
ret (.ret []))) (
ret (.ret []))))
def f_world_World_Force (D : DD) (b : List HV) : M HV :=
fin (
uP b fun a r =>
nl r (
cond (!(Option.isNone a)) (
mP a fun c d =>
ldC c (d + 4) fun v => asP v fun e =>
bnd (f_vault_Vault_Force D [.ptr e]) fun f =>
asT f fun g => nl g (
ret (.ret []))) (
ret (.ret []))))
def f_attempt_Attempt_Acts (D : DD) (b : List HV) : M HV :=
fin (
uP b fun a r =>
nl r (
cond (Option.isNone a) (
ret (.ret [.ptr none])) (
mP a fun c d =>
ldC c (d + 9) fun v => asP v fun e =>
ret (.ret [.ptr e]))))
def f_token_Token_Drop (D : DD) (c : List HV) : M HV :=
fin (
uP c fun a r =>
uI .i64 r fun b d =>
nl d (
jn (
cond (Option.isNone a) (
ret (.norm [.bool true])) (
cond (decide (b < 0)) (
ret (.norm [.bool true])) (
mP a fun e f =>
ldC e f fun v => asI .i64 v fun g =>
ret (.norm [.bool (g != b)])))) fun h =>
uB h fun i j =>
nl j (
cond i (
ret (.ret [.bool false])) (
mP a fun k l =>
stC k l (I (-1)) (
mP a fun m n =>
stC m (n + 1) (.bool false) (
ret (.ret [.bool true])))))))
def f_draft_Draft_int_All_1 (D : DD) (d : List HV) : M HV :=
fin (
uc d fun e r =>
uP r fun b f =>
nl f (
mP b fun g h =>
ldC g h fun v => asP v fun i =>
cond (Option.isNone i) (
ret (.ret [])) (
mP b fun j k =>
ldC j k fun l => asP l fun m =>
mP m fun n o =>
ldC n o fun p => asSl p fun c =>
blk 0 (
loopD (fun q =>
uI .i64 q fun a s =>
nl s (
cond (decide (a < (c.len : Int))) (
ix c a 2 fun t u =>
ldN t u 2 fun w =>
uI .i64 w fun x y =>
uI .i64 y fun z aa =>
nl aa (
bnd (D e [I x, I z]) fun ab =>
asB ab fun ac =>
cond (!ac) (
ret (.ret [])) (
ret (.norm [I (wr (a + 1))])))) (
ret (.exit 0 [])))) [I 0]) fun vs =>
nl vs (
ret (.ret [])))))
def f_draft_Draft_int_All (D : DD) (a : List HV) : M HV :=
fin (
uP a fun b r =>
nl r (
nw [.ptr b] fun c =>
ret (.ret [.func n_draft_Draft_int_All_1 [] [.ptr (some (c, 0))]])))
def f_cell_Row_int_Set (D : DD) (c : List HV) : M HV :=
fin (
uP c fun a r =>
uI .i64 r fun b d =>
uI .i64 d fun e f =>
uI .i64 f fun g h =>
nl h (
bnd (f_cell_Row_int_is D [.ptr a, I b]) fun i =>
asB i fun j =>
cond (!j) (
ret (.ret [.bool false])) (
mP a fun k l =>
ldC k l fun v => asSl v fun m =>
ix m b 2 fun n o =>
stN n o [I e, I g] (
ret (.ret [.bool true])))))
def f_sheet_Sheet_Over (D : DD) (d : List HV) : M HV :=
fin (
uP d fun e r =>
uP r fun f g =>
uI .i64 g fun h i =>
nl i (
nw [.ptr f] fun j =>
nw [I h] fun k =>
nw [I 0] fun b =>
stC b 0 (I 0) (
bnd (f_sheet_Sheet_Draft D [.ptr e]) fun m =>
asP m fun n =>
bnd (f_draft_Draft_file_File_All D [.ptr n]) fun c =>
blk 0 (
ny c (nwL 82349159 [(4, .ptr (some (j, 0))), (5, .ptr (some (k, 0))), (7, .ptr (some (b, 0)))] fun l =>
bnd (D c [.yld l]) fun q =>
endL l (
ret (.norm []))
(onX 0 (ret (.exit 0 [])) noX) (
ret (.ret [I 0])))) fun o =>
nl o (
ldC b 0 fun v => asI .i64 v fun p =>
ret (.ret [I p])))))
def r0_sheet_Sheet_Over (D : DD) (l : Nat) (b : List (Nat × HV)) (c : List HV) : M Leaf :=
gdS [4, 5, 7] b fun vs' =>
uP vs' fun d r =>
uP r fun e f =>
uP f fun a g =>
nl g (
uI .i64 c fun h i =>
uA i fun j k =>
uB j fun m n =>
uS n fun o p =>
nl p (
nl k (
busyL l (
mP d fun q s =>
ldC q s fun v => asP v fun t =>
mP e fun u w =>
ldC u w fun x => asI .i64 x fun y =>
bnd (f_tome_Tome_Set D [.ptr t, I h, .agg [.bool m, .str o], I y]) fun z =>
asB z fun aa =>
cond aa (
mP a fun ab ac =>
ldC ab ac fun ad => asI .i64 ad fun ae =>
mP a fun qb qo =>
stC qb qo (I (wr (ae + 1))) (
ret (.norm []))) (
ret (.norm []))))))
def f_cursor_is (D : DD) (b : List HV) : M HV :=
fin (
uI .i64 b fun a r =>
nl r (
jn (
cond (decide (a ≥ 0)) (
ret (.norm [.bool (decide (a < 3))])) (
ret (.norm [.bool false]))) fun c =>
uB c fun d e =>
nl e (
ret (.ret [.bool d]))))
def f_cursor_Cursor_Read (D : DD) (c : List HV) : M HV :=
fin (
uP c fun b r =>
uI .i64 r fun a d =>
nl d (
jn (
cond (Option.isNone b) (
ret (.norm [.bool true])) (
bnd (f_cursor_is D [I a]) fun e =>
asB e fun f =>
ret (.norm [.bool (!f)]))) fun g =>
uB g fun h i =>
nl i (
cond h (
ret (.ret [I 0])) (
mP b fun j k =>
gd (decide (0 ≤ a)) (gd (decide (a < (3 : Int))) (
ldC j (k + a.toNat * 1) fun v => asI .i64 v fun l =>
ret (.ret [I l])))))))
def f_feed_Feed_is (D : DD) (b : List HV) : M HV :=
fin (
uP b fun c r =>
uI .i64 r fun a d =>
nl d (
jn (
cond (!(Option.isNone c)) (
cond (decide (a ≥ 0)) (
ret (.norm [.bool (decide (a < 3))])) (
ret (.norm [.bool false]))) (
ret (.norm [.bool false]))) fun e =>
uB e fun f g =>
nl g (
ret (.ret [.bool f]))))
def f_feed_Feed_Take (D : DD) (d : List HV) : M HV :=
fin (
uP d fun b r =>
uI .i64 r fun a e =>
uI .i64 e fun c f =>
uI .i64 f fun g h =>
nl h (
bnd (f_feed_Feed_Place D [.ptr b, I a]) fun i =>
asT i fun j => uI .i64 j fun k l =>
uI .i64 l fun ad m =>
nl m (
jn (
bnd (f_feed_Feed_is D [.ptr b, I a]) fun n =>
asB n fun o =>
cond (!o) (
ret (.norm [.bool true])) (
cond (decide (c < k)) (
ret (.norm [.bool true])) (
mP b fun p q =>
gd (decide (0 ≤ a)) (gd (decide (a < (3 : Int))) (
ldC p (q + a.toNat * 1) fun v => asS v fun s =>
ret (.norm [.bool (decide (c > (s.size : Int)))])))))) fun t =>
uB t fun u w =>
nl w (
cond u (
ret (.ret [.bool false])) (
mP b fun x y =>
ldC x (y + 3) fun z => asP z fun aa =>
bnd (f_cell_Row_int_Set D [.ptr aa, I a, I c, I g]) fun ab =>
asB ab fun ac =>
ret (.ret [.bool ac]))))))
def f_attempt_Attempt_Land (D : DD) (h : List HV) : M HV :=
fin (
uP h fun c r =>
nl r (
bnd (f_attempt_Attempt_Valid D [.ptr c]) fun i =>
asB i fun j =>
cond (!j) (
ret (.ret [.bool false])) (
mP c fun k m =>
ldC k m fun v => asP v fun n =>
nw [.ptr none] fun b =>
stC b 0 (.ptr n) (
ldC b 0 fun o => asP o fun e =>
mP e fun p s =>
ldC p (s + 3) fun t => asI .i64 t fun u =>
mP e fun w x =>
stC w (x + 3) (I (wr (u + 1))) (
mP c fun y z =>
ldC y (z + 2) fun aa => asP aa fun ab =>
bnd (f_draft_Draft_int_All D [.ptr ab]) fun f =>
blk 0 (
ny f (nwL 45135019 [(3, .ptr (some (b, 0)))] fun l =>
bnd (D f [.yld l]) fun q =>
endL l (
ret (.norm []))
(onX 0 (ret (.exit 0 [])) noX) (
ret (.ret [.bool false])))) fun vs =>
nl vs (
mP c fun ad ae =>
ldC ad (ae + 2 + 1) fun af => asP af fun ag =>
ldC b 0 fun ah => asP ah fun ai =>
mP ai fun aj ak =>
ldC aj (ak + 1) fun al => asP al fun am =>
ldC b 0 fun an => asP an fun ao =>
mP ao fun ap aq =>
ldC ap (aq + 3) fun ar => asI .i64 ar fun as =>
bnd (f_sheet_Sheet_Over D [.ptr ag, .ptr am, I as]) fun au =>
asI .i64 au fun bs =>
blk 2 (
loopD (fun av =>
uI .i64 av fun d aw =>
nl aw (
cond (decide (d < 3)) (
blk 3 (
mP c fun ax ay =>
ldC ax (ay + 2 + 2) fun az => asP az fun a0 =>
bnd (f_cursor_Cursor_Read D [.ptr a0, I d]) fun a1 =>
asI .i64 a1 fun g =>
cond (decide (g > 0)) (
ldC b 0 fun a2 => asP a2 fun a3 =>
mP a3 fun a4 a5 =>
ldC a4 (a5 + 2) fun a6 => asP a6 fun a7 =>
bnd (f_feed_Feed_Place D [.ptr a7, I d]) fun a8 =>
asT a8 fun a9 => uI .i64 a9 fun ba bb =>
uI .i64 bb fun bt bc =>
nl bc (
ldC b 0 fun bd => asP bd fun be =>
mP be fun bf bg =>
ldC bf (bg + 2) fun bh => asP bh fun bi =>
ldC b 0 fun bj => asP bj fun bk =>
mP bk fun bl bm =>
ldC bl (bm + 3) fun bn => asI .i64 bn fun bo =>
bnd (f_feed_Feed_Take D [.ptr bi, I d, I (wr (ba + g)), I bo]) fun bp =>
asB bp fun bu =>
ret (.norm []))) (
ret (.norm []))) fun bq =>
nl bq (
ret (.norm [I (wr (d + 1))]))) (
ret (.exit 2 [])))) [I 0]) fun br =>
nl br (
ret (.ret [.bool true]))))))))
def r0_attempt_Attempt_Land (D : DD) (l : Nat) (b : List (Nat × HV)) (c : List HV) : M Leaf :=
gdS [3] b fun vs' =>
uP vs' fun a r =>
nl r (
uI .i64 c fun d e =>
uI .i64 e fun f g =>
nl g (
busyL l (
mP a fun h i =>
ldC h i fun v => asP v fun j =>
mP j fun k m =>
ldC k m fun n => asP n fun o =>
mP a fun p q =>
ldC p q fun s => asP s fun t =>
mP t fun u w =>
ldC u (w + 3) fun x => asI .i64 x fun y =>
bnd (f_cell_Row_int_Set D [.ptr o, I d, I f, I y]) fun z =>
asB z fun aa =>
ret (.norm []))))
def f_wire_Wire_at (D : DD) (c : List HV) : M HV :=
fin (
uP c fun b r =>
uI .i64 r fun a d =>
nl d (
jn (
cond (Option.isNone b) (
ret (.norm [.bool true])) (
cond (decide (a < 0)) (
ret (.norm [.bool true])) (
ret (.norm [.bool (decide (a ≥ 3))])))) fun e =>
uB e fun f g =>
nl g (
cond f (
ret (.ret [.ptr none])) (
mP b fun h i =>
gd (decide (0 ≤ a)) (gd (decide (a < (3 : Int))) (
ret (.ret [.ptr (some (h, i + a.toNat * 3))])))))))
def f_wire_Wire_Push (D : DD) (d : List HV) : M HV :=
fin (
uP d fun e r =>
uI .i64 r fun f g =>
uS g fun b h =>
nl h (
bnd (f_wire_Wire_at D [.ptr e, I f]) fun i =>
asP i fun a =>
cond (Option.isNone a) (
ret (.ret [.bool false])) (
mP a fun j k =>
ldC j k fun v => asS v fun c =>
gd (decide (c.size + b.size ≤ 9223372036854775807)) (
mP a fun l m =>
stC l m (.str (c ++ b)) (
ret (.ret [.bool true]))))))
def f_world_World_Send (D : DD) (d : List HV) : M HV :=
fin (
uP d fun b r =>
uL r fun c e =>
nl e (
cond (Option.isNone b) (
ret (.ret [])) (
blk 0 (
loopD (fun f =>
uI .i64 f fun a g =>
nl g (
cond (decide (a < (c.len : Int))) (
ix c a 2 fun h i =>
ldN h i 2 fun j =>
uI .i64 j fun k l =>
uI .u8 l fun m n =>
nl n (
mP b fun o p =>
ldC o (p + 1) fun v => asP v fun q =>
bnd (f_wire_Wire_Push D [.ptr q, I k, .str (strB [m])]) fun s =>
asB s fun u =>
ret (.norm [I (wr (a + 1))]))) (
ret (.exit 0 [])))) [I 0]) fun t =>
nl t (
ret (.ret [])))))
def f_slices_Grow_acts_Out_acts_Out (D : DD) (d : List HV) : M HV :=
fin (
uL d fun a r =>
uI .i64 r fun b e =>
nl e (
cond (decide (b < 0)) (
stk) (
gd (Option.isNone a.opn) (
jn (
cond (decide ((wr (b - (wr ((a.cap : Int) - (a.len : Int))))) > 0)) (
gd (Option.isNone a.opn) (
gd (decide (0 ≤ 0)) (gd (decide (0 ≤ (a.cap : Int))) (gd (decide ((a.cap : Int) ≤ (a.cap : Int))) (gd (decide ((a.cap : Int) ≤ (a.cap : Int))) (gd (slOk a.opn 2) (
gd (Option.isNone (⟨bif decide ((a.cap : Int) = 0) then a.p else a.p.map (fun q => (q.1, q.2 + (0 : Int).toNat * 2)), ((a.cap : Int) - 0 : Int).toNat, ((a.cap : Int) - 0 : Int).toNat, slOp a.opn (decide (0 < (a.cap : Int)))⟩ : Sl).p && Option.isNone (⟨bif decide ((a.cap : Int) = 0) then a.p else a.p.map (fun q => (q.1, q.2 + (0 : Int).toNat * 2)), ((a.cap : Int) - 0 : Int).toNat, ((a.cap : Int) - 0 : Int).toNat, slOp a.opn (decide (0 < (a.cap : Int)))⟩ : Sl).opn && decide ((⟨bif decide ((a.cap : Int) = 0) then a.p else a.p.map (fun q => (q.1, q.2 + (0 : Int).toNat * 2)), ((a.cap : Int) - 0 : Int).toNat, ((a.cap : Int) - 0 : Int).toNat, slOp a.opn (decide (0 < (a.cap : Int)))⟩ : Sl).len = 0) && decide ((⟨bif decide ((a.cap : Int) = 0) then a.p else a.p.map (fun q => (q.1, q.2 + (0 : Int).toNat * 2)), ((a.cap : Int) - 0 : Int).toNat, ((a.cap : Int) - 0 : Int).toNat, slOp a.opn (decide (0 < (a.cap : Int)))⟩ : Sl).cap = 0)) (gd (decide (0 < (wr (b - (wr ((a.cap : Int) - (a.len : Int)))))) && decide (((wr (b - (wr ((a.cap : Int) - (a.len : Int)))))).toNat * 16 ≤ room) && decide (((wr (b - (wr ((a.cap : Int) - (a.len : Int)))))).toNat ≤ room)) (nw (repL ((wr (b - (wr ((a.cap : Int) - (a.len : Int)))))).toNat [I 0, .int .u8 0]) fun c =>
gd (decide (0 ≤ 0)) (gd (decide (0 ≤ (a.len : Int))) (gd (decide ((a.len : Int) ≤ ((⟨some (c, 0), ((wr (b - (wr ((a.cap : Int) - (a.len : Int)))))).toNat, ((wr (b - (wr ((a.cap : Int) - (a.len : Int)))))).toNat, some 2⟩ : Sl).cap : Int))) (gd (decide (((⟨some (c, 0), ((wr (b - (wr ((a.cap : Int) - (a.len : Int)))))).toNat, ((wr (b - (wr ((a.cap : Int) - (a.len : Int)))))).toNat, some 2⟩ : Sl).cap : Int) ≤ ((⟨some (c, 0), ((wr (b - (wr ((a.cap : Int) - (a.len : Int)))))).toNat, ((wr (b - (wr ((a.cap : Int) - (a.len : Int)))))).toNat, some 2⟩ : Sl).cap : Int))) (gd (slOk ((⟨some (c, 0), ((wr (b - (wr ((a.cap : Int) - (a.len : Int)))))).toNat, ((wr (b - (wr ((a.cap : Int) - (a.len : Int)))))).toNat, some 2⟩ : Sl).opn) 2) (
ret (.norm [.sl (⟨bif decide (((⟨some (c, 0), ((wr (b - (wr ((a.cap : Int) - (a.len : Int)))))).toNat, ((wr (b - (wr ((a.cap : Int) - (a.len : Int)))))).toNat, some 2⟩ : Sl).cap : Int) = 0) then (⟨some (c, 0), ((wr (b - (wr ((a.cap : Int) - (a.len : Int)))))).toNat, ((wr (b - (wr ((a.cap : Int) - (a.len : Int)))))).toNat, some 2⟩ : Sl).p else ((⟨some (c, 0), ((wr (b - (wr ((a.cap : Int) - (a.len : Int)))))).toNat, ((wr (b - (wr ((a.cap : Int) - (a.len : Int)))))).toNat, some 2⟩ : Sl).p).map (fun q => (q.1, q.2 + (0 : Int).toNat * 2)), ((a.len : Int) - 0 : Int).toNat, (((⟨some (c, 0), ((wr (b - (wr ((a.cap : Int) - (a.len : Int)))))).toNat, ((wr (b - (wr ((a.cap : Int) - (a.len : Int)))))).toNat, some 2⟩ : Sl).cap : Int) - 0 : Int).toNat, slOp ((⟨some (c, 0), ((wr (b - (wr ((a.cap : Int) - (a.len : Int)))))).toNat, ((wr (b - (wr ((a.cap : Int) - (a.len : Int)))))).toNat, some 2⟩ : Sl).opn) (decide (0 < ((⟨some (c, 0), ((wr (b - (wr ((a.cap : Int) - (a.len : Int)))))).toNat, ((wr (b - (wr ((a.cap : Int) - (a.len : Int)))))).toNat, some 2⟩ : Sl).cap : Int)))⟩)]))))))))))))))) (
ret (.norm [.sl a]))) fun f =>
uL f fun g h =>
nl h (
ret (.ret [.sl g]))))))
def f_slices_Concat_acts_Out_acts_Out (D : DD) (h : List HV) : M HV :=
fin (
uL h fun a r =>
nl r (
blk 0 (
loopD (fun i =>
uI .i64 i fun b j =>
uI .i64 j fun c k =>
nl k (
cond (decide (c < (a.len : Int))) (
ix a c 1 fun l m =>
ldC l m fun v => asSl v fun e =>
cond (decide ((wr (b + (e.len : Int))) < 0)) (
stk) (
ret (.norm [I (wr (b + (e.len : Int))), I (wr (c + 1))]))) (
ret (.exit 0 [I b])))) [I 0, I 0]) fun n =>
uI .i64 n fun o p =>
nl p (
bnd (f_slices_Grow_acts_Out_acts_Out D [.sl (⟨none, 0, 0, none⟩), I o]) fun q =>
asSl q fun s =>
blk 2 (
loopD (fun t =>
uL t fun f u =>
uI .i64 u fun d w =>
nl w (
cond (decide (d < (a.len : Int))) (
ix a d 1 fun x y =>
ldC x y fun z => asSl z fun g =>
rdS g 2 fun aa =>
apd f 2 16 g.len aa fun ab =>
ret (.norm [.sl ab, I (wr (d + 1))])) (
ret (.exit 2 [.sl f])))) [.sl s, I 0]) fun ac =>
uL ac fun ad ae =>
nl ae (
ret (.ret [.sl ad])))))
def f_acts_Acts_Output (D : DD) (b : List HV) : M HV :=
fin (
uP b fun a r =>
nl r (
cond (Option.isNone a) (
ret (.ret [.sl (⟨none, 0, 0, none⟩)])) (
mP a fun c d =>
ldC c d fun v => asSl v fun e =>
mP a fun f g =>
ldC f (g + 1) fun h => asSl h fun i =>
nw [.sl e, .sl i] fun j =>
bnd (f_slices_Concat_acts_Out_acts_Out D [.sl (⟨some (j, 0), 2, 2, none⟩)]) fun k =>
asSl k fun l =>
ret (.ret [.sl l]))))
def f_world_World_Done (D : DD) (b : List HV) : M HV :=
fin (
uP b fun a r =>
nl r (
cond (!(Option.isNone a)) (
mP a fun c d =>
ldC c (d + 10) fun v => asI .i64 v fun e =>
mP a fun f g =>
stC f (g + 10) (I (wr (e + 1))) (
ret (.ret []))) (
ret (.ret []))))
def f_commit_Commit_land (D : DD) (p : List HV) : M HV :=
fin (
uP p fun c r =>
uP r fun d q =>
nl q (
mP c fun s t =>
ldC s (t + 1) fun v => asP v fun u =>
bnd (f_attempt_Attempt_Land D [.ptr u]) fun w =>
asB w fun x9 =>
mP c fun x y =>
ldC x (y + 1) fun z => asP z fun aa =>
bnd (f_attempt_Attempt_Acts D [.ptr aa]) fun ab =>
asP ab fun ac =>
bnd (f_acts_Acts_Output D [.ptr ac]) fun ad =>
asSl ad fun ae =>
bnd (f_world_World_Send D [.ptr d, .sl ae]) fun af =>
asT af fun ag => nl ag (
bnd (f_world_World_Done D [.ptr d]) fun ah =>
asT ah fun ai => nl ai (
snp true fun h =>
snp true fun e =>
bnd (f_world_World_Token D [.ptr d]) fun aj =>
asP aj fun ak =>
snp true fun f =>
snp true fun g =>
mP c fun a al =>
snp true fun i =>
snp true fun j =>
ldC a al fun am => asI .i64 am fun an =>
snp true fun ao =>
gdP ((ao.get a = j.get a ∧ j.get a = i.get a ∧ i.get a = g.get a ∧ g.get a = f.get a ∧ f.get a = e.get a ∧ e.get a = h.get a ∧ True) ∧ True) (
bnd (f_token_Token_Unlock D [.ptr ak, I an]) fun ap =>
asB ap fun a2 =>
snp true fun aq =>
snp true fun k =>
bnd (f_world_World_Token D [.ptr d]) fun ar =>
asP ar fun as =>
snp true fun l =>
snp true fun m =>
mP c fun b au =>
snp true fun n =>
snp true fun o =>
ldC b au fun av => asI .i64 av fun aw =>
snp true fun ax =>
gdP ((ax.get b = o.get b ∧ o.get b = n.get b ∧ n.get b = m.get b ∧ m.get b = l.get b ∧ l.get b = k.get b ∧ k.get b = aq.get b ∧ True) ∧ True) (
bnd (f_token_Token_Drop D [.ptr as, I aw]) fun ay =>
asB ay fun a3 =>
mP c fun az a0 =>
stC az (a0 + 2) (I 4) (
ret (.ret [I 0]))))))))
def f_commit_Commit_Step (D : DD) (d : List HV) : M HV :=
fin (
uP d fun a r =>
uP r fun b e =>
nl e (
jn (
cond (Option.isNone a) (
ret (.norm [.bool true])) (
ret (.norm [.bool (Option.isNone b)]))) fun f =>
uB f fun g h =>
nl h (
cond g (
ret (.ret [I 2])) (
mP a fun i j =>
ldC i (j + 2) fun v => asI .i64 v fun c =>
blk 0 (
cond (c == 0) (
bnd (f_commit_Commit_check D [.ptr a, .ptr b]) fun k =>
asI .i64 k fun l =>
ret (.ret [I l])) (
cond (c == 1) (
bnd (f_commit_Commit_write D [.ptr a, .ptr b]) fun m =>
asI .i64 m fun n =>
ret (.ret [I n])) (
cond (c == 2) (
bnd (f_world_World_Force D [.ptr b]) fun o =>
asT o fun p => nl p (
mP a fun q s =>
stC q (s + 2) (I 3) (
ret (.norm [])))) (
cond (c == 3) (
bnd (f_commit_Commit_land D [.ptr a, .ptr b]) fun t =>
asI .i64 t fun u =>
ret (.ret [I u])) (
ret (.norm [])))))) fun w =>
nl w (
ret (.ret [I 0]))))))
def f_world_World_Blocks (D : DD) (b : List HV) : M HV :=
fin (
uP b fun a r =>
nl r (
cond (Option.isNone a) (
ret (.ret [I 0])) (
mP a fun c d =>
ldC c (d + 10) fun v => asI .i64 v fun e =>
ret (.ret [I e]))))
def f_reads_New (D : DD) (a : List HV) : M HV :=
fin (
uI .i64 a fun b r =>
nl r (
nw [.sl (⟨none, 0, 0, none⟩), I b] fun c =>
ret (.ret [.ptr (some (c, 0))])))
def f_sheet_New (D : DD) (a : List HV) : M HV :=
fin (
nl a (
nw [.sl (⟨none, 0, 0, none⟩)] fun b =>
nw [.ptr (some (b, 0))] fun c =>
ret (.ret [.ptr (some (c, 0))])))
def f_mark_Fresh (D : DD) (a : List HV) : M HV :=
fin (
uA a fun b r =>
uI .i64 b fun c d =>
uI .i64 d fun e f =>
uI .i64 f fun g h =>
uI .i64 h fun i j =>
nl j (
nl r (
bnd (f_sheet_New D []) fun k =>
asP k fun l =>
nw [.sl (⟨none, 0, 0, none⟩)] fun m =>
nw [I 0, I 0, I 0] fun n =>
ret (.ret [.agg [.ptr (some (m, 0)), .ptr l, .ptr (some (n, 0)), I c, I e, I g, I i]]))))
def f_attempt_New (D : DD) (c : List HV) : M HV :=
fin (
uP c fun a r =>
uA r fun d e =>
uI .i64 d fun f g =>
uI .i64 g fun h i =>
uI .i64 i fun j k =>
uI .i64 k fun l m =>
nl m (
nl e (
jn (
cond (Option.isNone a) (
bnd (f_attempt_NewView D []) fun n =>
asP n fun o =>
ret (.norm [.ptr o])) (
ret (.norm [.ptr a]))) fun p =>
uP p fun b q =>
nl q (
mP b fun s t =>
ldC s (t + 3) fun v => asI .i64 v fun u =>
bnd (f_reads_New D [I u]) fun w =>
asP w fun x =>
bnd (f_mark_Fresh D [.agg [I f, I h, I j, I l]]) fun y =>
asA y fun z => uP z fun aa ab =>
uP ab fun ac ad =>
uP ad fun ae af =>
uI .i64 af fun ag ah =>
uI .i64 ah fun ai aj =>
uI .i64 aj fun ak al =>
uI .i64 al fun am an =>
nl an (
nw [.sl (⟨none, 0, 0, none⟩), .sl (⟨none, 0, 0, none⟩), .sl (⟨none, 0, 0, none⟩), .sl (⟨none, 0, 0, none⟩)] fun ao =>
nw [.sl (⟨none, 0, 0, none⟩)] fun ap =>
nw [.ptr b, .ptr x, .ptr aa, .ptr ac, .ptr ae, I ag, I ai, I ak, I am, .ptr (some (ao, 0)), .ptr (some (ap, 0))] fun aq =>
ret (.ret [.ptr (some (aq, 0))]))))))
def f_world_World_View (D : DD) (b : List HV) : M HV :=
fin (
uP b fun a r =>
nl r (
cond (Option.isNone a) (
ret (.ret [.ptr none])) (
mP a fun c d =>
ldC c d fun v => asP v fun e =>
ret (.ret [.ptr e]))))
def f_draft_by_int (D : DD) (c : List HV) : M HV :=
fin (
uA c fun d r =>
uI .i64 d fun a e =>
uI .i64 e fun h f =>
nl f (
uI .i64 r fun b g =>
nl g (
cond (decide (a < b)) (
ret (.ret [I (-1)])) (
cond (decide (a > b)) (
ret (.ret [I 1])) (
ret (.ret [I 0]))))))
def f_slices_BinarySearchFunc_draft_entry_int_draft_entry_int_int (D : DD) (g : List HV) : M HV :=
fin (
uL g fun c r =>
uI .i64 r fun e h =>
uc h fun f i =>
nl i (
blk 0 (
loopD (fun j =>
uI .i64 j fun a k =>
uI .i64 k fun b l =>
nl l (
cond (decide (a < b)) (
ix c (wr (Int.fdiv (IntKind.wrap .u64 (wr (a + b))) (2 ^ 1))) 2 fun m n =>
ldN m n 2 fun o =>
uI .i64 o fun p q =>
uI .i64 q fun s t =>
nl t (
bnd (D f [.agg [I p, I s], I e]) fun u =>
asI .i64 u fun v =>
cond (decide (v < 0)) (
ret (.norm [I (wr ((wr (Int.fdiv (IntKind.wrap .u64 (wr (a + b))) (2 ^ 1))) + 1)), I b])) (
ret (.norm [I a, I (wr (Int.fdiv (IntKind.wrap .u64 (wr (a + b))) (2 ^ 1)))])))) (
ret (.exit 0 [I a])))) [I 0, I (c.len : Int)]) fun w =>
uI .i64 w fun d x =>
nl x (
jn (
cond (decide (d < (c.len : Int))) (
ix c d 2 fun y z =>
ldN y z 2 fun aa =>
uI .i64 aa fun ab ac =>
uI .i64 ac fun ad ae =>
nl ae (
bnd (D f [.agg [I ab, I ad], I e]) fun af =>
asI .i64 af fun ag =>
ret (.norm [I d, .bool (ag == 0)]))) (
ret (.norm [I d, .bool false]))) fun ah =>
uI .i64 ah fun x6 aj =>
uB aj fun x7 al =>
nl al (
ret (.ret [I x6, .bool x7])))))
def f_draft_Draft_int_find (D : DD) (a : List HV) : M HV :=
fin (
uP a fun b r =>
uI .i64 r fun c d =>
nl d (
mP b fun e f =>
ldC e f fun v => asSl v fun g =>
bnd (f_slices_BinarySearchFunc_draft_entry_int_draft_entry_int_int D [.sl g, I c, .func n_draft_by_int [] []]) fun h =>
asT h fun i => uI .i64 i fun j k =>
uB k fun l m =>
nl m (
ret (.ret [I j, .bool l]))))
def f_draft_Draft_int_Put (D : DD) (e : List HV) : M HV :=
fin (
uP e fun a r =>
uI .i64 r fun b f =>
uI .i64 f fun c g =>
nl g (
cond (Option.isNone a) (
ret (.ret [.bool false])) (
bnd (f_draft_Draft_int_find D [.ptr a, I b]) fun h =>
asT h fun i => uI .i64 i fun d j =>
uB j fun k l =>
nl l (
jn (
cond k (
mP a fun m n =>
ldC m n fun v => asSl v fun o =>
ix o d 2 fun p q =>
stC p (q + 1) (I c) (
ret (.norm []))) (
mP a fun s t =>
ldC s t fun u => asSl u fun w =>
nw [I b, I c] fun x =>
bnd (f_slices_Insert_draft_entry_int_draft_entry_int D [.sl w, I d, .sl (⟨some (x, 0), 1, 1, none⟩)]) fun y =>
asSl y fun z =>
mP a fun aa ab =>
stC aa ab (.sl z) (
ret (.norm [])))) fun vs =>
nl vs (
ret (.ret [.bool true]))))))
def f_attempt_Attempt_Store (D : DD) (c : List HV) : M HV :=
fin (
uP c fun b r =>
uI .i64 r fun a d =>
uI .i64 d fun e f =>
nl f (
cond (Option.isNone b) (
ret (.ret [I 2])) (
jn (
cond (decide (a < 0)) (
ret (.norm [.bool true])) (
ret (.norm [.bool (decide (a ≥ 8))]))) fun g =>
uB g fun h i =>
nl i (
cond h (
ret (.ret [I 1])) (
mP b fun j k =>
ldC j (k + 2) fun v => asP v fun l =>
bnd (f_draft_Draft_int_Put D [.ptr l, I a, I e]) fun m =>
asB m fun n =>
ret (.ret [I 0]))))))
def f_law22_alive (D : DD) (d : List HV) : M HV :=
fin (
nl d (
bnd (f_disk_New D []) fun r =>
asP r fun e =>
bnd (f_world_Open D [.ptr e]) fun f =>
asT f fun g => uP g fun a h =>
uI .i64 h fun i j =>
nl j (
cond (i != 0) (
ret (.ret [.bool false])) (
bnd (f_world_World_View D [.ptr a]) fun k =>
asP k fun l =>
bnd (f_attempt_New D [.ptr l, .agg [I 0, I 0, I 0, I 0]]) fun m =>
asP m fun c =>
bnd (f_attempt_Attempt_Store D [.ptr c, I 0, I 5]) fun n =>
asI .i64 n fun ab =>
bnd (f_commit_New D [I 0, .ptr c]) fun o =>
asP o fun b =>
jn (
bnd (f_commit_Commit_Step D [.ptr b, .ptr a]) fun p =>
asI .i64 p fun q =>
cond (q == 0) (
bnd (f_commit_Commit_Phase D [.ptr b]) fun s =>
asI .i64 s fun t =>
cond (t == 3) (
bnd (f_commit_Commit_Step D [.ptr b, .ptr a]) fun u =>
asI .i64 u fun v =>
cond (v == 0) (
bnd (f_world_World_Blocks D [.ptr a]) fun w =>
asI .i64 w fun x =>
ret (.norm [.bool (x == 1)])) (
ret (.norm [.bool false]))) (
ret (.norm [.bool false]))) (
ret (.norm [.bool false]))) fun y =>
uB y fun z aa =>
nl aa (
ret (.ret [.bool z]))))))
def f_law22_great (D : DD) (d : List HV) : M HV :=
fin (
uL d fun a r =>
nl r (
cond (decide ((a.len : Int) > 6)) (
ret (.ret [.bool true])) (
blk 0 (
loopD (fun e =>
uI .i64 e fun b f =>
nl f (
cond (decide (b < (a.len : Int))) (
ix a b 7 fun g h =>
ldN g h 7 fun i =>
uL i fun j k =>
uI .i64 k fun w l =>
uI .u8 l fun x m =>
uI .u8 m fun y n =>
uI .i64 n fun z o =>
uI .i64 o fun aa p =>
uI .i64 p fun c q =>
nl q (
jn (
cond (decide ((j.len : Int) > 20)) (
ret (.norm [.bool true])) (
cond (decide (c > 1099511627776)) (
ret (.norm [.bool true])) (
ret (.norm [.bool (decide (c < (-1099511627776)))])))) fun s =>
uB s fun t u =>
nl u (
cond t (
ret (.ret [.bool true])) (
ret (.norm [I (wr (b + 1))]))))) (
ret (.exit 0 [])))) [I 0]) fun v =>
nl v (
ret (.ret [.bool false])))))
def f_draft_Draft_int_Get (D : DD) (b : List HV) : M HV :=
fin (
uP b fun a r =>
uI .i64 r fun c d =>
nl d (
cond (Option.isNone a) (
ret (.ret [I 0, .bool false])) (
bnd (f_draft_Draft_int_find D [.ptr a, I c]) fun e =>
asT e fun f => uI .i64 f fun g h =>
uB h fun i j =>
nl j (
cond (!i) (
ret (.ret [I 0, .bool false])) (
mP a fun k l =>
ldC k l fun v => asSl v fun m =>
ix m g 2 fun n o =>
ldC n (o + 1) fun p => asI .i64 p fun q =>
ret (.ret [I q, .bool true]))))))
def f_reads_Set_place_1 (D : DD) (a : List HV) : M HV :=
fin (
uA a fun b r =>
uI .i64 b fun c d =>
uI .i64 d fun e f =>
uI .i64 f fun x g =>
nl g (
uP r fun h i =>
uP i fun j k =>
nl k (
jn (
mP h fun l m =>
ldC l m fun v => asI .i64 v fun n =>
cond (c == n) (
mP j fun o p =>
ldC o p fun q => asI .i64 q fun s =>
ret (.norm [.bool (e == s)])) (
ret (.norm [.bool false]))) fun t =>
uB t fun u w =>
nl w (
ret (.ret [.bool u])))))
def f_slices_IndexFunc_reads_Entry_reads_Entry (D : DD) (c : List HV) : M HV :=
fin (
uL c fun b r =>
uc r fun d e =>
nl e (
blk 0 (
loopD (fun f =>
uI .i64 f fun a g =>
nl g (
cond (decide (a < (b.len : Int))) (
ix b a 3 fun h i =>
ldN h i 3 fun j =>
uI .i64 j fun k l =>
uI .i64 l fun m n =>
uI .i64 n fun o p =>
nl p (
bnd (D d [.agg [I k, I m, I o]]) fun q =>
asB q fun s =>
cond s (
ret (.ret [I a])) (
ret (.norm [I (wr (a + 1))])))) (
ret (.exit 0 [])))) [I 0]) fun t =>
nl t (
ret (.ret [I (-1)]))))
def f_reads_Set_place (D : DD) (a : List HV) : M HV :=
fin (
uP a fun b r =>
uI .i64 r fun c d =>
uI .i64 d fun e f =>
nl f (
nw [I c] fun g =>
nw [I e] fun h =>
mP b fun i j =>
ldC i j fun v => asSl v fun k =>
bnd (f_slices_IndexFunc_reads_Entry_reads_Entry D [.sl k, .func n_reads_Set_place_1 [] [.ptr (some (g, 0)), .ptr (some (h, 0))]]) fun l =>
asI .i64 l fun m =>
ret (.ret [I m])))
def f_reads_Set_Note (D : DD) (g : List HV) : M HV :=
fin (
uP g fun a r =>
uA r fun b h =>
uI .i64 h fun c i =>
uI .i64 i fun d j =>
nl j (
cond (Option.isNone a) (
ret (.ret [.bool false])) (
gxN b 0 25 fun k =>
bnd (f_reads_Now_Of D [.agg k, I c, I d]) fun l =>
asI .i64 l fun e =>
bnd (f_reads_Set_place D [.ptr a, I c, I d]) fun m =>
asI .i64 m fun f =>
cond (decide (f ≥ 0)) (
mP a fun n o =>
ldC n o fun v => asSl v fun p =>
ix p f 3 fun q s =>
ldC q (s + 2) fun t => asI .i64 t fun u =>
ret (.ret [.bool (u == e)])) (
mP a fun w x =>
ldC w (x + 1) fun y => asI .i64 y fun z =>
jn (
cond (decide (e > z)) (
gxN b 0 25 fun aa =>
bnd (f_reads_Set_Valid D [.ptr a, .agg aa]) fun ab =>
asB ab fun ac =>
cond (!ac) (
ret (.ret [.bool false])) (
gx b 24 fun ad => asI .i64 ad fun ae =>
mP a fun af ag =>
stC af (ag + 1) (I ae) (
ret (.norm [])))) (
ret (.norm []))) fun vs =>
nl vs (
mP a fun ai aj =>
ldC ai aj fun ak => asSl ak fun al =>
apd al 3 24 1 [I c, I d, I e] fun am =>
mP a fun an ao =>
stC an ao (.sl am) (
ret (.ret [.bool true])))))))
def f_attempt_Attempt_note (D : DD) (n : List HV) : M HV :=
fin (
uP n fun b r =>
uI .i64 r fun o p =>
uI .i64 p fun q s =>
nl s (
snp true fun h =>
snp true fun c =>
mP b fun a t =>
snp true fun d =>
snp true fun e =>
ldC a (t + 1) fun v => asP v fun u =>
snp true fun f =>
snp true fun g =>
mP b fun w x =>
snp true fun i =>
snp true fun j =>
ldC w x fun y => asP y fun z =>
snp true fun k =>
bnd (f_attempt_View_Now D [.ptr z]) fun aa =>
asA aa fun ab =>
snp true fun l =>
snp true fun m =>
snp true fun ac =>
gdP ((ac.get a = m.get a ∧ m.get a = l.get a ∧ l.get a = k.get a ∧ k.get a = j.get a ∧ j.get a = i.get a ∧ i.get a = g.get a ∧ g.get a = f.get a ∧ f.get a = e.get a ∧ e.get a = d.get a ∧ d.get a = c.get a ∧ c.get a = h.get a ∧ True) ∧ True) (
bnd (f_reads_Set_Note D [.ptr u, .agg ab, I o, I q]) fun ad =>
asB ad fun ae =>
cond (!ae) (
ret (.ret [I 9])) (
ret (.ret [I 0])))))
def f_attempt_Attempt_Load (D : DD) (d : List HV) : M HV :=
fin (
uP d fun b r =>
uI .i64 r fun a e =>
nl e (
cond (Option.isNone b) (
ret (.ret [I 0, I 2])) (
jn (
cond (decide (a < 0)) (
ret (.norm [.bool true])) (
ret (.norm [.bool (decide (a ≥ 8))]))) fun f =>
uB f fun g h =>
nl h (
cond g (
ret (.ret [I 0, I 1])) (
mP b fun i j =>
ldC i (j + 2) fun v => asP v fun k =>
bnd (f_draft_Draft_int_Get D [.ptr k, I a]) fun l =>
asT l fun m => uI .i64 m fun n o =>
uB o fun p q =>
nl q (
cond p (
ret (.ret [I n, I 0])) (
bnd (f_attempt_Attempt_note D [.ptr b, I 0, I a]) fun s =>
asI .i64 s fun c =>
cond (c != 0) (
ret (.ret [I 0, I c])) (
mP b fun t u =>
ldC t u fun w => asP w fun x =>
mP x fun y z =>
ldC y z fun aa => asP aa fun ab =>
bnd (f_cell_Row_int_Get D [.ptr ab, I a]) fun ac =>
asT ac fun ad => uI .i64 ad fun ae af =>
uI .i64 af fun ah ag =>
nl ag (
ret (.ret [I ae, I 0]))))))))))
def f_draft_by_file_File (D : DD) (c : List HV) : M HV :=
fin (
uA c fun d r =>
uI .i64 d fun a e =>
uB e fun i f =>
uS f fun j g =>
nl g (
uI .i64 r fun b h =>
nl h (
cond (decide (a < b)) (
ret (.ret [I (-1)])) (
cond (decide (a > b)) (
ret (.ret [I 1])) (
ret (.ret [I 0]))))))
def f_slices_BinarySearchFunc_draft_entry_file_File_draft_entry_file_File_int (D : DD) (g : List HV) : M HV :=
fin (
uL g fun c r =>
uI .i64 r fun e h =>
uc h fun f i =>
nl i (
blk 0 (
loopD (fun j =>
uI .i64 j fun a k =>
uI .i64 k fun b l =>
nl l (
cond (decide (a < b)) (
ix c (wr (Int.fdiv (IntKind.wrap .u64 (wr (a + b))) (2 ^ 1))) 3 fun m n =>
ldN m n 3 fun o =>
uI .i64 o fun p q =>
uB q fun s t =>
uS t fun u v =>
nl v (
bnd (D f [.agg [I p, .bool s, .str u], I e]) fun w =>
asI .i64 w fun x =>
cond (decide (x < 0)) (
ret (.norm [I (wr ((wr (Int.fdiv (IntKind.wrap .u64 (wr (a + b))) (2 ^ 1))) + 1)), I b])) (
ret (.norm [I a, I (wr (Int.fdiv (IntKind.wrap .u64 (wr (a + b))) (2 ^ 1)))])))) (
ret (.exit 0 [I a])))) [I 0, I (c.len : Int)]) fun y =>
uI .i64 y fun d z =>
nl z (
jn (
cond (decide (d < (c.len : Int))) (
ix c d 3 fun aa ab =>
ldN aa ab 3 fun ac =>
uI .i64 ac fun ad ae =>
uB ae fun af ag =>
uS ag fun ah ai =>
nl ai (
bnd (D f [.agg [I ad, .bool af, .str ah], I e]) fun aj =>
asI .i64 aj fun ak =>
ret (.norm [I d, .bool (ak == 0)]))) (
ret (.norm [I d, .bool false]))) fun al =>
uI .i64 al fun x6 an =>
uB an fun x7 ap =>
nl ap (
ret (.ret [I x6, .bool x7])))))
def f_draft_Draft_file_File_find (D : DD) (a : List HV) : M HV :=
fin (
uP a fun b r =>
uI .i64 r fun c d =>
nl d (
mP b fun e f =>
ldC e f fun v => asSl v fun g =>
bnd (f_slices_BinarySearchFunc_draft_entry_file_File_draft_entry_file_File_int D [.sl g, I c, .func n_draft_by_file_File [] []]) fun h =>
asT h fun i => uI .i64 i fun j k =>
uB k fun l m =>
nl m (
ret (.ret [I j, .bool l]))))
def f_draft_Draft_file_File_Get (D : DD) (b : List HV) : M HV :=
fin (
uP b fun a r =>
uI .i64 r fun c d =>
nl d (
cond (Option.isNone a) (
ret (.ret [.agg [.bool false, .str (ByteArray.mk #[])], .bool false])) (
bnd (f_draft_Draft_file_File_find D [.ptr a, I c]) fun e =>
asT e fun f => uI .i64 f fun g h =>
uB h fun i j =>
nl j (
cond (!i) (
ret (.ret [.agg [.bool false, .str (ByteArray.mk #[])], .bool false])) (
mP a fun k l =>
ldC k l fun v => asSl v fun m =>
ix m g 3 fun n o =>
ldN n (o + 1) 2 fun p =>
uB p fun q s =>
uS s fun t u =>
nl u (
ret (.ret [.agg [.bool q, .str t], .bool true])))))))
def f_sheet_Sheet_Get (D : DD) (c : List HV) : M HV :=
fin (
uP c fun a r =>
uP r fun d e =>
uI .i64 e fun b f =>
nl f (
jn (
cond (!(Option.isNone a)) (
mP a fun g h =>
ldC g h fun v => asP v fun i =>
bnd (f_draft_Draft_file_File_Get D [.ptr i, I b]) fun j =>
asT j fun k => uA k fun l m =>
uB l fun n o =>
uS o fun p q =>
nl q (
uB m fun s t =>
nl t (
cond s (
ret (.ret [.agg [.bool n, .str p], .bool true])) (
ret (.norm []))))) (
ret (.norm []))) fun u =>
nl u (
bnd (f_tome_Tome_Get D [.ptr d, I b]) fun w =>
asT w fun x => uA x fun y z =>
uB y fun aa ab =>
uS ab fun ac ad =>
nl ad (
uI .i64 z fun af ae =>
nl ae (
ret (.ret [.agg [.bool aa, .str ac], .bool false]))))))
def f_attempt_Attempt_touch (D : DD) (e : List HV) : M HV :=
fin (
uP e fun a r =>
uI .i64 r fun b f =>
nl f (
cond (Option.isNone a) (
ret (.ret [.agg [.bool false, .str (ByteArray.mk #[])], I 2])) (
jn (
cond (decide (b < 0)) (
ret (.norm [.bool true])) (
ret (.norm [.bool (decide (b ≥ 6))]))) fun g =>
uB g fun h i =>
nl i (
cond h (
ret (.ret [.agg [.bool false, .str (ByteArray.mk #[])], I 1])) (
mP a fun j k =>
ldC j (k + 2 + 1) fun v => asP v fun l =>
mP a fun m n =>
ldC m n fun o => asP o fun p =>
mP p fun q s =>
ldC q (s + 1) fun t => asP t fun u =>
bnd (f_sheet_Sheet_Get D [.ptr l, .ptr u, I b]) fun w =>
asT w fun x => uA x fun y z =>
uB y fun c aa =>
uS aa fun d ab =>
nl ab (
uB z fun ac ad =>
nl ad (
cond ac (
ret (.ret [.agg [.bool c, .str d], I 0])) (
bnd (f_attempt_Attempt_note D [.ptr a, I 1, I b]) fun ae =>
asI .i64 ae fun af =>
ret (.ret [.agg [.bool c, .str d], I af])))))))))
def f_file_At (D : DD) (c : List HV) : M HV :=
fin (
uA c fun d r =>
uB d fun k e =>
uS e fun b f =>
nl f (
uI .i64 r fun a g =>
nl g (
jn (
cond (decide (a < 0)) (
ret (.norm [.bool true])) (
ret (.norm [.bool (decide (a ≥ (b.size : Int)))]))) fun h =>
uB h fun i j =>
nl j (
cond i (
ret (.ret [I (-1)])) (
gd (decide (0 ≤ a)) (gd (decide (a < (b.size : Int))) (
ret (.ret [I (wr ((b.data[a.toNat]?.getD 0).toNat : Int))]))))))))
def f_attempt_Attempt_Read (D : DD) (b : List HV) : M HV :=
fin (
uP b fun c r =>
uI .i64 r fun d e =>
uI .i64 e fun f g =>
nl g (
bnd (f_attempt_Attempt_touch D [.ptr c, I d]) fun h =>
asT h fun i => uA i fun j k =>
uB j fun l m =>
uS m fun n o =>
nl o (
uI .i64 k fun a p =>
nl p (
cond (a != 0) (
ret (.ret [I 0, I a])) (
bnd (f_file_At D [.agg [.bool l, .str n], I f]) fun q =>
asI .i64 q fun s =>
ret (.ret [I s, I 0]))))))
def f_draft_Draft_file_File_Put (D : DD) (s : List HV) : M HV :=
fin (
uP s fun b r =>
uI .i64 r fun c t =>
uA t fun u w =>
uB u fun d x =>
uS x fun e y =>
nl y (
nl w (
cond (Option.isNone b) (
ret (.ret [.bool false])) (
bnd (f_draft_Draft_file_File_find D [.ptr b, I c]) fun z =>
asT z fun aa => uI .i64 aa fun f ab =>
uB ab fun ac ad =>
nl ad (
jn (
cond ac (
mP b fun ae af =>
ldC ae af fun v => asSl v fun ag =>
ix ag f 3 fun ah ai =>
stN ah (ai + 1) [.bool d, .str e] (
ret (.norm []))) (
snp true fun h =>
snp true fun g =>
snp true fun i =>
mP b fun a aj =>
snp true fun j =>
snp true fun k =>
ldC a aj fun ak => asSl ak fun al =>
snp true fun l =>
snp true fun m =>
snp true fun n =>
snp true fun o =>
snp true fun p =>
nw [I c, .bool d, .str e] fun am =>
snp true fun q =>
bnd (f_slices_Insert_draft_entry_file_File_draft_entry_file_File D [.sl al, I f, .sl (⟨some (am, 0), 1, 1, none⟩)]) fun an =>
asSl an fun ao =>
snp true fun ap =>
gdP ((ap.get a = q.get a ∧ q.get a = p.get a ∧ p.get a = o.get a ∧ o.get a = n.get a ∧ n.get a = m.get a ∧ m.get a = l.get a ∧ l.get a = k.get a ∧ k.get a = j.get a ∧ j.get a = i.get a ∧ i.get a = g.get a ∧ g.get a = h.get a ∧ True) ∧ True) (
mP b fun aq ar =>
stC aq ar (.sl ao) (
ret (.norm []))))) fun vs =>
nl vs (
ret (.ret [.bool true])))))))
def f_sheet_Sheet_put (D : DD) (e : List HV) : M HV :=
fin (
uP e fun b r =>
uP r fun f g =>
uI .i64 g fun a h =>
uA h fun i j =>
uB i fun c k =>
uS k fun d l =>
nl l (
nl j (
jn (
cond (Option.isNone b) (
ret (.norm [.bool true])) (
cond (decide (a < 0)) (
ret (.norm [.bool true])) (
ret (.norm [.bool (decide (a ≥ 6))])))) fun m =>
uB m fun n o =>
nl o (
cond n (
ret (.ret [.bool false])) (
bnd (f_sheet_Sheet_Get D [.ptr b, .ptr f, I a]) fun p =>
asT p fun q => uA q fun s t =>
uB s fun u w =>
uS w fun x y =>
nl y (
uB t fun af z =>
nl z (
cond (cond (u == c) (cond (x.toList == d.toList) true false) false) (
ret (.ret [.bool true])) (
mP b fun aa ab =>
ldC aa ab fun v => asP v fun ac =>
bnd (f_draft_Draft_file_File_Put D [.ptr ac, I a, .agg [.bool c, .str d]]) fun ad =>
asB ad fun ae =>
ret (.ret [.bool ae])))))))))
def f_file_Put (D : DD) (f : List HV) : M HV :=
fin (
uA f fun g r =>
uB g fun h i =>
uS i fun a j =>
nl j (
uI .i64 r fun b k =>
uI .u8 k fun l m =>
nl m (
jn (
cond (decide (b < 0)) (
ret (.norm [.bool true])) (
ret (.norm [.bool (decide (b ≥ 32))]))) fun n =>
uB n fun o p =>
nl p (
cond o (
ret (.ret [.agg [.bool h, .str a]])) (
nwT (5, none) (bytesHV a) fun q =>
blk 0 (
loopD (fun s =>
uL s fun c t =>
nl t (
cond (decide ((c.len : Int) ≤ b)) (
apd c 1 1 1 [.int .u8 0] fun u =>
ret (.norm [.sl u])) (
ret (.exit 0 [.sl c])))) [.sl (⟨some (q, 0), a.size, a.size, some 1⟩)]) fun v =>
uL v fun d w =>
nl w (
ix d b 1 fun x y =>
stC x y (.int .u8 l) (
rdS d 1 fun e =>
gd (decide (e.length = d.len)) (strM e fun z =>
ret (.ret [.agg [.bool true, .str z]])))))))))
def f_sheet_Sheet_Write (D : DD) (d : List HV) : M HV :=
fin (
uP d fun a r =>
uP r fun b e =>
uI .i64 e fun c f =>
uI .i64 f fun g h =>
uI .u8 h fun i j =>
nl j (
bnd (f_sheet_Sheet_Get D [.ptr a, .ptr b, I c]) fun k =>
asT k fun l => uA l fun m n =>
uB m fun o p =>
uS p fun q s =>
nl s (
uB n fun ac t =>
nl t (
bnd (f_file_Put D [.agg [.bool o, .str q], I g, .int .u8 i]) fun u =>
asA u fun v => uB v fun w x =>
uS x fun y z =>
nl z (
bnd (f_sheet_Sheet_put D [.ptr a, .ptr b, I c, .agg [.bool w, .str y]]) fun aa =>
asB aa fun ab =>
ret (.ret [.bool ab]))))))
def f_attempt_Attempt_Write (D : DD) (d : List HV) : M HV :=
fin (
uP d fun a r =>
uI .i64 r fun b e =>
uI .i64 e fun f g =>
uI .u8 g fun h i =>
nl i (
bnd (f_attempt_Attempt_touch D [.ptr a, I b]) fun j =>
asT j fun k => uA k fun l m =>
uB l fun af n =>
uS n fun ag o =>
nl o (
uI .i64 m fun c p =>
nl p (
jn (
cond (c == 0) (
mP a fun q s =>
ldC q (s + 2 + 1) fun v => asP v fun t =>
mP a fun u w =>
ldC u w fun x => asP x fun y =>
mP y fun z aa =>
ldC z (aa + 1) fun ab => asP ab fun ac =>
bnd (f_sheet_Sheet_Write D [.ptr t, .ptr ac, I b, I f, .int .u8 h]) fun ad =>
asB ad fun ah =>
ret (.norm [])) (
ret (.norm []))) fun vs =>
nl vs (
ret (.ret [I c]))))))
def f_file_Make (D : DD) (a : List HV) : M HV :=
fin (
uA a fun b r =>
uB b fun f c =>
uS c fun d e =>
nl e (
nl r (
ret (.ret [.agg [.bool true, .str d]]))))
def f_sheet_Sheet_Create (D : DD) (d : List HV) : M HV :=
fin (
uP d fun a r =>
uP r fun b e =>
uI .i64 e fun c f =>
nl f (
bnd (f_sheet_Sheet_Get D [.ptr a, .ptr b, I c]) fun g =>
asT g fun h => uA h fun i j =>
uB i fun k l =>
uS l fun m n =>
nl n (
uB j fun y o =>
nl o (
bnd (f_file_Make D [.agg [.bool k, .str m]]) fun p =>
asA p fun q => uB q fun s t =>
uS t fun u v =>
nl v (
bnd (f_sheet_Sheet_put D [.ptr a, .ptr b, I c, .agg [.bool s, .str u]]) fun w =>
asB w fun x =>
ret (.ret [.bool x]))))))
def f_attempt_Attempt_Create (D : DD) (d : List HV) : M HV :=
fin (
uP d fun a r =>
uI .i64 r fun b e =>
nl e (
bnd (f_attempt_Attempt_touch D [.ptr a, I b]) fun f =>
asT f fun g => uA g fun h i =>
uB h fun ab j =>
uS j fun ac k =>
nl k (
uI .i64 i fun c l =>
nl l (
jn (
cond (c == 0) (
mP a fun m n =>
ldC m (n + 2 + 1) fun v => asP v fun o =>
mP a fun p q =>
ldC p q fun s => asP s fun t =>
mP t fun u w =>
ldC u (w + 1) fun x => asP x fun y =>
bnd (f_sheet_Sheet_Create D [.ptr o, .ptr y, I b]) fun z =>
asB z fun ad =>
ret (.norm [])) (
ret (.norm []))) fun vs =>
nl vs (
ret (.ret [I c]))))))
def f_sheet_Sheet_Remove (D : DD) (a : List HV) : M HV :=
fin (
uP a fun b r =>
uP r fun c d =>
uI .i64 d fun e f =>
nl f (
bnd (f_sheet_Sheet_put D [.ptr b, .ptr c, I e, .agg [.bool false, .str (ByteArray.mk #[])]]) fun g =>
asB g fun h =>
ret (.ret [.bool h])))
def f_attempt_Attempt_Remove (D : DD) (d : List HV) : M HV :=
fin (
uP d fun a r =>
uI .i64 r fun b e =>
nl e (
bnd (f_attempt_Attempt_touch D [.ptr a, I b]) fun f =>
asT f fun g => uA g fun h i =>
uB h fun ab j =>
uS j fun ac k =>
nl k (
uI .i64 i fun c l =>
nl l (
jn (
cond (c == 0) (
mP a fun m n =>
ldC m (n + 2 + 1) fun v => asP v fun o =>
mP a fun p q =>
ldC p q fun s => asP s fun t =>
mP t fun u w =>
ldC u (w + 1) fun x => asP x fun y =>
bnd (f_sheet_Sheet_Remove D [.ptr o, .ptr y, I b]) fun z =>
asB z fun ad =>
ret (.norm [])) (
ret (.norm []))) fun vs =>
nl vs (
ret (.ret [I c]))))))
def f_sheet_Sheet_Rename (D : DD) (f : List HV) : M HV :=
fin (
uP f fun b r =>
uP r fun d g =>
uI .i64 g fun a h =>
uI .i64 h fun c i =>
nl i (
bnd (f_sheet_Sheet_Get D [.ptr b, .ptr d, I a]) fun j =>
asT j fun k => uA k fun l m =>
uB l fun e n =>
uS n fun o p =>
nl p (
uB m fun ab q =>
nl q (
jn (
cond (Option.isNone b) (
ret (.norm [.bool true])) (
cond (decide (a < 0)) (
ret (.norm [.bool true])) (
cond (decide (a ≥ 6)) (
ret (.norm [.bool true])) (
cond (decide (c < 0)) (
ret (.norm [.bool true])) (
ret (.norm [.bool (decide (c ≥ 6))])))))) fun s =>
uB s fun t u =>
nl u (
cond t (
ret (.ret [.bool false])) (
jn (
cond (!e) (
ret (.norm [.bool true])) (
ret (.norm [.bool (a == c)]))) fun v =>
uB v fun w x =>
nl x (
cond w (
ret (.ret [.bool true])) (
bnd (f_sheet_Sheet_put D [.ptr b, .ptr d, I c, .agg [.bool e, .str o]]) fun y =>
asB y fun ac =>
bnd (f_sheet_Sheet_put D [.ptr b, .ptr d, I a, .agg [.bool false, .str (ByteArray.mk #[])]]) fun z =>
asB z fun aa =>
ret (.ret [.bool aa])))))))))
def f_attempt_Attempt_Rename (D : DD) (f : List HV) : M HV :=
fin (
uP f fun a r =>
uI .i64 r fun c g =>
uI .i64 g fun b h =>
nl h (
jn (
cond (!(Option.isNone a)) (
cond (decide (b < 0)) (
ret (.norm [.bool true])) (
ret (.norm [.bool (decide (b ≥ 6))]))) (
ret (.norm [.bool false]))) fun i =>
uB i fun j k =>
nl k (
cond j (
ret (.ret [I 1])) (
bnd (f_attempt_Attempt_touch D [.ptr a, I c]) fun l =>
asT l fun m => uA m fun n o =>
uB n fun ar p =>
uS p fun as q =>
nl q (
uI .i64 o fun d s =>
nl s (
jn (
cond (d == 0) (
bnd (f_attempt_Attempt_touch D [.ptr a, I b]) fun t =>
asT t fun u => uA u fun w x =>
uB w fun au y =>
uS y fun av z =>
nl z (
uI .i64 x fun aa ab =>
nl ab (
ret (.norm [I aa])))) (
ret (.norm [I d]))) fun ac =>
uI .i64 ac fun e ad =>
nl ad (
jn (
cond (e == 0) (
mP a fun ae af =>
ldC ae (af + 2 + 1) fun v => asP v fun ag =>
mP a fun ah ai =>
ldC ah ai fun aj => asP aj fun ak =>
mP ak fun al am =>
ldC al (am + 1) fun an => asP an fun ao =>
bnd (f_sheet_Sheet_Rename D [.ptr ag, .ptr ao, I c, I b]) fun ap =>
asB ap fun aw =>
ret (.norm [])) (
ret (.norm []))) fun aq =>
nl aq (
ret (.ret [I e])))))))))
def f_file_Cut (D : DD) (e : List HV) : M HV :=
fin (
uA e fun f r =>
uB f fun c g =>
uS g fun a h =>
nl h (
uI .i64 r fun b i =>
nl i (
jn (
cond (!c) (
ret (.norm [.bool true])) (
cond (decide (b < 0)) (
ret (.norm [.bool true])) (
ret (.norm [.bool (decide (b > 32))])))) fun j =>
uB j fun k l =>
nl l (
cond k (
ret (.ret [.agg [.bool c, .str a]])) (
cond (decide (b ≤ (a.size : Int))) (
gd (decide (0 ≤ 0)) (gd (decide (0 ≤ b)) (gd (decide (b ≤ (a.size : Int))) (
ret (.ret [.agg [.bool true, .str (a.extract (0 : Int).toNat b.toNat)]]))))) (
bnd (f_strings_Repeat D [.str (ByteArray.mk #[0]), I (wr (b - (a.size : Int)))]) fun m =>
asS m fun d =>
gd (decide (a.size + d.size ≤ 9223372036854775807)) (
ret (.ret [.agg [.bool true, .str (a ++ d)]]))))))))
def f_sheet_Sheet_Cut (D : DD) (d : List HV) : M HV :=
fin (
uP d fun a r =>
uP r fun b e =>
uI .i64 e fun c f =>
uI .i64 f fun g h =>
nl h (
bnd (f_sheet_Sheet_Get D [.ptr a, .ptr b, I c]) fun i =>
asT i fun j => uA j fun k l =>
uB k fun m n =>
uS n fun o p =>
nl p (
uB l fun aa q =>
nl q (
bnd (f_file_Cut D [.agg [.bool m, .str o], I g]) fun s =>
asA s fun t => uB t fun u v =>
uS v fun w x =>
nl x (
bnd (f_sheet_Sheet_put D [.ptr a, .ptr b, I c, .agg [.bool u, .str w]]) fun y =>
asB y fun z =>
ret (.ret [.bool z]))))))
def f_attempt_Attempt_Cut (D : DD) (d : List HV) : M HV :=
fin (
uP d fun a r =>
uI .i64 r fun b e =>
uI .i64 e fun f g =>
nl g (
bnd (f_attempt_Attempt_touch D [.ptr a, I b]) fun h =>
asT h fun i => uA i fun j k =>
uB j fun ad l =>
uS l fun ae m =>
nl m (
uI .i64 k fun c n =>
nl n (
jn (
cond (c == 0) (
mP a fun o p =>
ldC o (p + 2 + 1) fun v => asP v fun q =>
mP a fun s t =>
ldC s t fun u => asP u fun w =>
mP w fun x y =>
ldC x (y + 1) fun z => asP z fun aa =>
bnd (f_sheet_Sheet_Cut D [.ptr q, .ptr aa, I b, I f]) fun ab =>
asB ab fun af =>
ret (.norm [])) (
ret (.norm []))) fun vs =>
nl vs (
ret (.ret [I c]))))))
def f_feed_Feed_At (D : DD) (e : List HV) : M HV :=
fin (
uP e fun c r =>
uI .i64 r fun a f =>
uI .i64 f fun b g =>
nl g (
jn (
bnd (f_feed_Feed_is D [.ptr c, I a]) fun h =>
asB h fun i =>
cond (!i) (
ret (.norm [.bool true])) (
cond (decide (b < 0)) (
ret (.norm [.bool true])) (
mP c fun j k =>
gd (decide (0 ≤ a)) (gd (decide (a < (3 : Int))) (
ldC j (k + a.toNat * 1) fun v => asS v fun l =>
ret (.norm [.bool (decide (b ≥ (l.size : Int)))])))))) fun m =>
uB m fun n o =>
nl o (
cond n (
ret (.ret [I (-1)])) (
mP c fun p q =>
gd (decide (0 ≤ a)) (gd (decide (a < (3 : Int))) (
ldC p (q + a.toNat * 1) fun s => asS s fun d =>
gd (decide (0 ≤ b)) (gd (decide (b < (d.size : Int))) (
ret (.ret [I (wr ((d.data[b.toNat]?.getD 0).toNat : Int))])))))))))
def f_cursor_Cursor_At (D : DD) (d : List HV) : M HV :=
fin (
uP d fun b r =>
uI .i64 r fun a e =>
uI .i64 e fun c f =>
nl f (
jn (
cond (Option.isNone b) (
ret (.norm [.bool true])) (
bnd (f_cursor_is D [I a]) fun g =>
asB g fun h =>
ret (.norm [.bool (!h)]))) fun i =>
uB i fun j k =>
nl k (
cond j (
ret (.ret [I c])) (
mP b fun l m =>
gd (decide (0 ≤ a)) (gd (decide (a < (3 : Int))) (
ldC l (m + a.toNat * 1) fun v => asI .i64 v fun n =>
ret (.ret [I (wr (c + n))])))))))
def f_cursor_Cursor_Step (D : DD) (c : List HV) : M HV :=
fin (
uP c fun b r =>
uI .i64 r fun a d =>
nl d (
jn (
cond (Option.isNone b) (
ret (.norm [.bool true])) (
bnd (f_cursor_is D [I a]) fun e =>
asB e fun f =>
cond (!f) (
ret (.norm [.bool true])) (
mP b fun g h =>
gd (decide (0 ≤ a)) (gd (decide (a < (3 : Int))) (
ldC g (h + a.toNat * 1) fun v => asI .i64 v fun i =>
ret (.norm [.bool (decide (i ≥ 64))])))))) fun j =>
uB j fun k l =>
nl l (
cond k (
ret (.ret [.bool false])) (
mP b fun m n =>
gd (decide (0 ≤ a)) (gd (decide (a < (3 : Int))) (
ldC m (n + a.toNat * 1) fun o => asI .i64 o fun p =>
mP b fun q s =>
gd (decide (0 ≤ a)) (gd (decide (a < (3 : Int))) (
stC q (s + a.toNat * 1) (I (wr (p + 1))) (
ret (.ret [.bool true]))))))))))
def f_attempt_Attempt_Recv (D : DD) (z : List HV) : M HV :=
fin (
uP z fun d r =>
uI .i64 r fun c aa =>
nl aa (
cond (Option.isNone d) (
ret (.ret [I 0, I 2])) (
jn (
cond (decide (c < 0)) (
ret (.norm [.bool true])) (
ret (.norm [.bool (decide (c ≥ 3))]))) fun vs =>
uB vs fun ac ad =>
nl ad (
cond ac (
ret (.ret [I 0, I 1])) (
bnd (f_attempt_Attempt_note D [.ptr d, I 2, I c]) fun ae =>
asI .i64 ae fun w =>
cond (w != 0) (
ret (.ret [I 0, I w])) (
mP d fun af ag =>
ldC af ag fun v => asP v fun ah =>
mP ah fun ai aj =>
ldC ai (aj + 2) fun ak => asP ak fun al =>
bnd (f_feed_Feed_Place D [.ptr al, I c]) fun am =>
asT am fun an => uI .i64 an fun ao ap =>
uI .i64 ap fun ba aq =>
nl aq (
snp true fun h =>
snp true fun e =>
mP d fun a ar =>
snp true fun f =>
snp true fun g =>
ldC a ar fun as => asP as fun au =>
snp true fun i =>
mP au fun b av =>
snp true fun j =>
snp true fun k =>
ldC b (av + 2) fun aw => asP aw fun ax =>
snp true fun l =>
snp true fun m =>
snp true fun n =>
mP d fun ay az =>
snp true fun o =>
snp true fun p =>
snp true fun q =>
ldC ay (az + 2 + 2) fun a0 => asP a0 fun a1 =>
snp true fun s =>
snp true fun t =>
snp true fun u =>
bnd (f_cursor_Cursor_At D [.ptr a1, I c, I ao]) fun a2 =>
asI .i64 a2 fun a3 =>
snp true fun x =>
gdP ((x.get a = u.get a ∧ u.get a = t.get a ∧ t.get a = s.get a ∧ s.get a = q.get a ∧ q.get a = p.get a ∧ p.get a = o.get a ∧ o.get a = n.get a ∧ n.get a = m.get a ∧ m.get a = l.get a ∧ l.get a = k.get a ∧ k.get a = j.get a ∧ j.get a = i.get a ∧ i.get a = g.get a ∧ g.get a = f.get a ∧ f.get a = e.get a ∧ e.get a = h.get a ∧ True) ∧ (x.get b = u.get b ∧ u.get b = t.get b ∧ t.get b = s.get b ∧ s.get b = q.get b ∧ q.get b = p.get b ∧ p.get b = o.get b ∧ o.get b = n.get b ∧ n.get b = m.get b ∧ m.get b = l.get b ∧ l.get b = k.get b ∧ k.get b = j.get b ∧ j.get b = i.get b ∧ i.get b = g.get b ∧ g.get b = f.get b ∧ f.get b = e.get b ∧ e.get b = h.get b ∧ True) ∧ True) (
bnd (f_feed_Feed_At D [.ptr ax, I c, I a3]) fun a4 =>
asI .i64 a4 fun y =>
cond (decide (y < 0)) (
ret (.ret [I 0, I 10])) (
mP d fun a5 a6 =>
ldC a5 (a6 + 2 + 2) fun a7 => asP a7 fun a8 =>
bnd (f_cursor_Cursor_Step D [.ptr a8, I c]) fun a9 =>
asB a9 fun bb =>
ret (.ret [I y, I 0]))))))))))
def f_law22_does (D : DD) (e : List HV) : M HV :=
fin (
uP e fun a r =>
uA r fun f g =>
uI .i64 f fun b h =>
uI .i64 h fun c i =>
uI .i64 i fun d j =>
uI .u8 j fun k l =>
nl l (
nl g (
cond (b == 0) (
bnd (f_attempt_Attempt_Load D [.ptr a, I c]) fun m =>
asT m fun n => uI .i64 n fun af o =>
uI .i64 o fun ag p =>
nl p (
ret (.ret []))) (
cond (b == 1) (
bnd (f_attempt_Attempt_Store D [.ptr a, I c, I d]) fun q =>
asI .i64 q fun ah =>
ret (.ret [])) (
cond (b == 2) (
bnd (f_attempt_Attempt_Read D [.ptr a, I c, I d]) fun s =>
asT s fun t => uI .i64 t fun ai u =>
uI .i64 u fun aj v =>
nl v (
ret (.ret []))) (
cond (b == 3) (
bnd (f_attempt_Attempt_Write D [.ptr a, I c, I d, .int .u8 k]) fun w =>
asI .i64 w fun ak =>
ret (.ret [])) (
cond (b == 4) (
bnd (f_attempt_Attempt_Create D [.ptr a, I c]) fun x =>
asI .i64 x fun al =>
ret (.ret [])) (
cond (b == 5) (
bnd (f_attempt_Attempt_Remove D [.ptr a, I c]) fun y =>
asI .i64 y fun am =>
ret (.ret [])) (
cond (b == 6) (
bnd (f_attempt_Attempt_Rename D [.ptr a, I c, I d]) fun z =>
asI .i64 z fun an =>
ret (.ret [])) (
cond (b == 7) (
bnd (f_attempt_Attempt_Cut D [.ptr a, I c, I d]) fun aa =>
asI .i64 aa fun ao =>
ret (.ret [])) (
cond (b == 8) (
bnd (f_attempt_Attempt_Recv D [.ptr a, I c]) fun ab =>
asT ab fun ac => uI .i64 ac fun ap ad =>
uI .i64 ad fun aq ae =>
nl ae (
ret (.ret []))) (
ret (.ret [])))))))))))))
def f_acts_Acts_Send (D : DD) (c : List HV) : M HV :=
fin (
uP c fun a r =>
uI .i64 r fun b d =>
uI .u8 d fun e f =>
nl f (
jn (
cond (Option.isNone a) (
ret (.norm [.bool true])) (
cond (decide (b < 0)) (
ret (.norm [.bool true])) (
ret (.norm [.bool (decide (b ≥ 3))])))) fun g =>
uB g fun h i =>
nl i (
cond h (
ret (.ret [.bool false])) (
mP a fun j k =>
ldC j k fun v => asSl v fun l =>
apd l 2 16 1 [I b, .int .u8 e] fun m =>
mP a fun n o =>
stC n o (.sl m) (
ret (.ret [.bool true]))))))
def f_acts_Acts_Later (D : DD) (c : List HV) : M HV :=
fin (
uP c fun a r =>
uI .i64 r fun b d =>
uI .u8 d fun e f =>
nl f (
jn (
cond (Option.isNone a) (
ret (.norm [.bool true])) (
cond (decide (b < 0)) (
ret (.norm [.bool true])) (
ret (.norm [.bool (decide (b ≥ 3))])))) fun g =>
uB g fun h i =>
nl i (
cond h (
ret (.ret [.bool false])) (
mP a fun j k =>
ldC j (k + 1) fun v => asSl v fun l =>
apd l 2 16 1 [I b, .int .u8 e] fun m =>
mP a fun n o =>
stC n (o + 1) (.sl m) (
ret (.ret [.bool true]))))))
def f_acts_Acts_Note (D : DD) (b : List HV) : M HV :=
fin (
uP b fun a r =>
uI .i64 r fun c d =>
nl d (
cond (Option.isNone a) (
ret (.ret [.bool false])) (
mP a fun e f =>
ldC e (f + 2) fun v => asSl v fun g =>
apd g 1 8 1 [I c] fun h =>
mP a fun i j =>
stC i (j + 2) (.sl h) (
ret (.ret [.bool true])))))
def f_acts_Acts_Opened (D : DD) (c : List HV) : M HV :=
fin (
uP c fun a r =>
uI .i64 r fun b d =>
uI .i64 d fun e f =>
nl f (
jn (
cond (Option.isNone a) (
ret (.norm [.bool true])) (
cond (decide (b < 0)) (
ret (.norm [.bool true])) (
ret (.norm [.bool (decide (b ≥ 4))])))) fun g =>
uB g fun h i =>
nl i (
cond h (
ret (.ret [.bool false])) (
mP a fun j k =>
ldC j (k + 3) fun v => asSl v fun l =>
apd l 2 16 1 [I b, I e] fun m =>
mP a fun n o =>
stC n (o + 3) (.sl m) (
ret (.ret [.bool true]))))))
def f_slices_Backward_acts_Open_acts_Open_1 (D : DD) (c : List HV) : M HV :=
fin (
uc c fun d r =>
uP r fun b e =>
nl e (
mP b fun f g =>
ldC f g fun v => asSl v fun h =>
blk 0 (
loopD (fun i =>
uI .i64 i fun a j =>
nl j (
cond (decide (a ≥ 0)) (
mP b fun k l =>
ldC k l fun m => asSl m fun n =>
ix n a 2 fun o p =>
ldN o p 2 fun q =>
uI .i64 q fun s t =>
uI .i64 t fun u w =>
nl w (
bnd (D d [I a, .agg [I s, I u]]) fun x =>
asB x fun y =>
cond (!y) (
ret (.ret [])) (
ret (.norm [I (wr (a - 1))])))) (
ret (.exit 0 [])))) [I (wr ((h.len : Int) - 1))]) fun z =>
nl z (
ret (.ret []))))
def f_slices_Backward_acts_Open_acts_Open (D : DD) (a : List HV) : M HV :=
fin (
uL a fun b r =>
nl r (
nw [.sl b] fun c =>
ret (.ret [.func n_slices_Backward_acts_Open_acts_Open_1 [] [.ptr (some (c, 0))]])))
def f_acts_undo (D : DD) (d : List HV) : M HV :=
fin (
uL d fun e r =>
nl r (
nw [.sl (⟨none, 0, 0, none⟩)] fun b =>
bnd (f_slices_Backward_acts_Open_acts_Open D [.sl e]) fun c =>
blk 0 (
ny c (nwL 49475106 [(3, .ptr (some (b, 0)))] fun l =>
bnd (D c [.yld l]) fun q =>
endL l (
ret (.norm []))
(onX 0 (ret (.exit 0 [])) noX) (
ret (.ret [.sl (⟨none, 0, 0, none⟩)])))) fun f =>
nl f (
ldC b 0 fun v => asSl v fun g =>
ret (.ret [.sl g]))))
def r0_acts_undo (D : DD) (l : Nat) (b : List (Nat × HV)) (c : List HV) : M Leaf :=
gdS [3] b fun vs' =>
uP vs' fun a r =>
nl r (
uI .i64 c fun p d =>
uA d fun e f =>
uI .i64 e fun g h =>
uI .i64 h fun i j =>
nl j (
nl f (
busyL l (
mP a fun k m =>
ldC k m fun v => asSl v fun n =>
apd n 2 16 1 [I g, I (wr (0 - i))] fun o =>
mP a fun qb qo =>
stC qb qo (.sl o) (
ret (.norm []))))))
def f_acts_Acts_Undo (D : DD) (b : List HV) : M HV :=
fin (
uP b fun a r =>
nl r (
cond (Option.isNone a) (
ret (.ret [.sl (⟨none, 0, 0, none⟩)])) (
mP a fun c d =>
ldC c (d + 3) fun v => asSl v fun e =>
bnd (f_acts_undo D [.sl e]) fun f =>
asSl f fun g =>
ret (.ret [.sl g]))))
def f_world_World_Add (D : DD) (e : List HV) : M HV :=
fin (
uP e fun b r =>
uL r fun d f =>
nl f (
cond (Option.isNone b) (
ret (.ret [])) (
blk 0 (
loopD (fun g =>
uI .i64 g fun c h =>
nl h (
cond (decide (c < (d.len : Int))) (
blk 1 (
ix d c 2 fun i j =>
ldN i j 2 fun k =>
uI .i64 k fun a l =>
uI .i64 l fun m n =>
nl n (
jn (
cond (decide (a ≥ 0)) (
ret (.norm [.bool (decide (a < 4))])) (
ret (.norm [.bool false]))) fun o =>
uB o fun p q =>
nl q (
cond p (
mP b fun s t =>
gd (decide (0 ≤ a)) (gd (decide (a < (4 : Int))) (
ldC s (t + 5 + a.toNat * 1) fun v => asI .i64 v fun u =>
mP b fun w x =>
gd (decide (0 ≤ a)) (gd (decide (a < (4 : Int))) (
stC w (x + 5 + a.toNat * 1) (I (wr (u + m))) (
ret (.norm []))))))) (
ret (.norm []))))) fun y =>
nl y (
ret (.norm [I (wr (c + 1))]))) (
ret (.exit 0 [])))) [I 0]) fun z =>
nl z (
ret (.ret [])))))
def f_law22_begun (D : DD) (k : List HV) : M HV :=
fin (
uP k fun e r =>
uL r fun f l =>
nl l (
blk 0 (
loopD (fun m =>
uL m fun g n =>
uI .i64 n fun b o =>
nl o (
cond (decide (b < (f.len : Int))) (
ix f b 7 fun p q =>
ldN p q 7 fun s =>
uL s fun h t =>
uI .i64 t fun i u =>
uI .u8 u fun v w =>
uI .u8 w fun x y =>
uI .i64 y fun z aa =>
uI .i64 aa fun ab ac =>
uI .i64 ac fun ad ae =>
nl ae (
bnd (f_world_World_View D [.ptr e]) fun af =>
asP af fun ag =>
bnd (f_attempt_New D [.ptr ag, .agg [I 0, I 0, I 0, I 0]]) fun ah =>
asP ah fun a =>
blk 2 (
loopD (fun ai =>
uI .i64 ai fun c aj =>
nl aj (
cond (decide (c < (h.len : Int))) (
ix h c 4 fun ak al =>
ldN ak al 4 fun am =>
uI .i64 am fun an ao =>
uI .i64 ao fun ap aq =>
uI .i64 aq fun ar as =>
uI .u8 as fun au av =>
nl av (
bnd (f_law22_does D [.ptr a, .agg [I an, I ap, I ar, .int .u8 au]]) fun aw =>
asT aw fun ax => nl ax (
ret (.norm [I (wr (c + 1))])))) (
ret (.exit 2 [])))) [I 0]) fun ay =>
nl ay (
bnd (f_attempt_Attempt_Acts D [.ptr a]) fun az =>
asP az fun a0 =>
bnd (f_acts_Acts_Send D [.ptr a0, I i, .int .u8 v]) fun a1 =>
asB a1 fun bx =>
bnd (f_attempt_Attempt_Acts D [.ptr a]) fun a2 =>
asP a2 fun a3 =>
bnd (f_acts_Acts_Later D [.ptr a3, I i, .int .u8 x]) fun a4 =>
asB a4 fun bz =>
bnd (f_attempt_Attempt_Acts D [.ptr a]) fun a5 =>
asP a5 fun a6 =>
bnd (f_acts_Acts_Note D [.ptr a6, I z]) fun a7 =>
asB a7 fun b0 =>
bnd (f_attempt_Attempt_Acts D [.ptr a]) fun a8 =>
asP a8 fun a9 =>
bnd (f_acts_Acts_Opened D [.ptr a9, I ab, I ad]) fun ba =>
asB ba fun bb =>
jn (
cond bb (
bnd (f_attempt_Attempt_Acts D [.ptr a]) fun bc =>
asP bc fun bd =>
bnd (f_acts_Acts_Undo D [.ptr bd]) fun be =>
asSl be fun j =>
blk 4 (
loopD (fun bf =>
uI .i64 bf fun d bg =>
nl bg (
cond (decide (d < (j.len : Int))) (
ix j d 2 fun bh bi =>
ldN bh bi 2 fun bj =>
uI .i64 bj fun bk bl =>
uI .i64 bl fun bm bn =>
nl bn (
nw [I bk, I (wr (0 - bm))] fun bo =>
bnd (f_world_World_Add D [.ptr e, .sl (⟨some (bo, 0), 1, 1, none⟩)]) fun bp =>
asT bp fun bq => nl bq (
ret (.norm [I (wr (d + 1))])))) (
ret (.exit 4 [])))) [I 0]) fun br =>
nl br (
ret (.norm []))) (
ret (.norm []))) fun bs =>
nl bs (
apd g 1 8 1 [.ptr a] fun bt =>
ret (.norm [.sl bt, I (wr (b + 1))]))))) (
ret (.exit 0 [.sl g])))) [.sl (⟨none, 0, 0, none⟩), I 0]) fun vs =>
uL vs fun bv bw =>
nl bw (
ret (.ret [.sl bv]))))
def f_law22_things (D : DD) (k : List HV) : M HV :=
fin (
uP k fun d r =>
nl r (
blk 0 (
loopD (fun l =>
uI .i64 l fun a m =>
uA m fun e n =>
nl n (
cond (decide (a < 8)) (
bnd (f_world_World_View D [.ptr d]) fun o =>
asP o fun p =>
mP p fun q s =>
ldC q s fun v => asP v fun t =>
bnd (f_cell_Row_int_Get D [.ptr t, I a]) fun u =>
asT u fun w => uI .i64 w fun x y =>
uI .i64 y fun bf z =>
nl z (
gd (decide (0 ≤ a)) (gd (decide (a < (8 : Int))) (
gd (decide (0 + a.toNat * 1 < e.length)) (
ret (.norm [I (wr (a + 1)), .agg (List.set e (0 + a.toNat * 1) (I x))])))))) (
ret (.exit 0 [.agg e])))) [I 0, .agg [I 0, I 0, I 0, I 0, I 0, I 0, I 0, I 0, .bool false, .str (ByteArray.mk #[]), .bool false, .str (ByteArray.mk #[]), .bool false, .str (ByteArray.mk #[]), .bool false, .str (ByteArray.mk #[]), .bool false, .str (ByteArray.mk #[]), .bool false, .str (ByteArray.mk #[]), I 0, I 0, I 0]]) fun vs =>
uA vs fun ab ac =>
nl ac (
blk 2 (
loopD (fun ad =>
uI .i64 ad fun b ae =>
uA ae fun f af =>
nl af (
cond (decide (b < 6)) (
bnd (f_world_World_View D [.ptr d]) fun ag =>
asP ag fun ah =>
mP ah fun ai aj =>
ldC ai (aj + 1) fun ak => asP ak fun al =>
bnd (f_tome_Tome_Get D [.ptr al, I b]) fun am =>
asT am fun an => uA an fun ao ap =>
uB ao fun i aq =>
uS aq fun j ar =>
nl ar (
uI .i64 ap fun bg as =>
nl as (
gd (decide (0 ≤ b)) (gd (decide (b < (6 : Int))) (
gd (Nat.ble (8 + b.toNat * 2 + (([.bool i, .str j]) : List HV).length) f.length) (
ret (.norm [I (wr (b + 1)), .agg (putN f (8 + b.toNat * 2) [.bool i, .str j])]))))))) (
ret (.exit 2 [.agg f])))) [I 0, .agg ab]) fun au =>
uA au fun av aw =>
nl aw (
blk 4 (
loopD (fun ax =>
uI .i64 ax fun c ay =>
uA ay fun g az =>
nl az (
cond (decide (c < 3)) (
bnd (f_world_World_View D [.ptr d]) fun a0 =>
asP a0 fun a1 =>
mP a1 fun a2 a3 =>
ldC a2 (a3 + 2) fun a4 => asP a4 fun a5 =>
bnd (f_feed_Feed_Place D [.ptr a5, I c]) fun a6 =>
asT a6 fun a7 => uI .i64 a7 fun a8 a9 =>
uI .i64 a9 fun bh ba =>
nl ba (
gd (decide (0 ≤ c)) (gd (decide (c < (3 : Int))) (
gd (decide (20 + c.toNat * 1 < g.length)) (
ret (.norm [I (wr (c + 1)), .agg (List.set g (20 + c.toNat * 1) (I a8))])))))) (
ret (.exit 4 [.agg g])))) [I 0, .agg av]) fun bb =>
uA bb fun bc bd =>
nl bd (
gxN bc 0 23 fun h =>
gd (Nat.beq h.length 23) (
gd (Nat.ble (0 + h.length) (([I 0, I 0, I 0, I 0, I 0, I 0, I 0, I 0, .bool false, .str (ByteArray.mk #[]), .bool false, .str (ByteArray.mk #[]), .bool false, .str (ByteArray.mk #[]), .bool false, .str (ByteArray.mk #[]), .bool false, .str (ByteArray.mk #[]), .bool false, .str (ByteArray.mk #[]), I 0, I 0, I 0]) : List HV).length) (
gxN (putN [I 0, I 0, I 0, I 0, I 0, I 0, I 0, I 0, .bool false, .str (ByteArray.mk #[]), .bool false, .str (ByteArray.mk #[]), .bool false, .str (ByteArray.mk #[]), .bool false, .str (ByteArray.mk #[]), .bool false, .str (ByteArray.mk #[]), .bool false, .str (ByteArray.mk #[]), I 0, I 0, I 0] 0 h) 0 23 fun be =>
ret (.ret [.agg be]))))))))
def f_ref20_Good (D : DD) (d : List HV) : M HV :=
fin (
uA d fun e r =>
uI .i64 e fun a f =>
uI .i64 f fun b g =>
uI .i64 g fun c h =>
uI .u8 h fun q i =>
nl i (
nl r (
jn (
cond (decide (a < 0)) (
ret (.norm [.bool true])) (
cond (decide (a > 8)) (
ret (.norm [.bool true])) (
cond (decide (b < 0)) (
ret (.norm [.bool true])) (
gd (decide (0 ≤ a)) (gd (decide (a < (9 : Int))) (
gx [I 7, I 7, I 5, I 5, I 5, I 5, I 5, I 5, I 2] (0 + a.toNat * 1) fun v => asI .i64 v fun j =>
ret (.norm [.bool (decide (b > j))]))))))) fun k =>
uB k fun l m =>
nl m (
cond l (
ret (.ret [.bool false])) (
jn (
cond (a != 6) (
ret (.norm [.bool true])) (
cond (decide (c ≥ 0)) (
ret (.norm [.bool (decide (c ≤ 5))])) (
ret (.norm [.bool false])))) fun n =>
uB n fun o p =>
nl p (
ret (.ret [.bool o])))))))
def f_ref09_At (D : DD) (c : List HV) : M HV :=
fin (
uA c fun d r =>
uB d fun l e =>
uS e fun b f =>
nl f (
uI .i64 r fun g h =>
nl h (
blk 0 (
loopD (fun i =>
uI .i64 i fun a j =>
nl j (
cond (decide (a < (b.size : Int))) (
cond (a == g) (
gd (decide (0 ≤ a)) (gd (decide (a < (b.size : Int))) (
ret (.ret [I (wr ((b.data[a.toNat]?.getD 0).toNat : Int))])))) (
ret (.norm [I (wr (a + 1))]))) (
ret (.exit 0 [])))) [I 0]) fun k =>
nl k (
ret (.ret [I (-1)])))))
def f_ref14_Is (D : DD) (b : List HV) : M HV :=
fin (
uI .i64 b fun a r =>
nl r (
jn (
cond (decide (a ≥ 0)) (
ret (.norm [.bool (decide (a ≤ 5))])) (
ret (.norm [.bool false]))) fun c =>
uB c fun d e =>
nl e (
ret (.ret [.bool d]))))
def f_ref14_Sheet_put (D : DD) (e : List HV) : M HV :=
fin (
uP e fun b r =>
uI .i64 r fun a f =>
uA f fun g h =>
uB g fun c i =>
uS i fun d j =>
nl j (
nl h (
mP b fun k l =>
gd (decide (0 ≤ a)) (gd (decide (a < (6 : Int))) (
ldN k (l + 12 + a.toNat * 2) 2 fun m =>
uB m fun n o =>
uS o fun p q =>
nl q (
cond (!(cond (n == c) (cond (p.toList == d.toList) true false) false)) (
mP b fun s t =>
gd (decide (0 ≤ a)) (gd (decide (a < (6 : Int))) (
stN s (t + 12 + a.toNat * 2) [.bool c, .str d] (
mP b fun u v =>
gd (decide (0 ≤ a)) (gd (decide (a < (6 : Int))) (
stC u (v + 24 + a.toNat * 1) (.bool true) (
ret (.ret [])))))))) (
ret (.ret []))))))))
def f_ref09_Put (D : DD) (h : List HV) : M HV :=
fin (
uA h fun i r =>
uB i fun e j =>
uS j fun c k =>
nl k (
uI .i64 r fun b l =>
uI .u8 l fun m n =>
nl n (
jn (
cond (decide (b < 0)) (
ret (.norm [.bool true])) (
ret (.norm [.bool (decide (b > 31))]))) fun o =>
uB o fun p q =>
nl q (
cond p (
ret (.ret [.agg [.bool e, .str c]])) (
blk 0 (
loopD (fun s =>
uS s fun d t =>
uI .i64 t fun a u =>
nl u (
jn (
cond (decide (a < (c.size : Int))) (
ret (.norm [.bool true])) (
ret (.norm [.bool (decide (a ≤ b))]))) fun v =>
uB v fun w x =>
nl x (
cond w (
bnd (f_ref09_At D [.agg [.bool e, .str c], I a]) fun y =>
asI .i64 y fun f =>
jn (
cond (a == b) (
ret (.norm [I (wr m)])) (
ret (.norm [I (bif decide (0 > f) then 0 else f)]))) fun z =>
uI .i64 z fun g aa =>
nl aa (
gd (decide (d.size + (strB [IntKind.wrap .u8 g]).size ≤ 9223372036854775807)) (
ret (.norm [.str (d ++ (strB [IntKind.wrap .u8 g])), I (wr (a + 1))])))) (
ret (.exit 0 [.str d]))))) [.str (ByteArray.mk #[]), I 0]) fun ab =>
uS ab fun ac ad =>
nl ad (
ret (.ret [.agg [.bool true, .str ac]])))))))
def f_ref14_Sheet_Write (D : DD) (c : List HV) : M HV :=
fin (
uP c fun b r =>
uI .i64 r fun a d =>
uI .i64 d fun e f =>
uI .u8 f fun g h =>
nl h (
bnd (f_ref14_Is D [I a]) fun i =>
asB i fun j =>
jn (
cond j (
mP b fun k l =>
gd (decide (0 ≤ a)) (gd (decide (a < (6 : Int))) (
ldN k (l + 12 + a.toNat * 2) 2 fun m =>
uB m fun n o =>
uS o fun p q =>
nl q (
bnd (f_ref09_Put D [.agg [.bool n, .str p], I e, .int .u8 g]) fun s =>
asA s fun t => uB t fun u v =>
uS v fun w x =>
nl x (
bnd (f_ref14_Sheet_put D [.ptr b, I a, .agg [.bool u, .str w]]) fun y =>
asT y fun z => nl z (
ret (.norm []))))))) (
ret (.norm []))) fun vs =>
nl vs (
bnd (f_ref14_Is D [I a]) fun ab =>
asB ab fun ac =>
ret (.ret [.bool ac]))))
def f_ref14_Sheet_Create (D : DD) (c : List HV) : M HV :=
fin (
uP c fun b r =>
uI .i64 r fun a d =>
nl d (
bnd (f_ref14_Is D [I a]) fun e =>
asB e fun f =>
jn (
cond f (
mP b fun g h =>
gd (decide (0 ≤ a)) (gd (decide (a < (6 : Int))) (
ldC g (h + 12 + a.toNat * 2 + 1) fun v => asS v fun i =>
bnd (f_ref14_Sheet_put D [.ptr b, I a, .agg [.bool true, .str i]]) fun j =>
asT j fun k => nl k (
ret (.norm []))))) (
ret (.norm []))) fun l =>
nl l (
bnd (f_ref14_Is D [I a]) fun m =>
asB m fun n =>
ret (.ret [.bool n]))))
def f_ref14_Sheet_Remove (D : DD) (b : List HV) : M HV :=
fin (
uP b fun c r =>
uI .i64 r fun a d =>
nl d (
bnd (f_ref14_Is D [I a]) fun e =>
asB e fun f =>
jn (
cond f (
bnd (f_ref14_Sheet_put D [.ptr c, I a, .agg [.bool false, .str (ByteArray.mk #[])]]) fun g =>
asT g fun h => nl h (
ret (.norm []))) (
ret (.norm []))) fun i =>
nl i (
bnd (f_ref14_Is D [I a]) fun j =>
asB j fun k =>
ret (.ret [.bool k]))))
def f_ref14_Sheet_Rename (D : DD) (d : List HV) : M HV :=
fin (
uP d fun b r =>
uI .i64 r fun a e =>
uI .i64 e fun c f =>
nl f (
jn (
bnd (f_ref14_Is D [I a]) fun g =>
asB g fun h =>
cond (!h) (
ret (.norm [.bool true])) (
bnd (f_ref14_Is D [I c]) fun i =>
asB i fun j =>
ret (.norm [.bool (!j)]))) fun k =>
uB k fun l m =>
nl m (
cond l (
ret (.ret [.bool false])) (
jn (
mP b fun n o =>
gd (decide (0 ≤ a)) (gd (decide (a < (6 : Int))) (
ldC n (o + 12 + a.toNat * 2) fun v => asB v fun p =>
cond p (
ret (.norm [.bool (a != c)])) (
ret (.norm [.bool false]))))) fun q =>
uB q fun s t =>
nl t (
jn (
cond s (
mP b fun u w =>
gd (decide (0 ≤ a)) (gd (decide (a < (6 : Int))) (
ldN u (w + 12 + a.toNat * 2) 2 fun x =>
uB x fun y z =>
uS z fun aa ab =>
nl ab (
bnd (f_ref14_Sheet_put D [.ptr b, I c, .agg [.bool y, .str aa]]) fun ac =>
asT ac fun ad => nl ad (
bnd (f_ref14_Sheet_put D [.ptr b, I a, .agg [.bool false, .str (ByteArray.mk #[])]]) fun ae =>
asT ae fun af => nl af (
ret (.norm []))))))) (
ret (.norm []))) fun ag =>
nl ag (
ret (.ret [.bool true])))))))
def f_ref09_Cut (D : DD) (g : List HV) : M HV :=
fin (
uA g fun h r =>
uB h fun b i =>
uS i fun f j =>
nl j (
uI .i64 r fun c k =>
nl k (
jn (
cond (!b) (
ret (.norm [.bool true])) (
cond (decide (c < 0)) (
ret (.norm [.bool true])) (
ret (.norm [.bool (decide (c > 32))])))) fun l =>
uB l fun m n =>
nl n (
cond m (
ret (.ret [.agg [.bool b, .str f]])) (
blk 0 (
loopD (fun o =>
uS o fun d p =>
uI .i64 p fun e q =>
nl q (
cond (decide (e < c)) (
bnd (f_ref09_At D [.agg [.bool b, .str f], I e]) fun s =>
asI .i64 s fun a =>
gd (decide (d.size + (strB [IntKind.wrap .u8 (bif decide (0 > a) then 0 else a)]).size ≤ 9223372036854775807)) (
ret (.norm [.str (d ++ (strB [IntKind.wrap .u8 (bif decide (0 > a) then 0 else a)])), I (wr (e + 1))]))) (
ret (.exit 0 [.str d])))) [.str (ByteArray.mk #[]), I 0]) fun t =>
uS t fun u v =>
nl v (
ret (.ret [.agg [.bool true, .str u]])))))))
def f_ref14_Sheet_Cut (D : DD) (c : List HV) : M HV :=
fin (
uP c fun b r =>
uI .i64 r fun a d =>
uI .i64 d fun e f =>
nl f (
bnd (f_ref14_Is D [I a]) fun g =>
asB g fun h =>
jn (
cond h (
mP b fun i j =>
gd (decide (0 ≤ a)) (gd (decide (a < (6 : Int))) (
ldN i (j + 12 + a.toNat * 2) 2 fun k =>
uB k fun l m =>
uS m fun n o =>
nl o (
bnd (f_ref09_Cut D [.agg [.bool l, .str n], I e]) fun p =>
asA p fun q => uB q fun s t =>
uS t fun u v =>
nl v (
bnd (f_ref14_Sheet_put D [.ptr b, I a, .agg [.bool s, .str u]]) fun w =>
asT w fun x => nl x (
ret (.norm []))))))) (
ret (.norm []))) fun y =>
nl y (
bnd (f_ref14_Is D [I a]) fun z =>
asB z fun aa =>
ret (.ret [.bool aa]))))
def f_ref20_Do (D : DD) (t : List HV) : M HV :=
fin (
uA t fun f r =>
uA r fun u w =>
uS u fun k x =>
uS x fun l y =>
uS y fun m z =>
nl z (
uL w fun n aa =>
nl aa (
gxN f 8 12 fun o =>
gxN f 8 12 fun p =>
gd (Nat.beq o.length 12) (gd (Nat.beq p.length 12) (nw (putN (putN [.bool false, .str (ByteArray.mk #[]), .bool false, .str (ByteArray.mk #[]), .bool false, .str (ByteArray.mk #[]), .bool false, .str (ByteArray.mk #[]), .bool false, .str (ByteArray.mk #[]), .bool false, .str (ByteArray.mk #[]), .bool false, .str (ByteArray.mk #[]), .bool false, .str (ByteArray.mk #[]), .bool false, .str (ByteArray.mk #[]), .bool false, .str (ByteArray.mk #[]), .bool false, .str (ByteArray.mk #[]), .bool false, .str (ByteArray.mk #[]), .bool false, .bool false, .bool false, .bool false, .bool false, .bool false] 0 o) 12 p) fun d =>
blk 0 (
loopD (fun ab =>
uI .i64 ab fun x9 ad =>
uI .i64 ad fun g ae =>
uA ae fun b af =>
nl af (
cond (decide (g < (n.len : Int))) (
blk 1 (
ix n g 4 fun ag ah =>
ldN ag ah 4 fun ai =>
uI .i64 ai fun c aj =>
uI .i64 aj fun a ak =>
uI .i64 ak fun e al =>
uI .u8 al fun am an =>
nl an (
cond (c == 0) (
gd (decide (0 ≤ a)) (gd (decide (a < (8 : Int))) (
gx b (0 + a.toNat * 1) fun v => asI .i64 v fun ao =>
ret (.norm [I ao, .agg b])))) (
cond (c == 1) (
gd (decide (0 ≤ a)) (gd (decide (a < (8 : Int))) (
gd (decide (0 + a.toNat * 1 < b.length)) (
ret (.norm [I 0, .agg (List.set b (0 + a.toNat * 1) (I e))]))))) (
cond (c == 2) (
gd (decide (0 ≤ a)) (gd (decide (a < (6 : Int))) (
ldN d (12 + a.toNat * 2) 2 fun ap =>
uB ap fun aq ar =>
uS ar fun as au =>
nl au (
bnd (f_ref09_At D [.agg [.bool aq, .str as], I e]) fun av =>
asI .i64 av fun aw =>
ret (.norm [I aw, .agg b]))))) (
cond (c == 3) (
bnd (f_ref14_Sheet_Write D [.ptr (some (d, 0)), I a, I e, .int .u8 am]) fun ax =>
asB ax fun bk =>
ret (.norm [I 0, .agg b])) (
cond (c == 4) (
bnd (f_ref14_Sheet_Create D [.ptr (some (d, 0)), I a]) fun ay =>
asB ay fun bl =>
ret (.norm [I 0, .agg b])) (
cond (c == 5) (
bnd (f_ref14_Sheet_Remove D [.ptr (some (d, 0)), I a]) fun az =>
asB az fun bm =>
ret (.norm [I 0, .agg b])) (
cond (c == 6) (
bnd (f_ref14_Sheet_Rename D [.ptr (some (d, 0)), I a, I e]) fun a0 =>
asB a0 fun bn =>
ret (.norm [I 0, .agg b])) (
cond (c == 7) (
bnd (f_ref14_Sheet_Cut D [.ptr (some (d, 0)), I a, I e]) fun a1 =>
asB a1 fun bo =>
ret (.norm [I 0, .agg b])) (
cond (c == 8) (
gd (decide (0 ≤ a)) (gd (decide (a < (3 : Int))) (
gx b (20 + a.toNat * 1) fun a2 => asI .i64 a2 fun a3 =>
gd (decide (0 ≤ a)) (gd (decide (a < (3 : Int))) (
gx [.str k, .str l, .str m] (0 + a.toNat * 1) fun a4 => asS a4 fun a5 =>
cond (decide (a3 < (a5.size : Int))) (
gd (decide (0 ≤ a)) (gd (decide (a < (3 : Int))) (
gx [.str k, .str l, .str m] (0 + a.toNat * 1) fun a6 => asS a6 fun q =>
gd (decide (0 ≤ a)) (gd (decide (a < (3 : Int))) (
gx b (20 + a.toNat * 1) fun a7 => asI .i64 a7 fun h =>
gd (decide (0 ≤ h)) (gd (decide (h < (q.size : Int))) (
gd (decide (0 ≤ a)) (gd (decide (a < (3 : Int))) (
gx b (20 + a.toNat * 1) fun a8 => asI .i64 a8 fun a9 =>
gd (decide (0 ≤ a)) (gd (decide (a < (3 : Int))) (
gd (decide (20 + a.toNat * 1 < b.length)) (
ret (.norm [I (wr ((q.data[h.toNat]?.getD 0).toNat : Int)), .agg (List.set b (20 + a.toNat * 1) (I (wr (a9 + 1))))]))))))))))))) (
ret (.norm [I (-1), .agg b]))))))) (
ret (.norm [I 0, .agg b])))))))))))) fun ba =>
uI .i64 ba fun bb bc =>
uA bc fun bd be =>
nl be (
ret (.norm [I bb, I (wr (g + 1)), .agg bd]))) (
ret (.exit 0 [I x9, .agg b])))) [I 0, I 0, .agg f]) fun vs =>
uI .i64 vs fun bg bh =>
uA bh fun s bi =>
nl bi (
ldN d 12 12 fun i =>
gd (Nat.beq i.length 12) (
gd (Nat.ble (8 + i.length) s.length) (
gxN (putN s 8 i) 0 23 fun j =>
gd (Nat.beq j.length 23) (
gd (Nat.ble (0 + j.length) (([I 0, I 0, I 0, I 0, I 0, I 0, I 0, I 0, .bool false, .str (ByteArray.mk #[]), .bool false, .str (ByteArray.mk #[]), .bool false, .str (ByteArray.mk #[]), .bool false, .str (ByteArray.mk #[]), .bool false, .str (ByteArray.mk #[]), .bool false, .str (ByteArray.mk #[]), I 0, I 0, I 0]) : List HV).length) (
gxN (putN [I 0, I 0, I 0, I 0, I 0, I 0, I 0, I 0, .bool false, .str (ByteArray.mk #[]), .bool false, .str (ByteArray.mk #[]), .bool false, .str (ByteArray.mk #[]), .bool false, .str (ByteArray.mk #[]), .bool false, .str (ByteArray.mk #[]), .bool false, .str (ByteArray.mk #[]), I 0, I 0, I 0] 0 j) 0 23 fun bj =>
ret (.ret [I bg, .agg bj])))))))))))
def f_disk_Disk_Crash (D : DD) (i : List HV) : M HV :=
fin (
uP i fun d r =>
uI .i64 r fun j k =>
uI .i64 k fun a l =>
nl l (
cond (Option.isNone d) (
ret (.ret [])) (
mP d fun m n =>
ldC m (n + 4) fun v => asSl v fun h =>
blk 0 (
loopD (fun o =>
uI .i64 o fun f p =>
nl p (
cond (decide (f < (h.len : Int))) (
ix h f 3 fun q s =>
ldN q s 3 fun t =>
uI .i64 t fun g u =>
uB u fun e w =>
uS w fun b x =>
nl x (
cond (decide (f ≥ j)) (
jn (
cond (!e) (
gd (decide (0 ≤ 0)) (gd (decide (0 ≤ (bif decide ((b.size : Int) < (bif decide (0 > a) then 0 else a)) then (b.size : Int) else (bif decide (0 > a) then 0 else a)))) (gd (decide ((bif decide ((b.size : Int) < (bif decide (0 > a) then 0 else a)) then (b.size : Int) else (bif decide (0 > a) then 0 else a)) ≤ (b.size : Int))) (
bnd (f_disk_Disk_land D [.ptr d, .agg [I g, .bool e, .str (b.extract (0 : Int).toNat (bif decide ((b.size : Int) < (bif decide (0 > a) then 0 else a)) then (b.size : Int) else (bif decide (0 > a) then 0 else a)).toNat)]]) fun y =>
asT y fun z => nl z (
ret (.norm [.agg [I g, .bool e, .str (b.extract (0 : Int).toNat (bif decide ((b.size : Int) < (bif decide (0 > a) then 0 else a)) then (b.size : Int) else (bif decide (0 > a) then 0 else a)).toNat)]])))))) (
ret (.norm [.agg [I g, .bool e, .str b]]))) fun aa =>
uA aa fun y7 ac =>
uI .i64 y7 fun av ad =>
uB ad fun aw ae =>
uS ae fun ax af =>
nl af (
nl ac (
ret (.exit 0 [])))) (
bnd (f_disk_Disk_land D [.ptr d, .agg [I g, .bool e, .str b]]) fun ag =>
asT ag fun ah => nl ah (
ret (.norm [I (wr (f + 1))]))))) (
ret (.exit 0 [])))) [I 0]) fun vs =>
nl vs (
mP d fun aj ak =>
stC aj (ak + 4) (.sl (⟨none, 0, 0, none⟩)) (
blk 2 (
loopD (fun al =>
uI .i64 al fun c am =>
nl am (
cond (decide (c < 2)) (
mP d fun an ao =>
gd (decide (0 ≤ c)) (gd (decide (c < (2 : Int))) (
ldC an (ao + c.toNat * 2 + 1) fun ap => asS ap fun aq =>
mP d fun ar as =>
gd (decide (0 ≤ c)) (gd (decide (c < (2 : Int))) (
stC ar (as + c.toNat * 2) (.str aq) (
ret (.norm [I (wr (c + 1))]))))))) (
ret (.exit 2 [])))) [I 0]) fun au =>
nl au (
ret (.ret [])))))))
def f_law22_CommitLasts (D : DD) (z : List HV) : M HV :=
fin (
uL z fun a r =>
uL r fun g aa =>
uI .i64 aa fun x2 ac =>
uI .i64 ac fun x3 ae =>
nl ae (
bnd (f_law22_alive D []) fun af =>
asB af fun ag =>
cond (!ag) (
ret (.ret [.bool false])) (
jn (
bnd (f_law22_great D [.sl a]) fun ah =>
asB ah fun ai =>
cond ai (
ret (.norm [.bool true])) (
cond (decide ((g.len : Int) > 60)) (
ret (.norm [.bool true])) (
ret (.norm [.bool ((a.len : Int) == 0)])))) fun vs =>
uB vs fun ak al =>
nl al (
cond ak (
ret (.ret [.bool true])) (
bnd (f_disk_New D []) fun am =>
asP am fun h =>
bnd (f_world_Open D [.ptr h]) fun an =>
asT an fun ao => uP ao fun i ap =>
uI .i64 ap fun dn aq =>
nl aq (
bnd (f_law22_begun D [.ptr i, .sl a]) fun ar =>
asSl ar fun j =>
blk 0 (
loopD (fun as =>
uL as fun q au =>
uI .i64 au fun e av =>
nl av (
cond (decide (e < (j.len : Int))) (
ix j e 1 fun aw ax =>
ldC aw ax fun v => asP v fun ay =>
bnd (f_commit_New D [I e, .ptr ay]) fun az =>
asP az fun a0 =>
apd q 1 8 1 [.ptr a0] fun a1 =>
ret (.norm [.sl a1, I (wr (e + 1))])) (
ret (.exit 0 [.sl q])))) [.sl (⟨none, 0, 0, none⟩), I 0]) fun a2 =>
uL a2 fun k a3 =>
nl a3 (
blk 2 (
loopD (fun a4 =>
uI .i64 a4 fun l a5 =>
nl a5 (
cond (decide (l < (g.len : Int))) (
ix g l 1 fun a6 a7 =>
ldC a6 a7 fun a8 => asI .i64 a8 fun a9 =>
gd (!decide (IntKind.wrap .u64 (a.len : Int) = 0)) (
ix k (wr (Int.tmod (IntKind.wrap .u64 a9) (IntKind.wrap .u64 (a.len : Int)))) 1 fun ba bb =>
ldC ba bb fun bc => asP bc fun bd =>
bnd (f_commit_Commit_Step D [.ptr bd, .ptr i]) fun be =>
asI .i64 be fun dp =>
ret (.norm [I (wr (l + 1))]))) (
ret (.exit 2 [])))) [I 0]) fun bf =>
nl bf (
bnd (f_law22_things D [.ptr i]) fun bg =>
asA bg fun c =>
gd (Nat.beq c.length 23) (
gd (Nat.ble (0 + c.length) (([I 0, I 0, I 0, I 0, I 0, I 0, I 0, I 0, .bool false, .str (ByteArray.mk #[]), .bool false, .str (ByteArray.mk #[]), .bool false, .str (ByteArray.mk #[]), .bool false, .str (ByteArray.mk #[]), .bool false, .str (ByteArray.mk #[]), .bool false, .str (ByteArray.mk #[]), I 0, I 0, I 0]) : List HV).length) (
gxN (putN [I 0, I 0, I 0, I 0, I 0, I 0, I 0, I 0, .bool false, .str (ByteArray.mk #[]), .bool false, .str (ByteArray.mk #[]), .bool false, .str (ByteArray.mk #[]), .bool false, .str (ByteArray.mk #[]), .bool false, .str (ByteArray.mk #[]), .bool false, .str (ByteArray.mk #[]), I 0, I 0, I 0] 0 c) 0 23 fun m =>
gd (Nat.beq m.length 23) (
gd (Nat.ble (0 + m.length) (([I 0, I 0, I 0, I 0, I 0, I 0, I 0, I 0, .bool false, .str (ByteArray.mk #[]), .bool false, .str (ByteArray.mk #[]), .bool false, .str (ByteArray.mk #[]), .bool false, .str (ByteArray.mk #[]), .bool false, .str (ByteArray.mk #[]), .bool false, .str (ByteArray.mk #[]), I 0, I 0, I 0]) : List HV).length) (
blk 4 (
loopD (fun bh =>
uI .i64 bh fun b bi =>
uA bi fun d bj =>
nl bj (
cond (decide (b < (k.len : Int))) (
blk 5 (
ix k b 1 fun bk bl =>
ldC bk bl fun bm => asP bm fun bn =>
bnd (f_commit_Commit_Phase D [.ptr bn]) fun bo =>
asI .i64 bo fun s =>
jn (
cond (s == 2) (
ret (.norm [.bool true])) (
cond (s == 3) (
ix a b 7 fun bp bq =>
ldC bp bq fun br => asSl br fun bs =>
ret (.norm [.bool (decide ((bs.len : Int) > 0))])) (
ret (.norm [.bool false])))) fun bt =>
uB bt fun bu bv =>
nl bv (
cond bu (
ix j b 1 fun bw bx =>
ldC bw bx fun bz => asP bz fun b0 =>
bnd (f_attempt_Attempt_Writes D [.ptr b0]) fun b1 =>
asT b1 fun b2 => uI .i64 b2 fun dq b3 =>
uI .i64 b3 fun b4 b5 =>
nl b5 (
cond (decide (b4 > 0)) (
ix a b 7 fun b6 b7 =>
ldC b6 b7 fun b8 => asSl b8 fun t =>
blk 6 (
loopD (fun b9 =>
uL b9 fun n ca =>
uI .i64 ca fun o cb =>
nl cb (
cond (decide (o < (t.len : Int))) (
blk 7 (
ix t o 4 fun cc cd =>
ldN cc cd 4 fun ce =>
uI .i64 ce fun u cf =>
uI .i64 cf fun w cg =>
uI .i64 cg fun x ch =>
uI .u8 ch fun y ci =>
nl ci (
bnd (f_ref20_Good D [.agg [I u, I w, I x, .int .u8 y]]) fun cj =>
asB cj fun ck =>
cond ck (
apd n 4 32 1 [I u, I w, I x, .int .u8 y] fun cl =>
ret (.norm [.sl cl])) (
ret (.norm [.sl n])))) fun cm =>
uL cm fun cn co =>
nl co (
ret (.norm [.sl cn, I (wr (o + 1))]))) (
ret (.exit 6 [.sl n])))) [.sl (⟨none, 0, 0, none⟩), I 0]) fun cp =>
uL cp fun cq cr =>
nl cr (
gxN (putN [I 0, I 0, I 0, I 0, I 0, I 0, I 0, I 0, .bool false, .str (ByteArray.mk #[]), .bool false, .str (ByteArray.mk #[]), .bool false, .str (ByteArray.mk #[]), .bool false, .str (ByteArray.mk #[]), .bool false, .str (ByteArray.mk #[]), .bool false, .str (ByteArray.mk #[]), I 0, I 0, I 0] 0 c) 0 23 fun cs =>
bnd (f_ref20_Do D [.agg cs, .agg [.str (ByteArray.mk #[]), .str (ByteArray.mk #[]), .str (ByteArray.mk #[])], .sl cq]) fun ct =>
asT ct fun cu => uI .i64 cu fun dr cv =>
uA cv fun p cw =>
nl cw (
gd (Nat.beq p.length 23) (
gd (Nat.ble (0 + p.length) d.length) (
ret (.norm [.agg (putN d 0 p)])))))) (
ret (.norm [.agg d])))) (
ret (.norm [.agg d])))) fun cx =>
uA cx fun cy cz =>
nl cz (
ret (.norm [I (wr (b + 1)), .agg cy]))) (
ret (.exit 4 [.agg d])))) [I 0, .agg (putN [I 0, I 0, I 0, I 0, I 0, I 0, I 0, I 0, .bool false, .str (ByteArray.mk #[]), .bool false, .str (ByteArray.mk #[]), .bool false, .str (ByteArray.mk #[]), .bool false, .str (ByteArray.mk #[]), .bool false, .str (ByteArray.mk #[]), .bool false, .str (ByteArray.mk #[]), I 0, I 0, I 0] 0 m)]) fun c0 =>
uA c0 fun c2 c3 =>
nl c3 (
bnd (f_disk_Disk_Crash D [.ptr h, I x2, I x3]) fun c4 =>
asT c4 fun c5 => nl c5 (
bnd (f_world_Open D [.ptr h]) fun c6 =>
asT c6 fun c7 => uP c7 fun c8 c9 =>
uI .i64 c9 fun da db =>
nl db (
cond (da != 0) (
ret (.ret [.bool false])) (
bnd (f_law22_things D [.ptr c8]) fun dc =>
asA dc fun dd =>
gxN dd 8 12 fun f =>
gd (Nat.beq f.length 12) (
gd (Nat.ble (0 + f.length) (([.bool false, .str (ByteArray.mk #[]), .bool false, .str (ByteArray.mk #[]), .bool false, .str (ByteArray.mk #[]), .bool false, .str (ByteArray.mk #[]), .bool false, .str (ByteArray.mk #[]), .bool false, .str (ByteArray.mk #[])]) : List HV).length) (
jn (
gxN (putN [.bool false, .str (ByteArray.mk #[]), .bool false, .str (ByteArray.mk #[]), .bool false, .str (ByteArray.mk #[]), .bool false, .str (ByteArray.mk #[]), .bool false, .str (ByteArray.mk #[]), .bool false, .str (ByteArray.mk #[])] 0 f) 0 12 fun de =>
gxN (putN [I 0, I 0, I 0, I 0, I 0, I 0, I 0, I 0, .bool false, .str (ByteArray.mk #[]), .bool false, .str (ByteArray.mk #[]), .bool false, .str (ByteArray.mk #[]), .bool false, .str (ByteArray.mk #[]), .bool false, .str (ByteArray.mk #[]), .bool false, .str (ByteArray.mk #[]), I 0, I 0, I 0] 0 c) 8 12 fun df =>
eqM [.kb, .ks, .kb, .ks, .kb, .ks, .kb, .ks, .kb, .ks, .kb, .ks] de df fun dg =>
cond dg (
ret (.norm [.bool true])) (
gxN (putN [.bool false, .str (ByteArray.mk #[]), .bool false, .str (ByteArray.mk #[]), .bool false, .str (ByteArray.mk #[]), .bool false, .str (ByteArray.mk #[]), .bool false, .str (ByteArray.mk #[]), .bool false, .str (ByteArray.mk #[])] 0 f) 0 12 fun dh =>
gxN c2 8 12 fun di =>
eqM [.kb, .ks, .kb, .ks, .kb, .ks, .kb, .ks, .kb, .ks, .kb, .ks] dh di fun dj =>
ret (.norm [.bool dj]))) fun dk =>
uB dk fun x8 dm =>
nl dm (
ret (.ret [.bool x8]))))))))))))))))))))
end
end Go.Proofs.YtbphjihgbenkdaaGreat.HQ
