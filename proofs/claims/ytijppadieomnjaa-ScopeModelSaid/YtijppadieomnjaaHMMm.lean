/- A block, walked (ref23.Block). Conditions: the program can be, the block begins where it is said to. -/
import Derived.Test.YtijppadieomnjaaHMMk
import Derived.Test.YtijppadieomnjaaHMNa
namespace Go.Proofs.Ytijppadieomnjaa.HM
open Go

theorem wp_gxAl {α : Type} {Q : α → Heap → Prop} {H : Heap} {y : List HV} {n : Nat} {f : List HV → M α} (hl : y.length = n) (h : wp (f y) Q H) : wp (gxN y 0 n f) Q H := by
  refine wp_gxNm (by omega) ?_
  rw [List.drop_zero, ← hl, List.take_length]; exact h
theorem wp_gxE {α : Type} {Q : α → Heap → Prop} {H : Heap} {y l : List HV} {o n : Nat} {f : List HV → M α} (hm : o + n ≤ y.length) (e : (y.drop o).take n = l) (h : wp (f l) Q H) : wp (gxN y o n f) Q H := by
  subst e; exact wp_gxNm hm h
theorem wp_gdQ {α : Type} {Q : α → Heap → Prop} {H : Heap} {a b : Nat} {m : M α} (e : a = b) (h : wp m Q H) : wp (gd (Nat.beq a b) m) Q H := wp_gd (by subst e; simp) h
theorem wp_gdL {α : Type} {Q : α → Heap → Prop} {H : Heap} {a b : Nat} {m : M α} (e : a ≤ b) (h : wp m Q H) : wp (gd (Nat.ble a b) m) Q H := wp_gd (Nat.ble_eq_true_of_le e) h
theorem wp_gxP {α : Type} {Q : α → Heap → Prop} {H : Heap} {z y : List HV} {n : Nat} {f : List HV → M α} (hz : z.length = n) (hl : y.length = n) (h : wp (f y) Q H) : wp (gxN (putN z 0 y) 0 n f) Q H := by
  rw [putN_full (by omega)]; exact wp_gxAl hl h
theorem wp_gxPs {α : Type} {Q : α → Heap → Prop} {H : Heap} {z y : List HV} {n k : Nat} {v : HV} {f : List HV → M α} (hz : z.length = n) (hl : y.length = n) (h : wp (f (y.set k v)) Q H) : wp (gxN (List.set (putN z 0 y) k v) 0 n f) Q H := by
  rw [putN_full (by omega)]; exact wp_gxAl (by simpa using hl) h
theorem wp_atO {α β : Type} {Q : α → Heap → Prop} {f : β → List HV} {sz : Nat} {H : Heap} {s : Sl} {l : List β} (h : Rows f sz H s l) {j : Int} {i : Nat} (hj : j = i) (hi : i < l.length) {v : HV} (hk : (f l[i])[0]? = some v) {g : Nat → Nat → HV → M α} (hg : ∀ b o, wp (g b o v) Q H) : wp (ix s j sz fun b o => ldC b o fun c => g b o c) Q H := by
  subst hj
  exact wp_atF h hi (k := 0) hk hg
def plT (c : Ins) (pl : Int) (r : Nat → Int) : Int × (Nat → Int) × Bool := match plainF c pl r with
  | some (a, b) => (a, b, true)
  | none => (pl, r, false)
theorem ref23_Plain_wp' {D : HV → List HV → M HV} {H : Heap} {Q : HV → Heap → Prop} {c : Ins} {pl : Int} {r : Nat → Int} (hr : RngB c)
    (h : Q (.tup [I (plT c pl r).1, .agg (regL (plT c pl r).2.1), .bool (plT c pl r).2.2]) H) : wp (f_ref23_Plain D [.agg c.cs, I pl, .agg (regL r)]) Q H :=
  ref23_Plain_wp hr (fun a b e => by unfold plT at h; rw [e] at h; exact h) (fun e => by unfold plT at h; rw [e] at h; exact h)
theorem LoL.regs {y : List HV} {o : Lo} (h : LoL y o) : (y.drop 36).take 4 = regL o.r := by
  refine List.ext_getElem? fun i => ?_
  rw [List.getElem?_take]
  split
  · rename_i hi
    rw [List.getElem?_drop, h.r i hi]
    rcases lt4 hi with rfl | rfl | rfl | rfl <;> rfl
  · rw [List.getElem?_eq_none (by simp; omega)]
theorem LoL.txs {y : List HV} {o : Lo} (h : LoL y o) : (y.drop 23).take 3 = [.str (o.tx 0), .str (o.tx 1), .str (o.tx 2)] := by
  refine List.ext_getElem? fun i => ?_
  rw [List.getElem?_take]
  split
  · rename_i hi
    rw [List.getElem?_drop, h.tx i hi]
    have : i = 0 ∨ i = 1 ∨ i = 2 := by omega
    rcases this with rfl | rfl | rfl <;> rfl
  · rw [List.getElem?_eq_none (by simp; omega)]
/-- ways out, in memory's order. -/
inductive WsL : List (List HV) → List Lo → Prop
  | nil : WsL [] []
  | snoc {L ws l o} (h : WsL L ws) (hl : LoL l o) : WsL (L ++ [l]) (o :: ws)
theorem WsL.len {L : List (List HV)} {ws : List Lo} (h : WsL L ws) : L.length = ws.length := by
  induction h with
  | nil => rfl
  | snoc h hl ih => simp [ih]
/-- what one round of the loop leaves. -/
def StepP (c : Ins) (H0 : Heap) (lo : Nat) (o : Lo) (ws : List Lo) (w : List HV) : Leaf → Heap → Prop := fun l H' =>
  (∃ x y o' ws' L, l = .norm [.sl x, .agg y] ∧ stepB c o ws = some (nxt o', ws') ∧ LoL y o' ∧ WsL L ws' ∧ Stk H' lo x 41 L ∧ Keeps H0 H')
  ∨ (∃ x y o' ws' L, l = .exit 1 [.sl x, .agg y] ∧ stepB c o ws = some (o', ws') ∧ LoL y o' ∧ WsL L ws' ∧ Stk H' lo x 41 L ∧ Keeps H0 H')
  ∨ (l = .ret w ∧ stepB c o ws = none ∧ Keeps H0 H')
/-- what goes out behind: of the first i. -/
def outsO (o : Lo) (i : Nat) : Lo := { o with out := fun j => if j < i then o.out j ++ o.la j else o.out j }
theorem outsO_zero (o : Lo) : outsO o 0 = o := by unfold outsO; simp
theorem outsO_succ (o : Lo) (i : Nat) : outsO o (i + 1) = { outsO o i with out := updS (outsO o i).out i ((outsO o i).out i ++ o.la i) } := by
  unfold outsO updS
  simp only [Lo.mk.injEq, true_and, and_true]
  funext j
  by_cases h : j = i
  · subst h; simp
  · by_cases h2 : j < i
    · rw [if_pos (by omega), if_neg h, if_pos h2]
    · rw [if_neg (by omega), if_neg h, if_neg h2]
/-- a block at its begin. -/
def begO (m : Lo) (at_ : Nat) (r : Nat → Int) : Lo := { m with la := fun _ => ByteArray.mk #[], r := r, pl := (at_ : Int) + 1 }
def zeroT : Th := ⟨fun _ => 0, fun _ => noFile, fun _ => 0⟩
def zeroO : Lo := ⟨zeroT, fun _ => ByteArray.mk #[], fun _ => ByteArray.mk #[], fun _ => 0, fun _ => ByteArray.mk #[], fun _ => 0, 0⟩
abbrev Z41 : List HV := [I 0, I 0, I 0, I 0, I 0, I 0, I 0, I 0, .bool false, .str (ByteArray.mk #[]), .bool false, .str (ByteArray.mk #[]), .bool false, .str (ByteArray.mk #[]), .bool false, .str (ByteArray.mk #[]), .bool false, .str (ByteArray.mk #[]), .bool false, .str (ByteArray.mk #[]), I 0, I 0, I 0, .str (ByteArray.mk #[]), .str (ByteArray.mk #[]), .str (ByteArray.mk #[]), .str (ByteArray.mk #[]), .str (ByteArray.mk #[]), .str (ByteArray.mk #[]), I 0, I 0, I 0, I 0, .str (ByteArray.mk #[]), .str (ByteArray.mk #[]), .str (ByteArray.mk #[]), I 0, I 0, I 0, I 0, I 0]

theorem Z41_lo : LoL Z41 zeroO := by
  refine ⟨rfl, ⟨rfl, fun i hi => ?_, fun i hi => ?_, fun i hi => ?_⟩, fun i hi => ?_, fun i hi => ?_, fun i hi => ?_, fun i hi => ?_, fun i hi => ?_, rfl⟩
  · have : i = 0 ∨ i = 1 ∨ i = 2 ∨ i = 3 ∨ i = 4 ∨ i = 5 ∨ i = 6 ∨ i = 7 := by omega
    rcases this with rfl | rfl | rfl | rfl | rfl | rfl | rfl | rfl <;> rfl
  · have : i = 0 ∨ i = 1 ∨ i = 2 ∨ i = 3 ∨ i = 4 ∨ i = 5 := by omega
    rcases this with rfl | rfl | rfl | rfl | rfl | rfl <;> exact ⟨rfl, rfl⟩
  · rcases lt3 hi with rfl | rfl | rfl <;> rfl
  · rcases lt3 hi with rfl | rfl | rfl <;> rfl
  · rcases lt3 hi with rfl | rfl | rfl <;> rfl
  · rcases lt4 hi with rfl | rfl | rfl | rfl <;> rfl
  · rcases lt3 hi with rfl | rfl | rfl <;> rfl
  · rcases lt4 hi with rfl | rfl | rfl | rfl <;> rfl
theorem LoL.setMo {y z : List HV} {o m : Lo} (h : LoL y o) (hz : MoL z m) : LoL (putN y 0 z) { m with la := o.la, r := o.r, pl := o.pl } := by
  have hl := h.len
  have zl := hz.len
  have hput : 0 + z.length ≤ y.length := by omega
  have ht : (putN y 0 z).take 23 = z.take 23 := by
    unfold putN
    rw [List.take_zero, List.nil_append, List.take_append_of_le_length (by omega)]
  refine ⟨by rw [putN_lenW hput]; exact hl, by rw [ht]; exact hz.th, fun i hi => ?_, fun i hi => ?_, fun i hi => ?_, fun i hi => ?_, fun i hi => ?_, ?_⟩
  all_goals rw [putN_getW hput]
  · rw [if_pos (by omega)]; exact hz.tx i hi
  · rw [if_pos (by omega)]; exact hz.out i hi
  · rw [if_pos (by omega)]; exact hz.ta i hi
  · rw [if_neg (by omega)]; exact h.la i hi
  · rw [if_neg (by omega)]; exact h.r i hi
  · rw [if_neg (by omega)]; exact h.pl
theorem putN_one {xs : List HV} {k : Nat} {v : HV} (h : k < xs.length) : putN xs k [v] = xs.set k v := by
  refine List.ext_getElem? fun i => ?_
  rw [putN_getW (by simp; omega), List.getElem?_set]
  by_cases e : i = k
  · subst e; simp [h]
  · rw [if_neg (by simp; omega), if_neg (by omega)]
theorem LoL.start {y : List HV} {m : Lo} (h : MoL y m) (at_ : Nat) (r : Nat → Int) : LoL (putN (putN (putN Z41 0 y) 36 (regL r)) 40 [I ((at_ : Int) + 1)]) (begO m at_ r) := by
  have h1 := (Z41_lo.setMo h).setRs r
  rw [putN_one (by rw [h1.len]; omega)]
  exact h1.setPl _
end Go.Proofs.Ytijppadieomnjaa.HM
namespace Go.Proofs.Ytijppadieomnjaa.HM
open Go

theorem plT_some {c : Ins} {pl a : Int} {r b : Nat → Int} (h : plT c pl r = (a, b, true)) : plainF c pl r = some (a, b) := by
  unfold plT at h
  split at h
  · rename_i e; rw [e]; cases h; rfl
  · cases h
theorem plT_none {c : Ins} {pl a : Int} {r b : Nat → Int} (h : plT c pl r = (a, b, false)) : plainF c pl r = none := by
  unfold plT at h
  split at h
  · cases h
  · rename_i e; exact e
theorem deedF_reg {c : Ins} {r : Nat → Int} (hr : RngB c) (h : (deedF c r).2.2 = true) : 0 ≤ c.a ∧ c.a < 4 := by
  have h6 := hr.h6
  have h8 := hr.h8
  have h14 := hr.h14
  unfold deedF at h
  split at h
  · rename_i e; exact ⟨(h6 e).1, (h6 e).2.1⟩
  split at h
  · cases h
  split at h
  · rename_i e; exact ⟨(h8 e).1, (h8 e).2.1⟩
  split at h
  · cases h
  split at h
  · cases h
  split at h
  · cases h
  split at h
  · cases h
  split at h
  · cases h
  split at h
  · rename_i e; exact ⟨(h14 e).1, (h14 e).2.1⟩
  · cases h
theorem But.keeps2 {H H1 H2 : Heap} (h : Keeps H H1) (b : But (fun x => H.n ≤ x) H1 H2) : Keeps H H2 :=
  ⟨Nat.le_trans h.n b.n, fun x hx => by rw [b.get x (Nat.lt_of_lt_of_le hx h.n) (fun hh => by omega)]; exact h.get x hx⟩

def popW : List Lo → Option (Lo × List Lo)
  | [] => none
  | w :: ws => some (w, ws)
theorem ref23_Block_wp {D : HV → List HV → M HV} {H : Heap} {Q : HV → Heap → Prop} {y : List HV} {m : Lo} {s : Sl} {p : List Ins} {at_ e : Nat} {r : Nat → Int} (hc : CanB p) (hs : RProg H s p) (he : EndAt p at_ e) (hy : MoL y m)
    (hok : LoOk 0 (begO m at_ r))
    (h1 : ∀ H' y' o, Keeps H H' → Runs p (begO m at_ r) [] (some o) → MoL y' (outsO o 3) → Q (.tup [.agg y', I (wr (o.pl + 1)), .agg (regL o.r), .bool true]) H')
    (h2 : ∀ H', Keeps H H' → Runs p (begO m at_ r) [] none → Q (.tup [.agg y, I at_, .agg (regL r), .bool false]) H') :
    wp (f_ref23_Block D [.agg y, .sl s, I at_, .agg (regL r)]) Q H := by
  have hyl := hy.len
  have hlen := hc.len
  have hle := he.le
  have hlt := he.lt
  unfold f_ref23_Block
  show wp (fin (uA [.agg y, .sl s, I at_, .agg [I (r 0), I (r 1), I (r 2), I (r 3)]] _)) _ _
  with_reducible repeat' (first | refine wp_finF ?_ | refine wp_uA ?_ | refine wp_uI ?_ | refine wp_uB ?_ | refine wp_uL ?_ | refine wp_uS ?_ | refine wp_uP ?_ | refine wp_uc ?_ | refine wp_nl ?_ | refine wp_asB ?_ | refine wp_asI ?_ | refine wp_asSl ?_ | refine wp_asT ?_ | refine wp_asA ?_ | refine wp_asS ?_ | refine wp_asP ?_ | refine wp_nN ?_ | refine wp_rN ?_ | refine wp_xN ?_ | refine wp_nB ?_ | refine wp_rB ?_ | refine wp_xB rfl ?_ | refine wp_xB' rfl ?_ | refine wp_bB ?_ | refine wp_rX ?_ | refine wp_xX ?_ | refine wp_rE ?_ | refine wp_xE ?_ | refine wp_rR ?_ | refine wp_xR ?_ | refine wp_r0 ?_ | refine wp_x0 ?_ | refine wp_rF ?_ | refine wp_rF0 ?_ | refine wp_rF2 ?_ | refine wp_rF3 ?_ | refine wp_rF4 ?_ | refine wp_condT ?_ | refine wp_condF ?_ | refine wp_condNT ?_ | refine wp_condNF ?_)
  have hw1 : wr ((at_ : Int) + 1) = (at_ : Int) + 1 := wr_small (by omega) (by omega)
  have hst := LoL.start hy at_ r
  rw [← hw1] at hst
  have hst1 := hst.len
  refine wp_gxAl hyl (wp_gdQ hyl (wp_gdQ hst1 (wp_gdL (by rw [Nat.zero_add]; exact Nat.le_of_eq hst1) (wp_blk ?_))))
  refine wp_loop (fun kk vs H' => ∃ k x y' o ws L, kk + k = 400 ∧ vs = [.sl x, .agg y'] ∧ StOk p at_ e k o ws ∧ LoL y' o ∧ WsL L ws ∧ Stk H' H.n x 41 L ∧ Keeps H H' ∧ ∀ res, Runs p o ws res → Runs p (begO m at_ r) [] res) 400
    ⟨0, _, _, begO m at_ r, [], [], rfl, by rw [putN_full (by rw [hst1]; rfl)], ⟨hok, by simp, ⟨by show (at_ : Int) < at_ + 1; omega, by show (at_ : Int) + 1 ≤ e; omega⟩, by simp, ?_⟩, hst, .nil, Stk.nil (Nat.le_refl _) _, Keeps.refl _, fun _ h => h⟩ ?_
  · have := Bd_small hc (begO m at_ r).pl.toNat
    simp only [sumB]; omega
  rintro kk vs H' ⟨k, x, y', o, ws, L, hkk, rfl, hk, hyo, hws, hstk, hkp, hru⟩
  obtain ⟨n, hpl, hn1, hn2, hn, hg, hr⟩ := hk.here hc he
  obtain ⟨hk4, hwl⟩ := hk.k_lt hc he
  have hyl' := hyo.len
  have hs' := hs.keeps hkp
  obtain ⟨c0, c4, c5⟩ := in_blk hc he hn1 hn2 hn
  refine wp_uL (wp_uA (wp_nl (wp_gxg hyo.pl (wp_asI (wp_atO hs' hpl hn (v := I (p[n]).op) rfl fun _ _ => wp_asI ?_)))))
  refine wp_condNE (fun h5 => ?_) (fun h5 => ?_)
  · refine wp_blk ?_
    refine wp_gxg hyo.pl (wp_asI (wp_at' hs' hpl hn fun _ _ => ?_))
    generalize hcc : p[n] = c at *
    obtain ⟨op, ca, cb, c3⟩ := c
    show wp (uI .i64 [I op, I ca, I cb, I c3] _) _ _
    refine wp_uI (wp_uI (wp_uI (wp_uI (wp_nl ?_))))
    refine wp_gxg hyo.pl (wp_asI (wp_gxE (by omega) hyo.regs ?_))
    refine wp_uI (wp_uI (wp_uI (wp_uI (wp_nl ?_))))
    refine wp_bnd (ref23_Plain_wp' (c := ⟨op, ca, cb, c3⟩) hr ?_)
    generalize hpt : plT ⟨op, ca, cb, c3⟩ o.pl o.r = pt
    obtain ⟨pa, pr, pb⟩ := pt
    refine wp_asT (wp_uI (wp_uA (wp_uI (wp_uI (wp_uI (wp_uI (wp_nl (wp_uB (wp_nl ?_)))))))))
    refine wp_gxE (by omega) hyo.regs (wp_uI (wp_uI (wp_uI (wp_uI (wp_nl ?_)))))
    refine wp_bnd (ref23_deed_wp (c := ⟨op, ca, cb, c3⟩) hr ?_)
    generalize hdf : deedF ⟨op, ca, cb, c3⟩ o.r = df
    obtain ⟨⟨dk, da, db, dc⟩, d1, d2⟩ := df
    refine wp_asT (wp_uA (wp_uI (wp_uI (wp_uI (wp_uI (wp_nl (wp_uB (wp_uB (wp_nl ?_)))))))))
    refine wp_blk (wp.mono (Q := StepP ⟨op, ca, cb, c3⟩ H H.n o ws [.agg y, I at_, .agg (regL r), .bool false]) ?_ ?_)
    · cases pb with
      | true =>
        have hpf := plT_some hpt
        refine wp_condT (wp_gdD (by rw [hyl']; omega) (wp_gdL (by simp [hyl']) (wp_ret ?_)))
        exact .inr (.inl ⟨_, _, { o with pl := pa, r := pr }, ws, L, rfl, by unfold stepB; rw [hpf], (hyo.setPl pa).setRs pr, hws, hstk, hkp⟩)
      | false =>
      have hpf := plT_none hpt
      refine wp_condF ?_
      cases d1 with
      | true =>
        have hd : (deedF ⟨op, ca, cb, c3⟩ o.r).2.1 = true := by rw [hdf]
        have hdo := deedF_ok hr o.r hd
        rw [hdf] at hdo
        have hstep : stepB ⟨op, ca, cb, c3⟩ o ws = if op = 14 ∧ (doF o.th o.tx ⟨dk, da, db, dc⟩).1 < 0 then none else some (nxt { o with th := (doF o.th o.tx ⟨dk, da, db, dc⟩).2, r := if d2 = true then updI o.r ca.toNat (doF o.th o.tx ⟨dk, da, db, dc⟩).1 else o.r }, ws) := by
          unfold stepB
          rw [hpf]
          simp only [hdf]
          rw [if_pos trivial]
        refine wp_condT (wp_gxE (by omega) (by rw [List.drop_zero]) (wp_gxE (by omega) hyo.txs ?_))
        refine wp_uS (wp_uS (wp_uS (wp_nl (wp_nw (wp_bnd ?_)))))
        have hsl : Rows De.cs 4 (H'.push (.cells [I dk, I da, I db, .int .u8 dc] false)) ⟨some (H'.n, 0), 1, 1, none⟩ [⟨dk, da, db, dc⟩] := slr_push _ rfl rfl (by simp) (by simp)
        refine ref20_Do_wp hyo.th hsl hdo hk.ok.f hk.ok.p hk.ok.tx fun H2 z kz hz => ?_
        have kz2 := (Keeps.push H' _).trans kz
        have zl := hz.len
        refine wp_asT (wp_uI (wp_uA (wp_nl (wp_gdQ zl (wp_gdL (by omega) ?_)))))
        have hyz := hyo.setTh hz
        have hyzl := hyz.len
        refine wp_jnP (op = 14 ∧ (doF o.th o.tx ⟨dk, da, db, dc⟩).1 < 0) ?_ (fun hg2 => ?_) (fun hg2 => ?_)
        · refine wp_condE (fun e => ?_) (fun e => ?_)
          · exact wp_bB (by simp [e])
          · exact wp_bB (by simp [e])
        · rw [if_pos hg2] at hstep
          refine wp_uB (wp_nl (wp_condT (wp_gxAl hyl (wp_gdQ hyl (wp_gdL (by rw [hyl]; exact Nat.le_refl _) (wp_gxP rfl hyl (wp_ret ?_)))))))
          exact .inr (.inr ⟨rfl, hstep, hkp.trans kz2⟩)
        · rw [if_neg hg2] at hstep
          refine wp_uB (wp_nl (wp_condF ?_))
          cases d2 with
          | true =>
            have hca := deedF_reg (r := o.r) hr (by rw [hdf])
            simp only at hca
            refine wp_condT (wp_gdD (by omega) (wp_gdD (by omega) (wp_gdD (by omega) (wp_ret ?_))))
            rw [if_pos rfl] at hstep
            exact .inl ⟨_, _, _, ws, L, rfl, hstep, by rw [show 36 + ca.toNat * 1 = 36 + ca.toNat by omega]; exact hyz.setR (by omega) _, hws, hstk.keeps kz2, hkp.trans kz2⟩
          | false =>
            rw [if_neg (by simp)] at hstep
            exact wp_condF (wp_ret (.inl ⟨_, _, _, ws, L, rfl, hstep, hyz, hws, hstk.keeps kz2, hkp.trans kz2⟩))
      | false =>
      refine wp_condF ?_
      have hstep : ∀ R, stepB ⟨op, ca, cb, c3⟩ o ws = R ↔ (if op = 15 then some (nxt { o with out := updS o.out ca.toNat (o.out ca.toNat ++ strB [IntKind.wrap .u8 (o.r cb.toNat)]) }, ws)
        else if op = 16 then some (nxt { o with la := updS o.la ca.toNat (o.la ca.toNat ++ strB [IntKind.wrap .u8 cb]) }, ws)
        else if op = 18 then some (nxt { o with ta := updI o.ta ca.toNat (sumI (o.ta ca.toNat) cb) }, ws)
        else if op = 20 then some (nxt o, { o with pl := ca } :: ws)
        else if op = 19 then popW ws
        else if op = 21 then some (nxt o, [])
        else some (nxt o, ws)) = R := by
        intro R
        unfold stepB
        rw [hpf]
        simp only [hdf]
        rw [if_neg (by simp)]
        exact Iff.rfl
      have ema : ∀ z : Nat, z + ca.toNat * 1 = z + ca.toNat := fun z => by omega
      have emb : ∀ z : Nat, z + cb.toNat * 1 = z + cb.toNat := fun z => by omega
      refine wp_condE (fun e15 => ?_) (fun e15 => ?_)
      · obtain ⟨q1, q2, q3, q4⟩ := hr.h15 e15
        simp only at q1 q2 q3 q4
        have hso := hk.ok.out ca.toNat (by omega)
        refine wp_gdD (by omega) (wp_gdD (by omega) (wp_gxg (v := .str (o.out ca.toNat)) (by rw [ema]; exact hyo.out _ (by omega)) (wp_asS ?_)))
        refine wp_gdD (by omega) (wp_gdD (by omega) (wp_gxg (v := I (o.r cb.toNat)) (by rw [emb]; exact hyo.r _ (by omega)) (wp_asI ?_)))
        refine wp_gdD (by rw [strB_one]; omega) (wp_gdD (by omega) (wp_gdD (by omega) (wp_gdD (by omega) (wp_ret ?_))))
        exact .inl ⟨_, _, _, ws, L, rfl, (hstep _).2 (if_pos e15), by rw [ema]; exact hyo.setOut (by omega) _, hws, hstk, hkp⟩
      refine wp_condE (fun e16 => ?_) (fun e16 => ?_)
      · obtain ⟨q1, q2⟩ := hr.h16 e16
        simp only at q1 q2
        have hso := hk.ok.la ca.toNat (by omega)
        refine wp_gdD (by omega) (wp_gdD (by omega) (wp_gxg (v := .str (o.la ca.toNat)) (by rw [ema]; exact hyo.la _ (by omega)) (wp_asS ?_)))
        refine wp_gdD (by rw [strB_one]; omega) (wp_gdD (by omega) (wp_gdD (by omega) (wp_gdD (by omega) (wp_ret ?_))))
        exact .inl ⟨_, _, _, ws, L, rfl, (hstep _).2 (by rw [if_neg e15, if_pos e16]), by rw [ema]; exact hyo.setLa (by omega) _, hws, hstk, hkp⟩
      refine wp_condE (fun e18 => ?_) (fun e18 => ?_)
      · obtain ⟨q1, q2⟩ := hr.h18 e18
        simp only at q1 q2
        refine wp_gdD (by omega) (wp_gdD (by omega) (wp_gxg (v := I (o.ta ca.toNat)) (by rw [ema]; exact hyo.ta _ (by omega)) (wp_asI ?_)))
        refine wp_bnd (ref23_sum_wp (wp_asI ?_))
        refine wp_gdD (by omega) (wp_gdD (by omega) (wp_gdD (by omega) (wp_ret ?_)))
        exact .inl ⟨_, _, _, ws, L, rfl, (hstep _).2 (by rw [if_neg e15, if_neg e16, if_pos e18]), by rw [ema]; exact hyo.setTa (by omega) _, hws, hstk, hkp⟩
      refine wp_condE (fun e20 => ?_) (fun e20 => ?_)
      · have hLl := hws.len
        refine wp_gxAl hyl' (wp_gdQ hyl' (wp_gdL (by rw [hyl']; exact Nat.le_refl _) (wp_gdD (by rw [putN_full (by rw [hyl']; rfl), hyl']; omega) (wp_gxPs rfl hyl' (wp_gdQ (by simpa using hyl') ?_)))))
        refine hstk.add (by rw [putN_full (by simp [hyl'])]; simpa using hyl') (by omega) (by unfold room; omega) (by unfold room; omega) fun s' H2 hs2 hb2 => wp_ret ?_
        rw [putN_full (by simp [hyl'])] at hs2
        exact .inl ⟨_, _, o, { o with pl := ca } :: ws, _, rfl, (hstep _).2 (by rw [if_neg e15, if_neg e16, if_neg e18, if_pos e20]), hyo, .snoc hws (hyo.setPl ca), hs2, But.keeps2 hkp hb2⟩
      refine wp_condE (fun e19 => ?_) (fun e19 => ?_)
      · have hLl := hws.len
        have hxl := hstk.len
        have hss := fun R => (hstep R).2
        rw [if_neg e15, if_neg e16, if_neg e18, if_neg e20, if_pos e19] at hss
        refine wp_condE (fun hz => ?_) (fun hz => ?_)
        · cases hws with
          | snoc h hl => simp at hLl hxl; omega
          | nil =>
            refine wp_gxAl hyl (wp_gdQ hyl (wp_gdL (by rw [hyl]; exact Nat.le_refl _) (wp_gxP rfl hyl (wp_ret ?_))))
            exact .inr (.inr ⟨rfl, hss _ rfl, hkp⟩)
        · cases hws with
          | nil => exact absurd (by rw [hxl]; rfl) hz
          | @snoc L' ws' l w hw' hl =>
            rw [List.length_append, List.length_singleton] at hxl
            have hwr : wr ((x.len : Int) - 1) = (L'.length : Int) := by rw [hxl, wr_small (by simp at hwl hLl; omega) (by simp at hwl hLl; omega)]; omega
            obtain ⟨p1, p2, p3, p4⟩ := hstk.pop hwr
            refine hstk.last hwr fun _ _ => ?_
            have hll := hl.len
            refine wp_gdQ hll (wp_gdL (by omega) (wp_gdD (by omega) (wp_gdD (by omega) (wp_gdD p2 (wp_gdD (by omega) (wp_gd p4 (wp_ret ?_)))))))
            exact .inr (.inl ⟨_, _, w, ws', L', rfl, hss _ rfl, by rw [putN_full (by omega)]; exact hl, hw', p1, hkp⟩)
      refine wp_condE (fun e21 => ?_) (fun e21 => ?_)
      · exact wp_ret (.inl ⟨_, _, o, [], [], rfl, (hstep _).2 (by rw [if_neg e15, if_neg e16, if_neg e18, if_neg e20, if_neg e19, if_pos e21]), hyo, .nil, Stk.nil hkp.n _, hkp⟩)
      · exact wp_ret (.inl ⟨_, _, o, ws, L, rfl, (hstep _).2 (by rw [if_neg e15, if_neg e16, if_neg e18, if_neg e20, if_neg e19, if_neg e21]), hyo, hws, hstk, hkp⟩)
    · rintro l H2 (⟨x2, y2, o2, ws2, L2, rfl, hs2, hy2, hw2, hk2, hp2⟩ | ⟨x2, y2, o2, ws2, L2, rfl, hs2, hy2, hw2, hk2, hp2⟩ | ⟨rfl, hs2, hp2⟩)
      · show wp _ _ _
        refine wp_uL (wp_uA (wp_nl (wp_gxg hy2.pl (wp_asI (wp_gdD (by rw [hy2.len]; omega) (wp_ret ?_))))))
        show wp _ _ _
        refine wp_uL (wp_uA (wp_nl (wp_ret ?_)))
        exact ⟨kk - 1, by omega, k + 1, _, _, nxt o2, ws2, L2, by omega, rfl, hk.step hc he hg h5 hs2, hy2.setPl _, hw2, hk2, hp2, fun res hres => hru res (.step hg h5 hs2 hres)⟩
      · show wp _ _ _
        refine wp_uL (wp_uA (wp_nl (wp_ret ?_)))
        exact ⟨kk - 1, by omega, k + 1, _, _, o2, ws2, L2, by omega, rfl, hk.step hc he hg h5 hs2, hy2, hw2, hk2, hp2, fun res hres => hru res (.step hg h5 hs2 hres)⟩
      · exact h2 _ hp2 (hru _ (.wait hg h5 hs2))
  · have hdone := hru _ (.done hg h5)
    refine wp_ret ?_
    show wp _ _ _
    refine wp_uA (wp_nl (wp_blk ?_))
    refine wp_loop (fun kk vs H2 => H2 = H' ∧ ∃ i yy, kk + i = 3 ∧ vs = [I (i : Int), .agg yy] ∧ LoL yy (outsO o i)) 3 ⟨rfl, 0, y', rfl, rfl, by rw [outsO_zero]; exact hyo⟩ ?_
    rintro kk vs H2 ⟨rfl, i, yy, hki, rfl, hyy⟩
    have hyl2 := hyy.len
    refine wp_uI (wp_uA (wp_nl (wp_condD (fun hi => ?_) (fun hi => ?_))))
    · have hi' : i < 3 := by omega
      have hso : ((outsO o i).out i).size ≤ 2000 + 400 := by
        have := hk.ok.out i hi'
        show (if i < i then _ else o.out i : ByteArray).size ≤ _
        rw [if_neg (by omega)]; omega
      have hsl := hk.ok.la i hi'
      have hwi : wr ((i : Int) + 1) = ((i + 1 : Nat) : Int) := by rw [wr_small (by omega) (by omega)]; rfl
      have e26 : 26 + (i : Int).toNat * 1 = 26 + i := by omega
      have e33 : 33 + (i : Int).toNat * 1 = 33 + i := by omega
      refine wp_gdD (by omega) (wp_gdD (by omega) (wp_gxg (v := .str ((outsO o i).out i)) (by rw [e26]; exact hyy.out i hi') (wp_asS ?_)))
      refine wp_gdD (by omega) (wp_gdD (by omega) (wp_gxg (v := .str (o.la i)) (by rw [e33]; exact hyy.la i hi') (wp_asS ?_)))
      refine wp_gdD (by omega) (wp_gdD (by omega) (wp_gdD (by omega) (wp_gdD (by omega) (wp_ret ?_))))
      rw [hwi, e26]
      refine ⟨kk - 1, by omega, rfl, i + 1, _, by omega, rfl, ?_⟩
      rw [outsO_succ]
      exact hyy.setOut hi' _
    · have hi3 : i = 3 := by omega
      subst hi3
      refine wp_ret ?_
      show wp _ _ _
      refine wp_uA (wp_nl ?_)
      have hmo := hyy.mo
      refine wp_gxNm (by omega) (wp_gxg hyy.pl (wp_asI (wp_gxE (by omega) hyy.regs ?_)))
      refine wp_uI (wp_uI (wp_uI (wp_uI (wp_nl ?_))))
      refine wp_gdQ hmo.len (wp_gdL (by rw [hmo.len]; exact Nat.le_refl _) (wp_gxP rfl hmo.len (wp_ret ?_)))
      exact h1 _ _ o hkp hdone hmo
end Go.Proofs.Ytijppadieomnjaa.HM
