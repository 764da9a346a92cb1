/- law27.BoundReach, walked. Conditions: none but what came in. -/
import Derived.Test.YtijppadieomnjaaHTPc
import Derived.Test.YtijppadieomnjaaHTMw
import Derived.Test.YtijppadieomnjaaHTSo
import Derived.Test.YtijppadieomnjaaHTPf
namespace Go.Proofs.Ytijppadieomnjaa.HT
open Go

theorem But.up {M M' : Nat → Prop} {H H' : Heap} (h : But M H H') (hm : ∀ b, M b → M' b) : But M' H H' := ⟨h.n, fun b hb hn => h.get b hb fun hh => hn (hm b hh)⟩
section
variable {p : List Ins} {a j : Nat}
end
end Go.Proofs.Ytijppadieomnjaa.HT
namespace Go.Proofs.Ytijppadieomnjaa.HT
open Go

/-- the j-th bit of all. -/
def tB (f : Nat → BitVec 8) (j : Nat) : Bool := (f (j / 8)).getLsbD (j % 8)
def cB (f : Nat → BitVec 8) : Nat → Nat
  | 0 => 0
  | j + 1 => cB f j + cond (tB f j) 1 0
theorem cB_le (f : Nat → BitVec 8) : ∀ j, cB f j ≤ j
  | 0 => Nat.le_refl _
  | j + 1 => by
    have := cB_le f j
    simp only [cB]; cases tB f j <;> simp <;> omega
def c8 (b : BitVec 8) : Nat := cond (b.getLsbD 0) 1 0 + cond (b.getLsbD 1) 1 0 + cond (b.getLsbD 2) 1 0 + cond (b.getLsbD 3) 1 0 + cond (b.getLsbD 4) 1 0 + cond (b.getLsbD 5) 1 0 + cond (b.getLsbD 6) 1 0 + cond (b.getLsbD 7) 1 0
theorem cB_8 (f : Nat → BitVec 8) (k : Nat) : cB f (8 * k + 8) = cB f (8 * k) + c8 (f k) := by
  have e : ∀ i, i < 8 → tB f (8 * k + i) = (f k).getLsbD i := fun i hi => by
    unfold tB; rw [show (8 * k + i) / 8 = k by omega, show (8 * k + i) % 8 = i by omega]
  have e0 := e 0 (by omega)
  rw [Nat.add_zero] at e0
  simp only [cB, e0, e 1 (by omega), e 2 (by omega), e 3 (by omega), e 4 (by omega), e 5 (by omega), e 6 (by omega), e 7 (by omega), c8]
  omega
theorem c8_le (b : BitVec 8) : c8 b ≤ 8 := by
  unfold c8
  cases b.getLsbD 0 <;> cases b.getLsbD 1 <;> cases b.getLsbD 2 <;> cases b.getLsbD 3 <;> cases b.getLsbD 4 <;> cases b.getLsbD 5 <;> cases b.getLsbD 6 <;> cases b.getLsbD 7 <;> decide
set_option maxRecDepth 100000 in
def popT : ByteArray := ByteArray.mk #[0, 1, 1, 2, 1, 2, 2, 3, 1, 2, 2, 3, 2, 3, 3, 4, 1, 2, 2, 3, 2, 3, 3, 4, 2, 3, 3, 4, 3, 4, 4, 5, 1, 2, 2, 3, 2, 3, 3, 4, 2, 3, 3, 4, 3, 4, 4, 5, 2, 3, 3, 4, 3, 4, 4, 5, 3, 4, 4, 5, 4, 5, 5, 6, 1, 2, 2, 3, 2, 3, 3, 4, 2, 3, 3, 4, 3, 4, 4, 5, 2, 3, 3, 4, 3, 4, 4, 5, 3, 4, 4, 5, 4, 5, 5, 6, 2, 3, 3, 4, 3, 4, 4, 5, 3, 4, 4, 5, 4, 5, 5, 6, 3, 4, 4, 5, 4, 5, 5, 6, 4, 5, 5, 6, 5, 6, 6, 7, 1, 2, 2, 3, 2, 3, 3, 4, 2, 3, 3, 4, 3, 4, 4, 5, 2, 3, 3, 4, 3, 4, 4, 5, 3, 4, 4, 5, 4, 5, 5, 6, 2, 3, 3, 4, 3, 4, 4, 5, 3, 4, 4, 5, 4, 5, 5, 6, 3, 4, 4, 5, 4, 5, 5, 6, 4, 5, 5, 6, 5, 6, 6, 7, 2, 3, 3, 4, 3, 4, 4, 5, 3, 4, 4, 5, 4, 5, 5, 6, 3, 4, 4, 5, 4, 5, 5, 6, 4, 5, 5, 6, 5, 6, 6, 7, 3, 4, 4, 5, 4, 5, 5, 6, 4, 5, 5, 6, 5, 6, 6, 7, 4, 5, 5, 6, 5, 6, 6, 7, 5, 6, 6, 7, 6, 7, 7, 8]
theorem popT_size : popT.size = 256 := by decide +kernel
theorem popT_at : ∀ b : Fin 256, (popT.data[(b : Nat)]?.getD 0).toNat = c8 (BitVec.ofFin b) := by decide +kernel
set_option maxRecDepth 100000 in
theorem OnesCount8_eq (D : HV → List HV → M HV) : f_math_bits_OnesCount8 D = fun args => fin (uI .u8 args fun x0 r => nl r (gd (decide (0 ≤ x0)) (gd (decide (x0 < (popT.size : Int))) (ret (.ret [I (wr ((popT.data[x0.toNat]?.getD 0).toNat : Int))]))))) := by kernel_rfl
theorem bits_OnesCount8_wp {D : HV → List HV → M HV} {H : Heap} {Q : HV → Heap → Prop} {b : BitVec 8} (h : Q (I (c8 b : Nat)) H) : wp (f_math_bits_OnesCount8 D [U8 b]) Q H := by
  rw [OnesCount8_eq]
  have hb := b.isLt
  have hk := popT_at b.toFin
  have h8 := c8_le b
  refine step ⟨by omega, by rw [popT_size]; omega, ?_⟩
  have e : (popT.data[(b.toNat : Int).toNat]?.getD 0).toNat = c8 b := by rw [Int.toNat_natCast]; exact hk
  rw [e, wr_small (by omega) (by omega)]
  exact h
theorem scope_Len_wp {D : HV → List HV → M HV} {H : Heap} {Q : HV → Heap → Prop} {f : Nat → BitVec 8} (h : Q (I (cB f 24 : Nat)) H) : wp (f_scope_Things_Len D [.agg [U8 (f 0), U8 (f 1), U8 (f 2)]]) Q H := by
  unfold f_scope_Things_Len
  refine step ?_
  refine wp_for (σ := Int) 3 (by omega) rfl (fun c i => [I c, I i]) (out := fun c => [I c]) (fun _ _ => rfl) rfl (fun k c H' => H' = H ∧ c = (cB f (8 * k) : Nat)) 0 rfl ⟨rfl, rfl⟩ ?_ ?_
  · rintro k c H' hk ⟨rfl, rfl⟩
    have hn := cB_le f (8 * k)
    have h8 := c8_le (f k)
    refine step ⟨by omega, by omega, wp_gxg (v := U8 (f k)) (by rw [show (k : Int).toNat * 1 = k by omega]; rcases lt3 hk with rfl | rfl | rfl <;> rfl) (step (wp_bnd (bits_OnesCount8_wp (step ?_))))⟩
    refine wp_nR ⟨_, rfl, rfl, ?_⟩
    rw [wr_small (by omega) (by omega), show 8 * (k + 1) = 8 * k + 8 by omega, cB_8]; rfl
  · rintro c H' ⟨rfl, rfl⟩
    exact step h
/-- the iterator over things. -/
theorem scope_Things_All_1_wp {D : DD} {x0 : HV} {Hs : Heap} {b : Nat} {f : Nat → BitVec 8} {Mo : Nat → Prop} {J : Nat → Heap → Prop} {X : Heap → Prop} (hb : Hs.get b = .cells [U8 (f 0), U8 (f 1), U8 (f 2)] false) (hbn : b < Hs.n) (hM : ¬ Mo b)
    (h0 : J 0 Hs) (hskip : ∀ j H, j < 24 → tB f j = false → J j H → J (j + 1) H)
    (hround : ∀ (k i : Nat) H1, k < 3 → i < 8 → tB f (8 * k + i) = true → But Mo Hs H1 → J (8 * k + i) H1 → wp (D x0 [I k, I i]) (fun r H2 => But Mo H1 H2 ∧ ((r = .bool true ∧ J (8 * k + i + 1) H2) ∨ (r = .bool false ∧ X H2))) H1) :
    wp (f_scope_Things_All_1 D [x0, .ptr (some (b, 0))]) (fun _ H' => But Mo Hs H' ∧ (J 24 H' ∨ X H')) Hs := by
  unfold f_scope_Things_All_1
  refine step ?_
  refine wp_blk ?_
  refine wp_loop (fun n vs H' => ∃ k : Nat, n + k = 3 ∧ vs = [I (k : Int)] ∧ But Mo Hs H' ∧ J (8 * k) H') 3 ⟨0, rfl, rfl, .refl _ _, h0⟩ ?_
  rintro n vs H1 ⟨k, hk, rfl, hb1, hJ⟩
  refine step ⟨fun hk2 => ?_, fun hk2 => ?_⟩
  rotate_left
  · have : k = 3 := by omega
    subst this
    refine wp_ret ?_
    show wp _ _ _
    exact step ⟨hb1, .inl hJ⟩
  have hk3 : k < 3 := by omega
  refine wp_blk ?_
  refine wp_loop (fun n vs H' => ∃ i : Nat, n + i = 8 ∧ vs = [I (i : Int)] ∧ But Mo Hs H' ∧ J (8 * k + i) H') 8 ⟨0, rfl, rfl, hb1, hJ⟩ ?_
  rintro m vs H1 ⟨i, hi, rfl, hb1, hJ⟩
  refine step ⟨fun hi2 => ?_, fun hi2 => ?_⟩
  rotate_left
  · have : i = 8 := by omega
    subst this
    refine wp_ret ?_
    show wp _ _ _
    refine step (wp_ret ⟨n - 1, by omega, k + 1, by omega, ?_, hb1, ?_⟩)
    · rw [wr_small (by omega) (by omega)]; rfl
    · rw [show 8 * (k + 1) = 8 * k + 8 by omega]; exact hJ
  have hi3 : i < 8 := by omega
  have et : tB f (8 * k + i) = (f k).getLsbD i := by unfold tB; rw [show (8 * k + i) / 8 = k by omega, show (8 * k + i) % 8 = i by omega]
  refine wp_jn (step (wp_ldNo (by rw [hb1.get b hbn hM]; exact hb) (by simp) ?_))
  show wp (uI .u8 [U8 (f 0), U8 (f 1), U8 (f 2)] _) _ _
  refine step (wp_bnd (scope_Has_wp (f := f) (fun a c ha hc _ _ => ?_) (fun hn => absurd ⟨by omega, by omega, by omega, by omega⟩ hn)))
  obtain rfl : a = k := by omega
  obtain rfl : c = i := by omega
  refine step ⟨fun e => wp_bnd ((hround a c H1 hk3 hi3 (by rw [et]; exact e) hb1 hJ).mono ?_), fun e => wp_ret ⟨m - 1, by omega, c + 1, by omega, by rw [wr_small (by omega) (by omega)]; rfl, hb1, hskip (8 * a + c) _ (by omega) (by rw [et]; exact e) hJ⟩⟩
  rintro r H2 ⟨hb2, ⟨rfl, hJ2⟩ | ⟨rfl, hX⟩⟩
  · exact step (wp_ret ⟨m - 1, by omega, c + 1, by omega, by rw [wr_small (by omega) (by omega)]; rfl, hb1.trans hb2, hJ2⟩)
  · exact step (wp_ret ⟨hb1.trans hb2, .inr hX⟩)
/-- what the law keeps in memory. -/
def TM (b9 b10 b11 b15 b18 m : Nat) (f : Nat → BitVec 8) (lp : Nat) (ws : List (Nat × HV)) (k c last : Int) (st : LoopState) (pd : Option Code) : List (Nat × HObj) :=
  [(b9, .cells [I k] false), (b10, .cells [.bool false] false), (b11, .cells (bitsL f) false), (b15, .cells [I c] false), (b18, .cells [I last] false), (m, .cells [U8 (f 0), U8 (f 1), U8 (f 2)] false), (lp, .loop 42271286 ws st pd)]
theorem ScopeThings_round {D : DD} {Q : HV → Heap → Prop} {H0 H : Heap} {lp b9 b10 b11 b15 b18 m : Nat} {f : Nat → BitVec 8} {n c last : Int} {k i : Nat} {ws : List (Nat × HV)}
    (hws : ws = [(9, .ptr (some (b9, 0))), (10, .ptr (some (b10, 0))), (11, .ptr (some (b11, 0))), (15, .ptr (some (b15, 0))), (18, .ptr (some (b18, 0)))])
    (hL : Loc H0 H (TM b9 b10 b11 b15 b18 m f lp ws n c last .ready none)) (hk : k < 3) (hi : i < 8) (hb : tB f (8 * k + i) = true) (hlast : last < 8 * k + i) (hc0 : 0 ≤ c ∧ c ≤ 1000)
    (h : ∀ H', But (fun b => b = lp ∨ b = b15 ∨ b = b18) H H' → (c + 1 = n → Loc H0 H' (TM b9 b10 b11 b15 b18 m f lp ws n (c + 1) (8 * k + i) .done (some (.exit 4))) → Q (.bool false) H') ∧ (c + 1 ≠ n → Loc H0 H' (TM b9 b10 b11 b15 b18 m f lp ws n (c + 1) (8 * k + i) .ready none) → Q (.bool true) H')) :
    wp (r0_law28_ScopeThings D lp ws [I k, I i]) (PRnd lp Q) H := by
  unfold r0_law28_ScopeThings
  subst hws
  refine wp_gdS rfl ?_
  show wp (uP [.ptr (some (b9, 0)), .ptr (some (b10, 0)), .ptr (some (b11, 0)), .ptr (some (b15, 0)), .ptr (some (b18, 0))] _) _ _
  refine step ?_
  generalize hws : [((9 : Nat), HV.ptr (some (b9, 0))), (10, .ptr (some (b10, 0))), (11, .ptr (some (b11, 0))), (15, .ptr (some (b15, 0))), (18, .ptr (some (b18, 0)))] = ws at *
  have hw : wr (wr (8 * (k : Int)) + (i : Int)) = 8 * k + i := by
    rw [wr_small (n := 8 * (k : Int)) (by omega) (by omega), wr_small (by omega) (by omega)]
  rw [hw]
  refine wp_busyP 6 hL rfl fun H1 L1 B1 => ?_
  refine wp_jnP False ?_ (fun hh => hh.elim) (fun _ => step ?_)
  · refine step ⟨fun c => by omega, fun _ => ⟨fun c => by omega, fun _ => ⟨fun c => by omega, fun _ => ⟨fun c => by omega, fun _ => ?_⟩⟩⟩⟩
    refine wp_ldP 4 L1 rfl rfl (step ⟨fun c => by omega, fun _ => ⟨by omega, by omega, by omega, by omega, ?_⟩⟩)
    refine wp_ldP 2 L1 rfl (v := .bool true) (by rw [show 0 + (k : Int).toNat * 8 + (i : Int).toNat * 1 = 8 * k + i by omega, bitsL_get (by omega)]; unfold tB at hb; rw [hb]) (step (by simp))
  · refine wp_stP 4 L1 rfl (by simp) rfl fun H2 L2 B2 => step ?_
    refine wp_ldP 3 L2 rfl rfl (step ?_)
    refine wp_stP 3 L2 rfl (by simp) rfl fun H3 L3 B3 => step ?_
    refine wp_ldP 3 L3 rfl rfl (step ?_)
    rw [wr_small (n := c + 1) (by omega) (by omega)] at *
    have hB : ∀ {H4}, But (fun x => x = lp) H3 H4 → But (fun b => b = lp ∨ b = b15 ∨ b = b18) H H4 := fun B4 =>
      ((B1.up (fun b hb => .inl hb)).trans (B2.up (fun b hb => .inr (.inr hb)))).trans ((B3.up (fun b hb => .inr (.inl hb))).trans (B4.up (fun b hb => .inl hb)))
    refine wp_ldP 0 L3 rfl rfl (step ⟨fun e => ?_, fun e => ?_⟩)
    · exact wp_xYP 6 L3 rfl fun H4 L4 B4 => (h _ (hB B4)).1 e L4
    · exact wp_nYP 6 L3 rfl fun H4 L4 B4 => (h _ (hB B4)).2 e L4
/-- have both one among the first j? -/
def mB (f g : Nat → BitVec 8) : Nat → Bool
  | 0 => false
  | j + 1 => mB f g j || (tB f j && tB g j)
theorem mB_iff {f g : Nat → BitVec 8} : ∀ {j}, mB f g j = true ↔ ∃ i, i < j ∧ tB f i = true ∧ tB g i = true
  | 0 => by simp [mB]
  | j + 1 => by
    simp only [mB, Bool.or_eq_true, Bool.and_eq_true, mB_iff (j := j)]
    constructor
    · rintro (⟨i, h1, h2⟩ | h)
      · exact ⟨i, by omega, h2⟩
      · exact ⟨j, by omega, h⟩
    · rintro ⟨i, h1, h2⟩
      by_cases e : i = j
      · subst e; exact .inr h2
      · exact .inl ⟨i, by omega, h2⟩
theorem mB_meP {f g : Nat → BitVec 8} : mB f g 24 = true ↔ MeP f g := by
  rw [mB_iff]
  constructor
  · rintro ⟨j, hj, h1, h2⟩
    exact ⟨j / 8, by omega, j % 8, by omega, h1, h2⟩
  · rintro ⟨k, hk, i, hi, h1, h2⟩
    refine ⟨8 * k + i, by omega, ?_⟩
    unfold tB
    rw [show (8 * k + i) / 8 = k by omega, show (8 * k + i) % 8 = i by omega]
    exact ⟨h1, h2⟩
theorem MeP.symm {f g : Nat → BitVec 8} (h : MeP f g) : MeP g f := by
  obtain ⟨k, hk, i, hi, h1, h2⟩ := h
  exact ⟨k, hk, i, hi, h2, h1⟩
theorem law28_ScopeThings_wp {cl : List (Nat × Clo)} {rn : List (Nat × Rnd)} {D0 : DD} (h1 : lkA cl n_bound_From_1 = some f_bound_From_1) (h2 : lkA rn 82468377 = some r0_scope_Of) (h3 : lkA cl n_scope_Things_All_1 = some f_scope_Things_All_1) (h4 : lkA rn 42271286 = some r0_law28_ScopeThings)
    {H : Heap} (f g : Nat → BitVec 8) (kd ix n : Int) : wp (f_law28_ScopeThings (stepD cl rn (stepD cl rn D0)) [.agg [U8 (f 0), U8 (f 1), U8 (f 2)], .agg [U8 (g 0), U8 (g 1), U8 (g 2)], I kd, I ix, I n]) Yes H := by
  unfold f_law28_ScopeThings
  refine step ?_
  refine wp_nwP (Loc.nil H) fun Ha b9 _ La _ => ?_
  refine wp_nwP La fun Hb b10 _ Lb _ => ?_
  refine wp_bnd (law28_alive_wp h1 h2 fun H1 hk1 => step ?_)
  have L1 := Lb.keeps hk1
  refine wp_bnd (law28_bitsOf_wp (f := f) (step ?_))
  refine wp_bnd (law28_bitsOf_wp (f := g) (step ?_))
  refine ⟨rfl, rfl, rfl, rfl, ?_⟩
  rw [putN_full (by rfl), putN_full (by rfl)]
  refine wp_nwP L1 fun H2 b11 _ L2 _ => ?_
  refine wp_nwP L2 fun H3 b15 _ L3 _ => ?_
  refine wp_stP 3 L3 rfl (by simp) rfl fun H4 L4 _ => ?_
  clear L3 L2 L1 La Lb hk1
  have L4' : Loc H H4 [(b9, .cells [I n] false), (b10, .cells [.bool false] false), (b11, .cells (bitsL f) false), (b15, .cells [I 0] false)] := L4
  clear L4
  -- how many, and whether both have one
  refine wp_blk ?_
  refine wp_loop (fun q vs H' => H' = H4 ∧ ∃ k : Nat, q + k = 3 ∧ vs = [I (cB f (8 * k) : Nat), .bool (mB f g (8 * k)), I (k : Int)]) 3 ⟨rfl, 0, rfl, rfl⟩ ?_
  rintro q vs H4 ⟨rfl, k, hk, rfl⟩
  refine step ⟨fun hk2 => ?_, fun hk2 => ?_⟩
  · have hk3 : k < 3 := by omega
    refine wp_blk ?_
    refine wp_loop (fun q vs H' => H' = H4 ∧ ∃ i : Nat, q + i = 8 ∧ vs = [I (cB f (8 * k + i) : Nat), .bool (mB f g (8 * k + i)), I (i : Int)]) 8 ⟨rfl, 0, rfl, rfl⟩ ?_
    rintro q2 vs H4 ⟨rfl, i, hi, rfl⟩
    refine step ⟨fun hi2 => ?_, fun hi2 => ?_⟩
    · have hi3 : i < 8 := by omega
      have et : ∀ f : Nat → BitVec 8, (f k).getLsbD i = tB f (8 * k + i) := fun f => by unfold tB; rw [show (8 * k + i) / 8 = k by omega, show (8 * k + i) % 8 = i by omega]
      have eb : ∀ f : Nat → BitVec 8, (bitsL f)[0 + (k : Int).toNat * 8 + (i : Int).toNat * 1]? = some (.bool (tB f (8 * k + i))) := fun f => by
        rw [show 0 + (k : Int).toNat * 8 + (i : Int).toNat * 1 = 8 * k + i by omega, bitsL_get (by omega)]; rfl
      have hn := cB_le f (8 * k + i)
      refine wp_blk (step (wp_bnd (scope_Has_wp (f := f) (fun a c ha hc _ _ => ?_) (fun hn => absurd ⟨by omega, by omega, by omega, by omega⟩ hn))))
      obtain rfl : a = k := by omega
      obtain rfl : c = i := by omega
      refine step ⟨by omega, by omega, by omega, by omega, ?_⟩
      refine wp_ldP 2 L4' rfl (eb f) (step ⟨by simp, fun hne => ?_, fun _ => ⟨by omega, by omega, by omega, by omega, ?_⟩⟩)
      · rw [et f] at hne; simp at hne
      refine wp_ldP 2 L4' rfl (eb f) (step ?_)
      refine wp_jn (wp.mono (Q := fun lf H' => H' = H4 ∧ lf = .norm [I (cB f (8 * a + c + 1) : Nat)]) ?_ ?_)
      · refine step ⟨fun e => wp_ret ⟨rfl, ?_⟩, fun e => wp_ret ⟨rfl, ?_⟩⟩
        · simp only [cB, e]; rw [wr_small (by omega) (by omega)]; rfl
        · simp only [cB, e]; rfl
      rintro _ H4 ⟨rfl, rfl⟩
      show wp _ _ _
      have em : mB f g (8 * a + c + 1) = (mB f g (8 * a + c) || (tB f (8 * a + c) && tB g (8 * a + c))) := rfl
      refine step ?_
      refine ⟨fun e => ?_, fun e => ⟨by omega, by omega, by omega, by omega, wp_ldP 2 L4' rfl (eb f) (step ?_)⟩⟩
      · refine wp_ret ⟨q2 - 1, by omega, rfl, c + 1, by omega, ?_⟩
        show _ = [_, HV.bool (mB f g (8 * a + c + 1)), _]
        rw [wr_small (by omega) (by omega), em, e]; rfl
      refine ⟨fun e2 => ⟨by omega, by omega, by omega, by omega, wp_gxg (eb g) (step ?_)⟩, fun e2 => ?_⟩
      all_goals
        refine wp_ret ⟨q2 - 1, by omega, rfl, c + 1, by omega, ?_⟩
        show _ = [_, HV.bool (mB f g (8 * a + c + 1)), _]
        rw [wr_small (by omega) (by omega), em, e, e2]; rfl
    · have : i = 8 := by omega
      subst this
      refine wp_ret ?_
      show wp _ _ _
      exact step (wp_ret ⟨q - 1, by omega, rfl, k + 1, by omega, by rw [wr_small (by omega) (by omega)]; rfl⟩)
  have : k = 3 := by omega
  subst this
  refine wp_ret ?_
  show wp _ _ _
  refine step (wp_nwP L4' fun H5 b18 _ L5 _ => wp_stP 4 L5 rfl (by simp) rfl fun H6 L6 _ => ?_)
  refine wp_bnd ?_
  unfold f_scope_Things_All
  refine step (wp_nwP L6 fun H7 m _ L7 _ => step ?_)
  refine wp_blk (wp_ny (wp_nwLP L7 fun H8 lp _ L8 _ => ?_))
  generalize hws : [((9 : Nat), HV.ptr (some (b9, 0))), (10, .ptr (some (b10, 0))), (11, .ptr (some (b11, 0))), (15, .ptr (some (b15, 0))), (18, .ptr (some (b18, 0)))] = ws at *
  replace L8 : Loc H H8 (TM b9 b10 b11 b15 b18 m f lp ws n 0 (-1) .ready none) := L8
  clear L7 L6 L5
  have hnm : ∀ {i j : Nat} {x y : Nat} {o o'}, (TM b9 b10 b11 b15 b18 m f lp ws n 0 (-1) .ready none)[i]? = some (x, o) → (TM b9 b10 b11 b15 b18 m f lp ws n 0 (-1) .ready none)[j]? = some (y, o') → i ≠ j → x ≠ y := fun h1 h2 hne e => by
    subst e; exact hne (nodup_fst L8.nd h1 h2)
  refine wp.mono (Q := fun lf H' => (lf = .norm [] ∨ lf = .exit 4 []) ∧ ∃ c last pd, Loc H H' (TM b9 b10 b11 b15 b18 m f lp ws n c last .exhausted pd) ∧ (c = n ∨ c = (cB f 24 : Nat))) ?_ ?_
  · refine wp_bnd (wp_clo h3 ?_)
    refine wp.mono (scope_Things_All_1_wp (f := f) (b := m) (Mo := fun b => b = lp ∨ b = b15 ∨ b = b18)
      (J := fun j H' => ∃ last, Loc H H' (TM b9 b10 b11 b15 b18 m f lp ws n (cB f j : Nat) last .ready none) ∧ last < (j : Int))
      (X := fun H' => ∃ last, Loc H H' (TM b9 b10 b11 b15 b18 m f lp ws n n last .done (some (.exit 4)))) (L8.get (i := 5) rfl) (L8.lt (i := 5) rfl) ?_ ⟨-1, L8, by omega⟩ ?_ ?_) ?_
    · rintro (e | e | e)
      · exact hnm (i := 5) (j := 6) rfl rfl (by omega) e
      · exact hnm (i := 5) (j := 3) rfl rfl (by omega) e
      · exact hnm (i := 5) (j := 4) rfl rfl (by omega) e
    · rintro j H' hj hb ⟨last, q1, q2⟩
      refine ⟨last, ?_, by omega⟩
      simp only [cB, hb]; exact q1
    · rintro k i H' hk hi hb hbut ⟨last, q1, q2⟩
      have hn := cB_le f (8 * k + i)
      refine wp_rnd (q1.get (i := 6) rfl) h4 (ScopeThings_round hws.symm q1 hk hi hb (by omega) ⟨by omega, by omega⟩ fun H'' hb'' => ⟨fun e hL => ⟨hb'', .inr ⟨rfl, _, by rw [e] at hL; exact hL⟩⟩, fun e hL => ⟨hb'', .inl ⟨rfl, ((8 * k + i : Nat) : Int), ?_, ?_⟩⟩⟩)
      · simp only [cB, hb]; exact hL
      · omega
    · rintro _ H' ⟨_, ⟨last, q, _⟩ | ⟨last, q⟩⟩
      · exact wp_endP 6 q rfl (by simp) fun H'' q' _ => wp_ret ⟨.inl rfl, _, last, _, q', .inr rfl⟩
      · exact wp_endPx 6 q rfl (by simp) fun H'' q' _ => wp_onX (wp_ret ⟨.inr rfl, _, last, _, q', .inl rfl⟩)
  · rintro lf H9 ⟨hlf, c, last, pd, L9, hcc⟩
    rcases hlf with rfl | rfl
    all_goals
      show wp _ _ _
      have hh : ∀ (R : Leaf → Heap → Prop), (¬ (0 ≤ kd ∧ kd ≤ 2 ∧ 0 ≤ ix ∧ ix < 8) → wp (ret (.norm [.bool false])) R H9) → ¬ (0 ≤ kd ∧ kd ≤ 2 ∧ 0 ≤ ix ∧ ix < 8) → wp (bnd (f_scope_Things_Has (stepD cl rn (stepD cl rn D0)) [.agg [U8 (f 0), U8 (f 1), U8 (f 2)], I kd, I ix]) fun r_29 => asB r_29 fun x128 => ret (.norm [.bool x128])) R H9 := fun R hR hn =>
        wp_bnd (scope_Has_wp (f := f) (fun a b ha hb h1 h2 => absurd ⟨by omega, by omega, by omega, by omega⟩ hn) (fun hn => step (hR hn)))
      refine step (wp_jnP False ?_ (fun hh => hh.elim) (fun _ => step ?_))
      · have h5 := hh (PB False H9) (fun _ => wp_bB (by simp))
        exact step ⟨fun c1 => h5 (by omega), fun c1 => ⟨fun c2 => h5 (by omega), fun c2 => ⟨fun c3 => h5 (by omega), fun c3 => ⟨fun c4 => h5 (by omega), fun c4 => by simp⟩⟩⟩⟩
      refine wp_jn (wp_bnd (scope_Len_wp (step ⟨fun _ => ?_, fun e => absurd rfl e⟩)))
      refine wp_bnd (scope_Meets_wp fun z hz => step ?_)
      have e1 : z = mB f g 24 := by rw [Bool.eq_iff_iff, hz, mB_meP]
      refine ⟨fun _ => wp_bnd (scope_Meets_wp fun z2 hz2 => step ?_), fun e => by rw [e1] at e; simp at e⟩
      refine ⟨fun _ => ?_, fun e => ?_⟩
      · refine wp_ldP 3 L9 rfl rfl (step (wp_ldP 0 L9 rfl rfl (step ⟨fun e => ?_, fun e => ?_⟩)))
        · exact wp_stP 1 L9 rfl (by simp) rfl fun H10 L10 _ => step (wp_ldP 1 L10 rfl rfl (step rfl))
        · refine wp_ldP 3 L9 rfl rfl (step (wp_stP 1 L9 rfl (by simp) rfl fun H10 L10 _ => step (wp_ldP 1 L10 rfl rfl (step ?_))))
          have : c = (cB f 24 : Nat) := hcc.resolve_left e
          show HV.bool _ = _
          simp [this]
      · have : z2 = mB f g 24 := by rw [Bool.eq_iff_iff, hz2, mB_meP]; exact ⟨MeP.symm, MeP.symm⟩
        rw [this] at e; simp at e
end Go.Proofs.Ytijppadieomnjaa.HT
namespace Go.Proofs.Ytijppadieomnjaa.HT
open Go

theorem scoI_ex {p : List Ins} {k e : Nat} (hc : CanB p) (he : EndAt p k e) : ∃ S, ScoI p k e S := by
  have key : ∀ j, j ≤ e → ∃ S, ScoI p k j S := by
    intro j
    induction j with
    | zero => exact fun _ => ⟨_, scoI_zero⟩
    | succ j ih =>
      intro hj
      obtain ⟨S, h⟩ := ih (by omega)
      have hjp : j < p.length := by have := he.le; omega
      by_cases hR : Rch p k j
      · exact ⟨_, h.take hjp (hc.one j hjp).fits.rng hR⟩
      · exact ⟨_, h.skip hR⟩
  exact key e (Nat.le_refl _)
theorem Same.plain {S : Sco} {L : List Bool} (h : Same S L) : L.map HV.bool = plainL S := by
  have hl := h.len
  refine List.ext_getElem? fun j => ?_
  by_cases hj : j < 57
  · have hg : (L.map HV.bool)[j]? = some (.bool (L.getD j false)) := by
      rw [List.getElem?_map, List.getElem?_eq_getElem (by omega), List.getD_eq_getElem?_getD, List.getElem?_eq_getElem (by omega)]; rfl
    rw [hg]
    by_cases h1 : j < 24
    · have := plainL_r (S := S) (k := j / 8) (i := j % 8) (by omega) (by omega)
      rw [show j / 8 * 8 + j % 8 = j by omega] at this
      rw [this, h.r (j / 8) (by omega) (j % 8) (by omega), show j / 8 * 8 + j % 8 = j by omega]
    by_cases h2 : j < 48
    · have := plainL_w (S := S) (k := (j - 24) / 8) (i := (j - 24) % 8) (by omega) (by omega)
      rw [show 24 + ((j - 24) / 8 * 8 + (j - 24) % 8) = j by omega] at this
      rw [this, h.w ((j - 24) / 8) (by omega) ((j - 24) % 8) (by omega), show 24 + ((j - 24) / 8 * 8 + (j - 24) % 8) = j by omega]
    have : j = 48 ∨ j = 49 ∨ j = 50 ∨ j = 51 ∨ j = 52 ∨ j = 53 ∨ j = 54 ∨ j = 55 ∨ j = 56 := by omega
    rcases this with rfl | rfl | rfl | rfl | rfl | rfl | rfl | rfl | rfl
    · rw [show (plainL S)[48]? = some (.bool (S.s 0)) from rfl, h.s 0 (by omega)]
    · rw [show (plainL S)[49]? = some (.bool (S.s 1)) from rfl, h.s 1 (by omega)]
    · rw [show (plainL S)[50]? = some (.bool (S.s 2)) from rfl, h.s 2 (by omega)]
    · rw [show (plainL S)[51]? = some (.bool (S.t 0)) from rfl, h.t 0 (by omega)]
    · rw [show (plainL S)[52]? = some (.bool (S.t 1)) from rfl, h.t 1 (by omega)]
    · rw [show (plainL S)[53]? = some (.bool (S.t 2)) from rfl, h.t 2 (by omega)]
    · rw [show (plainL S)[54]? = some (.bool (S.t 3)) from rfl, h.t 3 (by omega)]
    · rw [show (plainL S)[55]? = some (.bool S.su) from rfl, h.su]
    · rw [show (plainL S)[56]? = some (.bool S.wa) from rfl, h.wa]
  · rw [List.getElem?_eq_none (by rw [List.length_map]; omega), List.getElem?_eq_none (by rw [plainL_len]; omega)]
section
variable {p q : List Ins} {k e : Nat} {S1 S2 S' : Sco}
theorem clP_of (h1 : ScoI p k e S1) (h2 : ScoI p k e S2) (h : ClP S1 S') : ClP S2 S' := by
  obtain ⟨a, ha, i, hi, hc⟩ := h
  have ew : (S2.w a).getLsbD i = true ↔ (S1.w a).getLsbD i = true := (h2.w a ha i hi).trans (h1.w a ha i hi).symm
  have er : (S2.r a).getLsbD i = true ↔ (S1.r a).getLsbD i = true := (h2.r a ha i hi).trans (h1.r a ha i hi).symm
  refine ⟨a, ha, i, hi, ?_⟩
  unfold ClAt at hc ⊢
  rw [ew, er]; exact hc
/-- no block of q's clashes with a scope. -/
def Free (q : List Ins) (S : Sco) (n : Nat) : Prop := ∀ l, l < n → ∀ f S', EndAt q l f → ScoI q l f S' → ¬ ClP S S'
def Hit (q : List Ins) (S : Sco) : Prop := ∃ l f S', EndAt q l f ∧ ScoI q l f S' ∧ ClP S S'
theorem Free.not_hit {S : Sco} (h : Free q S q.length) : ¬ Hit q S := fun ⟨l, f, S', h1, h2, h3⟩ => h l (Nat.lt_trans h1.lt h1.le) f S' h1 h2 h3
theorem Free.skip {S : Sco} {j : Nat} (h : Free q S j) (hn : CanB q → ¬ Beg q (j : Int)) (hc : CanB q) : Free q S (j + 1) := fun l hl f S' h1 h2 => by
  by_cases e : l = j
  · subst e; exact absurd (Beg.of hc h1) (hn hc)
  · exact h l (by omega) f S' h1 h2
theorem Free.add {S S' : Sco} {j f : Nat} (h : Free q S j) (h1 : EndAt q j f) (h2 : ScoI q j f S') (hn : ¬ ClP S S') : Free q S (j + 1) := fun l hl f2 S2 g1 g2 => by
  by_cases e : l = j
  · subst e
    have := endAt_only h1 g1
    subst this
    exact fun hh => hn ((clP_symm _ _).1 (clP_of g2 h2 ((clP_symm _ _).1 hh)))
  · exact h l (by omega) f2 S2 g1 g2
/-- no blocks of both clash, as far as those of p below n. -/
def FreeN (p q : List Ins) (n : Nat) : Prop := ∀ k, k < n → ∀ e S, EndAt p k e → ScoI p k e S → ¬ Hit q S
def ApartP (p q : List Ins) : Prop := CanB p ∧ CanB q ∧ FreeN p q p.length
theorem apart_symm : ApartP p q ↔ ApartP q p := by
  have key : ∀ p q, ApartP p q → ApartP q p := fun p q ⟨h1, h2, h3⟩ => ⟨h2, h1, fun l _ f S' g1 g2 ⟨k, e, S, g3, g4, g5⟩ => h3 k (Nat.lt_trans g3.lt g3.le) e S g3 g4 ⟨l, f, S', g1, g2, (clP_symm _ _).1 g5⟩⟩
  exact ⟨key _ _, key _ _⟩
theorem FreeN.skip {j : Nat} (h : FreeN p q j) (hn : ¬ Beg p (j : Int)) (hc : CanB p) : FreeN p q (j + 1) := fun l hl f S' h1 h2 => by
  by_cases e : l = j
  · subst e; exact absurd (Beg.of hc h1) hn
  · exact h l (by omega) f S' h1 h2
theorem FreeN.add {S : Sco} {j e : Nat} (h : FreeN p q j) (h1 : EndAt p j e) (h2 : ScoI p j e S) (hn : ¬ Hit q S) : FreeN p q (j + 1) := fun l hl f2 S2 g1 g2 => by
  by_cases e : l = j
  · subst e
    have := endAt_only h1 g1
    subst this
    exact fun ⟨l, f, S', a1, a2, a3⟩ => hn ⟨l, f, S', a1, a2, clP_of g2 h2 a3⟩
  · exact h l (by omega) f2 S2 g1 g2
end
theorem ref28_Of_wp2 {D : HV → List HV → M HV} {H : Heap} {Q : HV → Heap → Prop} {s : Sl} {p : List Ins} (hs : RProg H s p) {a : Int}
    (h1 : ∀ (k e : Nat) S, a = k → CanB p → EndAt p k e → ScoI p k e S → Q (.tup [.agg (plainL S), .bool true]) H) (h2 : ¬ Beg p a → Q (.tup [.agg (List.replicate 57 (HV.bool false)), .bool false]) H) : wp (f_ref28_Of D [.sl s, I a]) Q H := by
  refine ref28_Of_wp hs (fun k hk hb L hL => ?_) h2
  obtain ⟨hc, k', hk', hlt, h4⟩ := hb
  obtain rfl : k' = k := by omega
  obtain ⟨e, he⟩ := exists_end hc.shaped hlt h4
  obtain ⟨S, hS⟩ := scoI_ex hc he
  rw [(same_of hc he hS hL).plain]
  exact h1 _ _ _ hk hc he hS
theorem ref28_Apart_wp {D : HV → List HV → M HV} {H : Heap} {Q : HV → Heap → Prop} {s t : Sl} {p q : List Ins} (hs : RProg H s p) (ht : RProg H t q) (h : ∀ b : Bool, (b = true ↔ ApartP p q) → Q (.bool b) H) : wp (f_ref28_Apart D [.sl s, .sl t]) Q H := by
  unfold f_ref28_Apart
  have l1 := hs.lenI
  have l2 := ht.lenI
  refine step (wp_jnP (¬ (CanB p ∧ CanB q)) ?_ (fun hh => step (h false ⟨fun e => (by cases e), fun e => absurd ⟨e.1, e.2.1⟩ hh⟩)) (fun hh => step ?_))
  · refine wp_bnd (ref27_Can_wp hs fun z hz => step ⟨fun c => ⟨fun _ hh => (by rw [hz.2 hh.1] at c; cases c), fun _ => rfl⟩, fun c => wp_bnd (ref27_Can_wp ht fun z2 hz2 => step ?_)⟩)
    have := hz.1 c
    cases z2 <;> simp_all
  obtain ⟨hp, hq⟩ := Classical.not_not.1 hh
  have hp48 := hp.len
  have hq48 := hq.len
  refine wp_loop0 p.length (by omega) l1 (fun _ => rfl) rfl (fun i => FreeN p q i) (fun _ h => by omega) ?_ (fun hP => step (h true ⟨fun _ => ⟨hp, hq, hP⟩, fun _ => rfl⟩))
  intro i hi hP
  refine wp_blk (wp_bnd (ref28_Of_wp2 hs (fun k e S hk _ he hS => step ?_) (fun hn => step ⟨rfl, rfl, hP.skip hn hp⟩)))
  obtain rfl : k = i := by omega
  refine ⟨rfl, rfl, ?_⟩
  refine wp_loop0 q.length (by omega) l2 (fun _ => rfl) rfl (fun j => Free q S j) (fun _ h => by omega) ?_ (fun hF => step (hP.add he hS hF.not_hit))
  intro j hj hF
  refine wp_bnd (ref28_Of_wp2 ht (fun l f S' hl _ hf hS' => step ⟨rfl, rfl, ?_⟩) (fun hn => step ⟨rfl, rfl, ?_⟩))
  · obtain rfl : l = j := by omega
    refine wp_jnP (ClP S S') (step ?_) (fun hcl => step (h false ⟨fun e => (by cases e), fun hA => absurd ⟨_, f, S', hf, hS', hcl⟩ (hA.2.2 k hi e S he hS)⟩)) (fun hcl => step (hF.add hf hS' hcl))
    refine wp_gxP rfl rfl (wp_gxP rfl rfl (wp_bnd (ref28_Clash_wp fun b hb => step hb)))
  · exact wp_jnP False (step (by simp)) (fun hh => hh.elim) (fun _ => step (hF.skip (fun _ => hn) hq))
theorem Loc.take {H0 H : Heap} {l : List (Nat × HObj)} (h : Loc H0 H l) (n : Nat) : Loc H0 H (l.take n) :=
  ⟨h.k, by rw [List.map_take]; exact List.Nodup.sublist (List.take_sublist _ _) h.nd, fun p hp => h.at_ p (List.mem_of_mem_take hp)⟩
theorem But.old {M : Nat → Prop} {H H' : Heap} (h : But (fun b => M b ∨ H.n ≤ b) H H') : But M H H' := ⟨h.n, fun b hb hn => h.get b hb (by rintro (h | h); exact hn h; omega)⟩
theorem RProg.lt' {H : Heap} {s : Sl} {p : List Ins} (hs : RProg H s p) {b o : Nat} (e : s.p = some (b, o)) : b < H.n := by
  have hs' : SlR H s 4 (p.map Ins.cs) := hs
  rcases hs'.mem with ⟨q1, _⟩ | ⟨b2, o2, _, _, q1, q2, _⟩
  · rw [q1] at e; cases e
  · rw [q1] at e; cases e; exact q2
/-- what scope.Apart keeps in memory. -/
def AM (b3 b4 b1 : Nat) (t s : Sl) (lp : Nat) (ws : List (Nat × HV)) (st : LoopState) (pd : Option Code) : List (Nat × HObj) :=
  [(b3, .cells [.sl t] false), (b4, .cells [.bool false] false), (b1, .cells [.sl s] false), (lp, .loop 91524749 ws st pd)]
def AI (b3 b4 b1 : Nat) (t s : Sl) (lp : Nat) (ws : List (Nat × HV)) (b6 b7 : Nat) (S : Sco) (l1 : Nat) (us : List (Nat × HV)) (st : LoopState) (pd : Option Code) : List (Nat × HObj) :=
  [(b3, .cells [.sl t] false), (b4, .cells [.bool false] false), (b1, .cells [.sl s] false), (lp, .loop 91524749 ws .busy none), (b6, .cells S.cells false), (b7, .cells [.sl t] false), (l1, .loop 23525095 us st pd)]
theorem Apart_inner {D : DD} {Q : HV → Heap → Prop} {H0 H : Heap} {b3 b4 b1 b6 b7 lp l1 : Nat} {t s : Sl} {S S' : Sco} {j : Nat} {ws us : List (Nat × HV)} (hus : us = [(4, .ptr (some (b4, 0))), (6, .ptr (some (b6, 0)))])
    (hL : Loc H0 H (AI b3 b4 b1 t s lp ws b6 b7 S l1 us .ready none))
    (h : ∀ H', But (fun b => b = l1 ∨ b = b4) H H' → (ClP S S' → Loc H0 H' (AI b3 b4 b1 t s lp ws b6 b7 S l1 us .done (some .ret)) → Q (.bool false) H') ∧ (¬ ClP S S' → Loc H0 H' (AI b3 b4 b1 t s lp ws b6 b7 S l1 us .ready none) → Q (.bool true) H')) :
    wp (r0_0_scope_Apart D l1 us [I j, .agg S'.cells]) (PRnd l1 Q) H := by
  unfold r0_0_scope_Apart
  subst hus
  refine wp_gdS rfl ?_
  show wp (uP [.ptr (some (b4, 0)), .ptr (some (b6, 0))] _) _ _
  refine step ⟨rfl, rfl, ?_⟩
  generalize hus : [((4 : Nat), HV.ptr (some (b4, 0))), (6, .ptr (some (b6, 0)))] = us at *
  refine wp_busyP 6 hL rfl fun H1 L1 B1 => step ?_
  refine wp_ldNP 4 L1 rfl (by rw [cells_len]; exact Nat.le_refl _) (wp_gxP rfl rfl (wp_bnd (scope_Clash_wp (S := S) (S' := S') fun b hb => step ⟨fun c => ?_, fun c => ?_⟩)))
  · refine wp_stP 1 L1 rfl (by simp) rfl fun H2 L2 B2 => ?_
    refine wp_rYP 6 L2 rfl fun H3 L3 B3 => (h _ ?_).1 (hb.1 c) L3
    exact ((B1.up fun b hb => .inl hb).trans (B2.up fun b hb => .inr hb)).trans (B3.up fun b hb => .inl hb)
  · refine wp_nYP 6 L1 rfl fun H3 L3 B3 => (h _ ?_).2 (fun hh => by rw [hb.2 hh] at c; cases c) L3
    exact (B1.up fun b hb => .inl hb).trans (B3.up fun b hb => .inl hb)
theorem Apart_round {cl : List (Nat × Clo)} {rn : List (Nat × Rnd)} {D0 : DD} (h1 : lkA cl n_bound_From_1 = some f_bound_From_1) (h2 : lkA rn 82468377 = some r0_scope_Of) (h3 : lkA cl n_scope_All_1 = some f_scope_All_1) (h5 : lkA rn 23525095 = some r0_0_scope_Apart)
    {Q : HV → Heap → Prop} {H0 H : Heap} {b3 b4 b1 lp : Nat} {t s : Sl} {q : List Ins} {S : Sco} {j : Nat} {ws : List (Nat × HV)} (hws : ws = [(3, .ptr (some (b3, 0))), (4, .ptr (some (b4, 0)))])
    (hL : Loc H0 H (AM b3 b4 b1 t s lp ws .ready none)) (ht : RProg H0 t q) (hg : ∀ x ∈ q, IFit x) (hq : CanB q)
    (h : ∀ H', But (fun b => b = lp ∨ b = b4) H H' → (Hit q S → Loc H0 H' (AM b3 b4 b1 t s lp ws .done (some .ret)) → Q (.bool false) H') ∧ (¬ Hit q S → Loc H0 H' (AM b3 b4 b1 t s lp ws .ready none) → Q (.bool true) H')) :
    wp (r0_scope_Apart (stepD cl rn (stepD cl rn (stepD cl rn D0))) lp ws [I j, .agg S.cells]) (PRnd lp Q) H := by
  unfold r0_scope_Apart
  subst hws
  refine wp_gdS rfl ?_
  show wp (uP [.ptr (some (b3, 0)), .ptr (some (b4, 0))] _) _ _
  refine step ?_
  generalize hws : [((3 : Nat), HV.ptr (some (b3, 0))), (4, .ptr (some (b4, 0)))] = ws at *
  refine wp_nwP hL fun H1 b6 e6 L1 K1 => step ⟨rfl, ?_⟩
  refine wp_stNP 4 L1 rfl (by simp [Sco.cells]) fun H2 L2 B2 => ?_
  rw [show putN [.int .u8 0, .int .u8 0, .int .u8 0, .int .u8 0, .int .u8 0, .int .u8 0, .bool false, .bool false, .bool false, .bool false, .bool false, .bool false, .bool false, .bool false, .bool false] 0 S.cells = S.cells from rfl] at L2
  refine wp_busyP 3 L2 rfl fun H3 L3 B3 => step ?_
  refine wp_ldP 0 L3 rfl rfl (step (wp_bnd (scope_All_wp ?_)))
  have L4 := L3.push (.cells [.sl t] false)
  have K4 := Keeps.push H3 (.cells [.sl t] false)
  have e7 : H3.n = H3.n := rfl
  generalize H3.push (.cells [.sl t] false) = H4 at L4 K4
  generalize H3.n = b7 at L4 e7
  refine wp_ny (wp_nwLP L4 fun H5 l1 el L5 K5 => ?_)
  generalize hus : [((4 : Nat), HV.ptr (some (b4, 0))), (6, .ptr (some (b6, 0)))] = us at *
  replace L5 : Loc H0 H5 (AI b3 b4 b1 t s lp ws b6 b7 S l1 us .ready none) := L5
  have n1 := K1.n; have n2 := B2.n; have n3 := B3.n; have n4 := K4.n; have n5 := K5.n
  have B5 : But (fun b => (b = lp ∨ b = b4) ∨ H.n ≤ b) H H5 :=
    (((K1.but).trans (B2.up fun b hb => .inr (by omega))).trans (B3.up fun b hb => .inl (.inl hb))).trans ((K4.but).trans K5.but)
  have hnm : ∀ {i j : Nat} {x y : Nat} {o o'}, (AI b3 b4 b1 t s lp ws b6 b7 S l1 us .ready none)[i]? = some (x, o) → (AI b3 b4 b1 t s lp ws b6 b7 S l1 us .ready none)[j]? = some (y, o') → i ≠ j → x ≠ y := fun h1 h2 hne e => by
    subst e; exact hne (nodup_fst L5.nd h1 h2)
  have hge : H0.n ≤ b4 := L5.ge (i := 1) rfl
  have hge1 : H0.n ≤ l1 := L5.ge (i := 6) rfl
  have htM : ∀ b o, t.p = some (b, o) → ¬ (b = l1 ∨ b = b4) := fun b o e hh => by have := RProg.lt' ht e; omega
  refine wp_bnd (wp_clo h3 ?_)
  refine wp.mono (scope_All_1_wp h1 h2 (Mo := fun b => b = l1 ∨ b = b4)
    (J := fun j H' => Loc H0 H' (AI b3 b4 b1 t s lp ws b6 b7 S l1 us .ready none) ∧ Free q S j)
    (X := fun H' => Loc H0 H' (AI b3 b4 b1 t s lp ws b6 b7 S l1 us .done (some .ret)) ∧ Hit q S) (L5.get (i := 5) rfl) (L5.lt (i := 5) rfl) ?_ (ht.keeps L5.k) htM hg
    (fun j _ _ hk ⟨a, b⟩ => ⟨a.keeps hk, b⟩) ⟨L5, fun _ h => by omega⟩ (fun j _ _ hn ⟨a, b⟩ => ⟨a, b.skip (fun _ => hn) hq⟩) ?_) ?_
  · rintro (e | e)
    · exact hnm (i := 5) (j := 6) rfl rfl (by omega) e
    · exact hnm (i := 5) (j := 1) rfl rfl (by omega) e
  · rintro j H' e S' hj _ he hS' hb ⟨q1, q2⟩
    refine wp_rnd (q1.get (i := 6) rfl) h5 (Apart_inner hus.symm q1 fun H'' hb'' => ⟨fun hc hL => ⟨hb'', .inr ⟨rfl, hL, _, _, _, he, hS', hc⟩⟩, fun hc hL => ⟨hb'', .inl ⟨rfl, hL, q2.add he hS' hc⟩⟩⟩)
  · rintro _ H6 ⟨B6, ⟨q1, q2⟩ | ⟨q1, q2⟩⟩
    · refine wp_endP 6 q1 rfl (by simp) fun H7 L7 B7 => wp_nYP 3 L7 rfl fun H8 L8 B8 => (h _ (But.old ?_)).2 q2.not_hit (L8.take 4)
      exact ((B5.trans (B6.up fun b hb => by rcases hb with hb | hb; exact .inr (by omega); exact .inl (.inr hb))).trans (B7.up fun b hb => .inr (by omega))).trans (B8.up fun b hb => .inl (.inl hb))
    · refine wp_endPr 6 q1 rfl (by simp) fun H7 L7 B7 => wp_rYP 3 L7 rfl fun H8 L8 B8 => (h _ (But.old ?_)).1 q2 (L8.take 4)
      exact ((B5.trans (B6.up fun b hb => by rcases hb with hb | hb; exact .inr (by omega); exact .inl (.inr hb))).trans (B7.up fun b hb => .inr (by omega))).trans (B8.up fun b hb => .inl (.inl hb))
theorem scope_Apart_wp {cl : List (Nat × Clo)} {rn : List (Nat × Rnd)} {D0 : DD} (h1 : lkA cl n_bound_From_1 = some f_bound_From_1) (h2 : lkA rn 82468377 = some r0_scope_Of) (h3 : lkA cl n_scope_All_1 = some f_scope_All_1) (h4 : lkA rn 91524749 = some r0_scope_Apart) (h5 : lkA rn 23525095 = some r0_0_scope_Apart)
    {H : Heap} {Q : HV → Heap → Prop} {s t : Sl} {p q : List Ins} (hs : RProg H s p) (hf : ∀ x ∈ p, IFit x) (ht : RProg H t q) (hg : ∀ x ∈ q, IFit x) (h : ∀ (b : Bool) H', Keeps H H' → (b = true ↔ ApartP p q) → Q (.bool b) H') :
    wp (f_scope_Apart (stepD cl rn (stepD cl rn (stepD cl rn (stepD cl rn (stepD cl rn D0))))) [.sl s, .sl t]) Q H := by
  unfold f_scope_Apart
  refine step ?_
  refine wp_nwP (Loc.nil H) fun H1 b3 _ L1 _ => ?_
  refine wp_nwP L1 fun H2 b4 _ L2 _ => ?_
  refine wp_jn (wp.mono (Q := fun lf H' => ∃ z : Bool, lf = .norm [.bool z] ∧ (z = true ↔ ¬ (CanB p ∧ CanB q)) ∧ Loc H H' [(b3, .cells [.sl t] false), (b4, .cells [.bool false] false)]) ?_ ?_)
  · refine wp_bnd (bound_Most_wp (hs.keeps L2.k) hf (fun hp b H3 k3 _ _ => step ⟨fun e => ?_, fun _ => ?_⟩) (fun hp H3 k3 => step ⟨fun _ => wp_ret ⟨true, rfl, by simp [hp], L2.keeps k3⟩, fun e => absurd rfl e⟩))
    · simp only [numSl] at e; omega
    · have L3 := L2.keeps k3
      refine wp_ldP 0 L3 rfl rfl (step (wp_bnd (bound_Most_wp (ht.keeps L3.k) hg (fun hq b H4 k4 _ _ => step (wp_ret ⟨_, rfl, ?_, L3.keeps k4⟩)) (fun hq H4 k4 => step (wp_ret ⟨_, rfl, by simp [hq], L3.keeps k4⟩)))))
      simp only [hp, hq, numSl, and_self, not_true, iff_false, beq_iff_eq]; omega
  rintro _ H3 ⟨z, rfl, hz, L3⟩
  show wp _ _ _
  refine step ⟨fun c => ?_, fun c => ?_⟩
  · refine wp_stP 1 L3 rfl (by simp) rfl fun H4 L4 _ => wp_ldP 1 L4 rfl rfl (step (h _ _ L4.k ⟨fun e => (by cases e), fun hA => absurd ⟨hA.1, hA.2.1⟩ (hz.1 c)⟩))
  obtain ⟨hp, hq⟩ : CanB p ∧ CanB q := Classical.not_not.1 fun hh => by rw [hz.2 hh] at c; cases c
  refine wp_bnd (scope_All_wp ?_)
  have L4 := L3.push (.cells [.sl s] false)
  generalize H3.push (.cells [.sl s] false) = H4 at L4
  generalize H3.n = b1 at L4
  refine wp_blk (wp_ny (wp_nwLP L4 fun H5 lp _ L5 _ => ?_))
  generalize hws : [((3 : Nat), HV.ptr (some (b3, 0))), (4, .ptr (some (b4, 0)))] = ws at *
  replace L5 : Loc H H5 (AM b3 b4 b1 t s lp ws .ready none) := L5
  have hnm : ∀ {i j : Nat} {x y : Nat} {o o'}, (AM b3 b4 b1 t s lp ws .ready none)[i]? = some (x, o) → (AM b3 b4 b1 t s lp ws .ready none)[j]? = some (y, o') → i ≠ j → x ≠ y := fun h1 h2 hne e => by
    subst e; exact hne (nodup_fst L5.nd h1 h2)
  have hge : H.n ≤ b4 := L5.ge (i := 1) rfl
  have hge1 : H.n ≤ lp := L5.ge (i := 3) rfl
  refine wp_bnd (wp_clo h3 ?_)
  refine wp.mono (scope_All_1_wp h1 h2 (Mo := fun b => b = lp ∨ b = b4)
    (J := fun j H' => Loc H H' (AM b3 b4 b1 t s lp ws .ready none) ∧ FreeN p q j)
    (X := fun H' => Loc H H' (AM b3 b4 b1 t s lp ws .done (some .ret)) ∧ ¬ ApartP p q) (L5.get (i := 2) rfl) (L5.lt (i := 2) rfl) ?_ (hs.keeps L5.k) (fun b o e hh => by have := RProg.lt' hs e; omega) hf
    (fun j _ _ hk ⟨a, b⟩ => ⟨a.keeps hk, b⟩) ⟨L5, fun _ h => by omega⟩ (fun j _ _ hn ⟨a, b⟩ => ⟨a, b.skip hn hp⟩) ?_) ?_
  · rintro (e | e)
    · exact hnm (i := 2) (j := 3) rfl rfl (by omega) e
    · exact hnm (i := 2) (j := 1) rfl rfl (by omega) e
  · rintro j H' e S hj _ he hS hb ⟨q1, q2⟩
    refine wp_rnd (q1.get (i := 3) rfl) h4 (Apart_round h1 h2 h3 h5 hws.symm q1 ht hg hq fun H'' hb'' => ⟨fun hc hL => ⟨hb'', .inr ⟨rfl, hL, fun hA => hA.2.2 j hj e S he hS hc⟩⟩, fun hc hL => ⟨hb'', .inl ⟨rfl, hL, q2.add he hS hc⟩⟩⟩)
  · rintro _ H6 ⟨_, ⟨q1, q2⟩ | ⟨q1, q2⟩⟩
    · exact wp_endP 3 q1 rfl (by simp) fun H7 L7 _ => step (wp_stP 1 L7 rfl (by simp) rfl fun H8 L8 _ => wp_ldP 1 L8 rfl rfl (step (h _ _ L8.k ⟨fun _ => ⟨hp, hq, q2⟩, fun _ => rfl⟩)))
    · exact wp_endPr 3 q1 rfl (by simp) fun H7 L7 _ => wp_ldP 1 L7 rfl rfl (step (h _ _ L7.k ⟨fun e => (by cases e), fun hA => absurd hA q2⟩))
theorem law28_ScopeClash_wp {cl : List (Nat × Clo)} {rn : List (Nat × Rnd)} {D0 : DD} (h1 : lkA cl n_bound_From_1 = some f_bound_From_1) (h2 : lkA rn 82468377 = some r0_scope_Of) (h3 : lkA cl n_scope_All_1 = some f_scope_All_1) (h4 : lkA rn 91524749 = some r0_scope_Apart) (h5 : lkA rn 23525095 = some r0_0_scope_Apart)
    {H : Heap} {s t : Sl} {p q : List Ins} (hs : RProg H s p) (hf : ∀ x ∈ p, IFit x) (ht : RProg H t q) (hg : ∀ x ∈ q, IFit x) (S S' : Sco) :
    wp (f_law28_ScopeClash (stepD cl rn (stepD cl rn (stepD cl rn (stepD cl rn (stepD cl rn D0))))) [.agg S.cells, .agg S'.cells, .sl s, .sl t]) Yes H := by
  unfold f_law28_ScopeClash
  refine step (wp_bnd (law28_alive_wp h1 h2 fun H1 k1 => step ?_))
  refine wp_gxAl rfl (wp_bnd (law28_plain_wp (step ?_)))
  refine wp_gxAl rfl (wp_bnd (law28_plain_wp (step ?_)))
  refine wp_bnd (ref28_Clash_wp fun z hz => step ?_)
  refine wp_jn (wp_gxAl rfl (wp_gxAl rfl (wp_bnd (scope_Clash_wp (S := S) (S' := S') fun z2 hz2 => step ?_))))
  have e1 : z2 = z := by rw [Bool.eq_iff_iff, hz2, hz]
  refine ⟨fun _ => ?_, fun e => by rw [e1] at e; simp at e⟩
  refine wp_gxAl rfl (wp_gxAl rfl (wp_bnd (scope_Clash_wp (S := S') (S' := S) fun z3 hz3 => step ?_)))
  have e2 : z3 = z := by rw [Bool.eq_iff_iff, hz3, hz, clP_symm]
  refine ⟨fun _ => ?_, fun e => by rw [e2] at e; simp at e⟩
  refine wp_bnd (scope_Apart_wp h1 h2 h3 h4 h5 (hs.keeps k1) hf (ht.keeps k1) hg fun a H2 k2 ha => step ?_)
  have k12 := k1.trans k2
  refine wp_bnd (ref28_Apart_wp (hs.keeps k12) (ht.keeps k12) fun b hb => step ?_)
  have e3 : a = b := by rw [Bool.eq_iff_iff, ha, hb]
  refine ⟨fun _ => ?_, fun e => by rw [e3] at e; simp at e⟩
  refine wp_bnd (scope_Apart_wp h1 h2 h3 h4 h5 (hs.keeps k12) hf (ht.keeps k12) hg fun a2 H3 k3 ha2 => step ?_)
  have k123 := k12.trans k3
  refine wp_bnd (scope_Apart_wp h1 h2 h3 h4 h5 (ht.keeps k123) hg (hs.keeps k123) hf fun a3 H4 k4 ha3 => step ?_)
  have e4 : a2 = a3 := by rw [Bool.eq_iff_iff, ha2, ha3, apart_symm]
  show HV.bool _ = _
  simp [e4]
end Go.Proofs.Ytijppadieomnjaa.HT
