/- law27.BoundReach, walked. Conditions: none but what came in. -/
import Derived.Test.YtolchnaegifckaaHSPc
import Derived.Test.YtolchnaegifckaaHSMw
namespace Go.Proofs.Ytolchnaegifckaa.HS
open Go

theorem But.up {M M' : Nat → Prop} {H H' : Heap} (h : But M H H') (hm : ∀ b, M b → M' b) : But M' H H' := ⟨h.n, fun b hb hn => h.get b hb fun hh => hn (hm b hh)⟩
/-- how many places below j ways lead to. -/
noncomputable def rchN (p : List Ins) (a : Nat) : Nat → Nat
  | 0 => 0
  | j + 1 => rchN p a j + (open Classical in if Rch p a j then 1 else 0)
section
variable {p : List Ins} {a j : Nat}
theorem rchN_yes (h : Rch p a j) : rchN p a (j + 1) = rchN p a j + 1 := by simp [rchN, h]
theorem rchN_no (h : ¬ Rch p a j) : rchN p a (j + 1) = rchN p a j := by simp [rchN, h]
theorem rchN_le (p : List Ins) (a : Nat) : ∀ j, rchN p a j ≤ j
  | 0 => Nat.le_refl _
  | j + 1 => by
    have := rchN_le p a j
    by_cases h : Rch p a j
    · rw [rchN_yes h]; omega
    · rw [rchN_no h]; omega
theorem rchN_far (hc : CanB p) (ha : a ≤ p.length) : ∀ m, rchN p a (p.length + 1 + m) = rchN p a (p.length + 1)
  | 0 => rfl
  | m + 1 => by
    rw [show p.length + 1 + (m + 1) = p.length + 1 + m + 1 by omega, rchN_no (fun h => by have := rch_le hc ha h; omega), rchN_far hc ha m]
end
theorem bound_From_1_wpN {D : DD} {Q : HV → Heap → Prop} {H : Heap} {y : HV} {b b' : Nat} {s : Sl} {p : List Ins} {a : Int} (hb : H.get b = .cells [.sl s] false) (hb' : H.get b' = .cells [I a] false) (hbn : b < H.n) (hbn' : b' < H.n) (hs : RProg H s p) (hf : ∀ x ∈ p, IFit x)
    (hn : ¬ (CanB p ∧ 0 ≤ a ∧ a ≤ p.length)) (h : ∀ H', Keeps H H' → Q (.tup []) H') : wp (f_bound_From_1 D [y, .ptr (some (b, 0)), .ptr (some (b', 0))]) Q H := by
  unfold f_bound_From_1
  have hlen := hs.lenI
  refine step (wp_jn (step ?_))
  refine wp_ldCg hb rfl (wp_asSl (wp_bnd (bound_can_wp hs hf fun z H1 hk1 hz => wp_asB ?_)))
  have g1 : H1.get b = .cells [.sl s] false := by rw [hk1.get b hbn]; exact hb
  have g2 : H1.get b' = .cells [I a] false := by rw [hk1.get b' hbn']; exact hb'
  refine wp_condN (fun c => step (h _ hk1)) (fun c => step ?_)
  refine wp_ldCg g2 rfl (step ⟨fun c2 => h _ hk1, fun c2 => ?_⟩)
  refine wp_ldCg g2 rfl (step ?_)
  refine wp_ldCg g1 rfl (step ⟨fun _ => h _ hk1, fun c3 => absurd ⟨hz.1 c, by omega, by omega⟩ hn⟩)
theorem bound_From_wpL {D : DD} {H0 H : Heap} {l : List (Nat × HObj)} {Q : HV → Heap → Prop} {s : Sl} {a : Int} (hL : Loc H0 H l)
    (h : ∀ H' m, Loc H0 H' (l ++ [(m, .cells [.sl s] false)] ++ [(m + 1, .cells [I a] false)]) → Keeps H H' → Q (.func n_bound_From_1 [] [.ptr (some (m, 0)), .ptr (some (m + 1, 0))]) H') : wp (f_bound_From D [.sl s, I a]) Q H :=
  bound_From_wp (h _ _ ((hL.push _).push _) ((Keeps.push _ _).trans (Keeps.push _ _)))
theorem bound_Reach_wp2 {D : HV → List HV → M HV} {H : Heap} {Q : HV → Heap → Prop} {s : Sl} {p : List Ins} (hs : RProg H s p) (hf : ∀ x ∈ p, IFit x)
    (h : ∀ t H', Keeps H H' → (CanB p → RBools H' t (reachL p)) → (¬ CanB p → t.len = 0) → Q (.sl t) H') : wp (f_bound_Reach D [.sl s]) Q H := by
  by_cases hc : CanB p
  · exact bound_Reach_wp hs hf hc fun t H' hk _ hr => h t H' hk (fun _ => hr) (fun hh => absurd hc hh)
  · exact bound_Reach_wpN hs hf hc fun H' hk => h _ H' hk (fun hh => absurd hh hc) (fun _ => rfl)
/-- what the law keeps in memory. -/
def RM (b8 b9 b10 m : Nat) (s : Sl) (a : Int) (lp : Nat) (ws : List (Nat × HV)) (c last : Int) (Lw : List Bool) (st : LoopState) (pd : Option Code) : List (Nat × HObj) :=
  [(b8, .cells [I c] false), (b9, .cells [I last] false), (b10, .cells (Lw.map HV.bool) false), (m, .cells [.sl s] false), (m + 1, .cells [I a] false), (lp, .loop 69661462 ws st pd)]
theorem BoundReach_round {D : DD} {Q : HV → Heap → Prop} {H0 H : Heap} {lp b3 b5 b6 b8 b9 b10 m : Nat} {s : Sl} {p : List Ins} {k c last a : Int} {j : Nat} {Lw : List Bool} {ws : List (Nat × HV)}
    (hws : ws = [(3, .ptr (some (b3, 0))), (5, .ptr (some (b5, 0))), (6, .ptr (some (b6, 0))), (8, .ptr (some (b8, 0))), (9, .ptr (some (b9, 0))), (10, .ptr (some (b10, 0)))])
    (hL : Loc H0 H (RM b8 b9 b10 m s a lp ws c last Lw .ready none)) (g3 : ∀ {H'}, Keeps H0 H' → H'.get b3 = .cells [.sl s] false) (g5 : ∀ {H'}, Keeps H0 H' → H'.get b5 = .cells [I k] false)
    (hlen : (s.len : Int) = p.length) (h48 : p.length ≤ 48) (hlast : last < j) (hj : j ≤ p.length) (hw : (Lw.map HV.bool)[j]? = some (.bool true)) (hc0 : 0 ≤ c ∧ c ≤ 1000)
    (h : ∀ H', But (fun b => b = lp ∨ b = b8 ∨ b = b9) H H' → (c + 1 = k → Loc H0 H' (RM b8 b9 b10 m s a lp ws (c + 1) j Lw .done (some (.exit 2))) → Q (.bool false) H') ∧ (c + 1 ≠ k → Loc H0 H' (RM b8 b9 b10 m s a lp ws (c + 1) j Lw .ready none) → Q (.bool true) H')) :
    wp (r1_law27_BoundReach D lp ws [I j]) (PRnd lp Q) H := by
  unfold r1_law27_BoundReach
  subst hws
  refine wp_gdS rfl ?_
  show wp (uP [.ptr (some (b3, 0)), .ptr (some (b5, 0)), .ptr (some (b6, 0)), .ptr (some (b8, 0)), .ptr (some (b9, 0)), .ptr (some (b10, 0))] _) _ _
  refine step ?_
  generalize hws : [((3 : Nat), HV.ptr (some (b3, 0))), (5, .ptr (some (b5, 0))), (6, .ptr (some (b6, 0))), (8, .ptr (some (b8, 0))), (9, .ptr (some (b9, 0))), (10, .ptr (some (b10, 0)))] = ws at *
  refine wp_busyP 5 hL rfl fun H1 L1 B1 => ?_
  refine wp_jnP False (step ?_) (fun hh => hh.elim) (fun _ => step ?_)
  · refine wp_ldP 1 L1 rfl rfl (step ⟨fun c => by omega, fun _ => ?_⟩)
    refine wp_ldCg (g3 L1.k) rfl (step ⟨fun c => by omega, fun _ => ⟨by omega, by omega, ?_⟩⟩)
    refine wp_ldP 2 L1 rfl (v := .bool true) (by rw [show 0 + (j : Int).toNat * 1 = j by omega]; exact hw) (step ?_)
    simp
  · refine wp_stP 1 L1 rfl (by simp) rfl fun H2 L2 B2 => step ?_
    refine wp_ldP 0 L2 rfl rfl (step ?_)
    refine wp_stP 0 L2 rfl (by simp) rfl fun H3 L3 B3 => step ?_
    refine wp_ldP 0 L3 rfl rfl (step ?_)
    rw [wr_small (by omega) (by omega)] at *
    refine wp_ldCg (g5 L3.k) rfl (step ⟨fun e => ?_, fun e => ?_⟩)
    · refine wp_xYP 5 L3 rfl fun H4 L4 B4 => (h _ ?_).1 e L4
      exact ((B1.up (by intro b hb; exact .inl hb)).trans (B2.up (by intro b hb; exact .inr (.inr hb)))).trans ((B3.up (by intro b hb; exact .inr (.inl hb))).trans (B4.up (by intro b hb; exact .inl hb)))
    · refine wp_nYP 5 L3 rfl fun H4 L4 B4 => (h _ ?_).2 e L4
      exact ((B1.up (by intro b hb; exact .inl hb)).trans (B2.up (by intro b hb; exact .inr (.inr hb)))).trans ((B3.up (by intro b hb; exact .inr (.inl hb))).trans (B4.up (by intro b hb; exact .inl hb)))
theorem law27_BoundReach_wp {cl : List (Nat × Clo)} {rn : List (Nat × Rnd)} {D0 : DD} (h1 : lkA cl n_bound_From_1 = some f_bound_From_1) (h2 : lkA rn 69661462 = some r1_law27_BoundReach) {H : Heap} {s : Sl} {p : List Ins} (hs : RProg H s p) (hf : ∀ x ∈ p, IFit x) (a k : Int) :
    wp (f_law27_BoundReach (stepD cl rn (stepD cl rn D0)) [.sl s, I a, I k]) Yes H := by
  unfold f_law27_BoundReach
  have hlen := hs.lenI
  refine step ?_
  refine wp_nwP (Loc.nil H) fun Ha b3 e3 La ka => ?_
  refine wp_nwP La fun Hb b5 e5 Lb kb => ?_
  refine wp_nwP Lb fun Hc b6 e6 Lc kc => ?_
  refine wp_bnd (law27_alive_wp fun H1 hk1 => step ?_)
  have L1 := Lc.keeps hk1
  refine wp_ldP 0 L1 rfl rfl (step ?_)
  refine wp_bnd (bound_Reach_wp2 (hs.keeps L1.k) hf fun t H2 hk2 hr hr0 => step ?_)
  have L2 := L1.keeps hk2
  have hs2 := hs.keeps L2.k
  have g3 : ∀ {H'}, Keeps H2 H' → H'.get b3 = .cells [.sl s] false := fun k => by rw [k.get _ (L2.lt (i := 0) rfl)]; exact L2.get (i := 0) rfl
  have g5 : ∀ {H'}, Keeps H2 H' → H'.get b5 = .cells [I k] false := fun k => by rw [k.get _ (L2.lt (i := 1) rfl)]; exact L2.get (i := 1) rfl
  have g6 : ∀ {H'}, Keeps H2 H' → H'.get b6 = .cells [.bool false] false := fun k => by rw [k.get _ (L2.lt (i := 2) rfl)]; exact L2.get (i := 2) rfl
  clear L2 L1 Lc Lb La ka kb kc hk1 hk2
  refine wp_nwP (Loc.nil H2) fun H3 b8 e8 L3 k3 => ?_
  refine wp_nwP L3 fun H4 b9 e9 L4 k4 => ?_
  refine wp_stP 0 L4 rfl (by simp) rfl fun H5 L5 _ => ?_
  refine wp_stP 1 L5 rfl (by simp) rfl fun H6 L6 _ => ?_
  clear k3 k4 L3 L4 L5
  refine wp_jnP (¬ (CanB p ∧ 0 ≤ a ∧ a ≤ p.length)) ?_ (fun hh => ?_) (fun hh => ?_)
  · refine wp_ldCg (g3 L6.k) rfl (step (wp_bnd (ref27_Can_wp (hs2.keeps L6.k) fun z hz => step ⟨fun c => ?_, fun c => ⟨fun c1 => ?_, fun c1 => ?_⟩⟩)))
    · exact ⟨fun _ hh => (by rw [hz.2 hh.1] at c; cases c), fun _ => rfl⟩
    · exact ⟨fun _ hh => (by omega), fun _ => rfl⟩
    · refine wp_ldCg (g3 L6.k) rfl (step ?_)
      rw [decide_eq_true_eq, hlen]
      exact ⟨fun _ hh => by omega, fun hh => Classical.byContradiction fun h2 => hh ⟨hz.1 c, by omega, by omega⟩⟩
  · refine step ?_
    refine wp_ldCg (g3 L6.k) rfl (step (wp_bnd (bound_From_wpL L6 fun H7 m L7 _ => ?_)))
    refine wp_blk (wp_ny (wp_nwLP L7 fun H8 lp el L8 k8 => ?_))
    refine wp_bnd (wp_clo h1 ?_)
    refine bound_From_1_wpN (L8.get (i := 2) rfl) (L8.get (i := 3) rfl) (L8.lt (i := 2) rfl) (L8.lt (i := 3) rfl) (hs2.keeps L8.k) hf hh fun H9 k9 => ?_
    refine wp_endP 4 (L8.keeps k9) rfl (by simp) fun H10 L10 _ => step (wp_jn ?_)
    refine wp_ldCg (g3 L10.k) rfl (step (wp_bnd (ref27_Can_wp (hs2.keeps L10.k) fun z hz => step ⟨fun c => ?_, fun c => ?_⟩)))
    · refine wp_stC (g6 L10.k) (by simp) rfl (step (wp_ldCg (cs := [.bool true]) (ro := false) (by simp [Heap.set]) rfl (step rfl)))
    · have h0 : t.len = 0 := hr0 fun hc => by rw [hz.2 hc] at c; cases c
      refine wp_stC (g6 L10.k) (by simp) rfl (step (wp_ldCg (cs := [.bool true]) (ro := false) ?_ rfl (step rfl)))
      simp [Heap.set, h0]
  · obtain ⟨hc, a0, a1⟩ := Classical.not_not.1 hh
    obtain ⟨i, rfl⟩ : ∃ i : Nat, a = i := ⟨a.toNat, by omega⟩
    have ha : i ≤ p.length := by omega
    have h48 := hc.len
    replace hr := hr hc
    have hrl := hr.lenI
    rw [reachL_len] at hrl
    refine step (wp_ldCg (g3 L6.k) rfl (step (wp_bnd (ref27_Seen_wp (hs2.keeps L6.k) hc ha fun Lw hwl hwg => step ?_))))
    refine wp_ldCg (g3 L6.k) rfl (step (wp_bnd (ref27_Seen_wp (a := 0) (hs2.keeps L6.k) hc (by omega) fun Lf hfl hfg => step ?_)))
    have hwm : (Lw.map HV.bool).length = 49 := by simpa using hwl
    have hfm : (Lf.map HV.bool).length = 49 := by simpa using hfl
    refine ⟨by rw [hwm]; rfl, by rw [hwm]; rfl, by rw [hfm]; rfl, by rw [hfm]; rfl, by simp, ?_⟩
    rw [putN_full (by rw [hwm]; rfl), putN_full (by rw [hfm]; rfl)]
    refine wp_nwP L6 fun H7 b10 e10 L7 k7 => ?_
    refine wp_ldCg (g3 L7.k) rfl (step (wp_bnd (bound_From_wpL L7 fun H8 m L8 _ => ?_)))
    refine wp_blk (wp_ny (wp_nwLP L8 fun H9 lp el L9 k9 => ?_))
    generalize hws : [((3 : Nat), HV.ptr (some (b3, 0))), (5, .ptr (some (b5, 0))), (6, .ptr (some (b6, 0))), (8, .ptr (some (b8, 0))), (9, .ptr (some (b9, 0))), (10, .ptr (some (b10, 0)))] = ws at *
    replace L9 : Loc H2 H9 (RM b8 b9 b10 m s i lp ws 0 (-1) Lw .ready none) := L9
    have sl := seenL_len p i
    refine wp.mono (Q := fun lf H' => (lf = .norm [] ∨ lf = .exit 2 []) ∧ ∃ c last pd, Loc H2 H' (RM b8 b9 b10 m s i lp ws c last Lw .exhausted pd) ∧ (c = k ∨ c = (rchN p i (p.length + 1) : Int))) ?_ ?_
    · refine wp_bnd (wp_clo h1 ?_)
      refine wp.mono (bound_From_1_wp (Mo := fun b => b = lp ∨ b = b8 ∨ b = b9)
        (J := fun j H' => ∃ last, Loc H2 H' (RM b8 b9 b10 m s i lp ws (rchN p i j : Int) last Lw .ready none) ∧ last < (j : Int))
        (X := fun H' => ∃ last, Loc H2 H' (RM b8 b9 b10 m s i lp ws k last Lw .done (some (.exit 2)))) (L9.get (i := 3) rfl) (L9.get (i := 4) rfl) (L9.lt (i := 3) rfl) (L9.lt (i := 4) rfl) (hs2.keeps L9.k) hf hc ha ?_ ?_ ?_ ?_) ?_
      · rintro b (rfl | rfl | rfl)
        · exact L9.lt (i := 5) rfl
        · exact L9.lt (i := 0) rfl
        · exact L9.lt (i := 1) rfl
      · exact fun H' hk' => ⟨-1, L9.keeps hk', by omega⟩
      · rintro j H' hj hbj ⟨last, q2, q3⟩
        refine ⟨last, ?_, by omega⟩
        rw [rchN_no (fun hR => by rw [(seenL_get hj).2 hR] at hbj; cases hbj)]; exact q2
      · rintro j H' hj hbj hbut ⟨last, q2, q3⟩
        have hR := (seenL_get hj).1 hbj
        have hn := rchN_le p i j
        have hjl : j ≤ p.length := by omega
        refine wp_rnd (q2.get (i := 5) rfl) h2 (BoundReach_round (p := p) hws.symm q2 g3 g5 hlen h48 q3 hjl ?_ ⟨by omega, by omega⟩ fun H'' hb'' => ⟨fun e hL => ⟨hb'', .inr ⟨rfl, j, by rw [e] at hL; exact hL⟩⟩, fun e hL => ⟨hb'', .inl ⟨rfl, j, ?_, by omega⟩⟩⟩)
        · have hjw : j < Lw.length := by omega
          have := (hwg j).2 hR
          rw [List.getD_eq_getElem?_getD, List.getElem?_eq_getElem hjw] at this
          rw [List.getElem?_map, List.getElem?_eq_getElem hjw]
          simp only [Option.getD_some] at this
          rw [this]; rfl
        · rw [rchN_yes hR]; exact hL
      · rintro _ H' ⟨_, ⟨last, q, _⟩ | ⟨last, q⟩⟩
        · exact wp_endP 5 q rfl (by simp) fun H'' q' _ => wp_ret ⟨.inl rfl, _, last, _, q', .inr rfl⟩
        · exact wp_endPx 5 q rfl (by simp) fun H'' q' _ => wp_onX (wp_ret ⟨.inr rfl, _, last, _, q', .inl rfl⟩)
    · rintro lf H10 ⟨hlf, c, last, pd, L10, hcc⟩
      have e49 : rchN p i 49 = rchN p i (p.length + 1) := by
        have := rchN_far hc ha (48 - p.length)
        rwa [show p.length + 1 + (48 - p.length) = 49 by omega] at this
      rcases hlf with rfl | rfl
      all_goals
        show wp _ _ _
        refine step (wp_ldNP 2 L10 rfl (by rw [hwm]; exact Nat.le_refl _) ?_)
        rw [List.drop_zero, List.take_of_length_le (by omega)]
        refine wp_for (σ := Int) 49 (by omega) rfl (fun c i => [I c, I i]) (out := fun c => [I c]) (fun _ _ => rfl) rfl (fun j c H' => H' = H10 ∧ c = (rchN p i j : Int)) 0 rfl ⟨rfl, rfl⟩ ?_ ?_
        · rintro j c1 H' hj ⟨rfl, rfl⟩
          have hn := rchN_le p i j
          have hx : (Lw.map HV.bool)[(j : Int).toNat * 1]? = some (.bool (Lw.getD j false)) := by
            rw [show (j : Int).toNat * 1 = j by omega, List.getElem?_map, List.getElem?_eq_getElem (by omega), List.getD_eq_getElem?_getD, List.getElem?_eq_getElem (by omega)]; rfl
          refine wp_blk (step ⟨by omega, by omega, wp_gxg hx (step ⟨fun e => ?_, fun e => ?_⟩)⟩)
          · refine wp_nR ⟨_, rfl, rfl, ?_⟩
            rw [rchN_yes ((hwg j).1 e), wr_small (by omega) (by omega)]; rfl
          · refine wp_nR ⟨_, rfl, rfl, ?_⟩
            rw [rchN_no (fun hR => by rw [(hwg j).2 hR] at e; cases e)]
        · rintro c1 H' ⟨rfl, rfl⟩
          refine step (wp_loop0 p.length (by omega) hrl (fun _ => rfl) rfl (fun _ => True) trivial ?_ ?_)
          · intro j hj _
            refine wp_jnP False ?_ (fun hh => hh.elim) (fun _ => step trivial)
            refine wp_ldCg (g3 L10.k) rfl (step ⟨fun c => by omega, fun _ => ?_⟩)
            have hjr : j < (reachL p).length := by rw [reachL_len]; exact hj
            refine wp_atB (hr.keeps L10.k) hjr fun b o => step ⟨by omega, by omega, ?_⟩
            have hfj : Lf.getD j false = (reachL p)[j] := by rw [Bool.eq_iff_iff, hfg, reachL_get hjr]
            have hx : (Lf.map HV.bool)[0 + (j : Int).toNat * 1]? = some (.bool (Lf.getD j false)) := by
              rw [show 0 + (j : Int).toNat * 1 = j by omega, List.getElem?_map, List.getElem?_eq_getElem (by omega), List.getD_eq_getElem?_getD, List.getElem?_eq_getElem (by omega)]; rfl
            refine wp_gxg hx (step ?_)
            rw [hfj]; simp
          · intro _
            refine step (wp_jn (wp_ldCg (g3 L10.k) rfl (step ⟨fun _ => ?_, fun c => by omega⟩)))
            refine wp_ldP 0 L10 rfl rfl (step (wp_ldCg (g5 L10.k) rfl (step ⟨fun e => ?_, fun e => ?_⟩)))
            · exact wp_stC (g6 L10.k) (by simp) rfl (step (wp_ldCg (cs := [.bool true]) (ro := false) (by simp [Heap.set]) rfl (step rfl)))
            · refine wp_ldP 0 L10 rfl rfl (step (wp_stC (g6 L10.k) (by simp) rfl (step (wp_ldCg (cs := [.bool true]) (ro := false) ?_ rfl (step rfl)))))
              have : c = (rchN p i 49 : Int) := by
                rcases hcc with h | h
                · exact absurd h e
                · rw [e49]; exact h
              simp [Heap.set, this]
end Go.Proofs.Ytolchnaegifckaa.HS
