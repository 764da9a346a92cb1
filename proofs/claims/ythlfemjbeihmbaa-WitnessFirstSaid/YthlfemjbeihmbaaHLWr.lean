/- What the functions of the law's texts compute: the reference's search. Conditions: none (lemmas). -/
import Derived.Test.YthlfemjbeihmbaaHLWq
namespace Go.Proofs.Ythlfemjbeihmbaa.HL
open Go
open Classical

/-- a block of a function's own, one cell an element. -/
structure Arr (H : Heap) (b : Nat) (w : List HV) : Prop where
  lt : b < H.n
  get : H.get b = .cells w false
  len : w.length ≤ 9223372036854775807
theorem Arr.besides {H H' : Heap} {b : Nat} {w : List HV} (h : Arr H b w) (hn : H.n ≤ H'.n) (hg : H'.get b = H.get b) : Arr H' b w := ⟨Nat.lt_of_lt_of_le h.lt hn, by rw [hg]; exact h.get, h.len⟩
theorem Arr.set {H : Heap} {b : Nat} {w : List HV} (h : Arr H b w) (i : Nat) (v : HV) : Arr (H.set b (.cells (w.set i v) false)) b (w.set i v) :=
  ⟨h.lt, by simp [Heap.set], by simpa using h.len⟩
section
variable {α : Type} {Q : α → Heap → Prop} {H : Heap}
theorem wp_arrget {b n : Nat} {w : List HV} (h : Arr H b w) {s : Sl} (hs : s = numSl b n) (hn : w.length = n) {i : Int} (h0 : 0 ≤ i) {v : HV} (hi : w[i.toNat]? = some v) {g : Nat → Nat → HV → M α} (hg : ∀ b o, wp (g b o v) Q H) :
    wp (ix s i 1 fun b o => ldC b o fun c => g b o c) Q H := by
  subst hs
  have hlt : i.toNat < w.length := (List.getElem?_eq_some_iff.1 hi).1
  unfold ix
  refine wp_gd (by simpa using h0) (wp_gd (decide_eq_true (by show i < (n : Int); omega)) ?_)
  show wp (mP (some (b, 0)) _) Q H
  rw [mP_eq']
  refine wp_of (m' := g b (0 + i.toNat * 1) v) (fun n => ?_) (hg _ _)
  unfold ldC
  simp only [h.get]
  unfold gx
  rw [Nat.zero_add, Nat.mul_one, hi]
theorem wp_arrset {b n : Nat} {w : List HV} (h : Arr H b w) {s : Sl} (hs : s = numSl b n) (hn : w.length = n) {i : Int} (h0 : 0 ≤ i) (hi : i.toNat < w.length) {v : HV} (hv : v.sc = true) {m : M α}
    (hm : Arr (H.set b (.cells (w.set i.toNat v) false)) b (w.set i.toNat v) → wp m Q (H.set b (.cells (w.set i.toNat v) false))) :
    wp (ix s i 1 fun b o => stC b o v m) Q H := by
  subst hs
  unfold ix
  refine wp_gd (by simpa using h0) (wp_gd (decide_eq_true (by show i < (n : Int); omega)) ?_)
  show wp (mP (some (b, 0)) _) Q H
  rw [mP_eq']
  refine wp_stC (o := 0 + i.toNat * 1) h.get (by omega) hv ?_
  rw [Nat.zero_add, Nat.mul_one]
  exact hm (h.set _ _)
end
/-- flags: who is of S. -/
noncomputable def flg (n : Nat) (S : List Nat) : List HV := (List.range n).map fun k => .bool (decide (k ∈ S))
theorem flg_len {n : Nat} {S : List Nat} : (flg n S).length = n := by simp [flg]
theorem flg_get {n k : Nat} {S : List Nat} (hk : k < n) : (flg n S)[k]? = some (.bool (decide (k ∈ S))) := by simp [flg, hk]
theorem flg_set {n k : Nat} {S : List Nat} (_hk : k < n) : (flg n S).set k (.bool true) = flg n (S ++ [k]) := by
  apply List.ext_getElem?
  intro j
  by_cases hj : j < n
  · by_cases hjk : k = j
    · subst hjk; rw [List.getElem?_set_self (by rw [flg_len]; exact hj), flg_get hj]; simp
    · rw [List.getElem?_set_ne hjk, flg_get hj, flg_get hj]
      have : (j ∈ S ++ [k]) ↔ j ∈ S := by simp; intro h; exact absurd h.symm hjk
      simp only [this]
  · rw [List.getElem?_eq_none (by simp [flg_len]; omega), List.getElem?_eq_none (by rw [flg_len]; omega)]
theorem flg_nil {n : Nat} : repL n [.bool false] = flg n [] := by
  have : repL n [HV.bool false] = List.replicate n (.bool false) := by cases n <;> rfl
  rw [this]
  apply List.ext_getElem?
  intro j
  by_cases hj : j < n
  · rw [flg_get hj]; simp [hj]
  · rw [List.getElem?_eq_none (by simp; omega), List.getElem?_eq_none (by rw [flg_len]; omega)]
theorem Arr.push {H : Heap} {w : List HV} (h : w.length ≤ 1000000) : Arr (H.push (.cells w false)) H.n w := ⟨by simp [Heap.push], by simp [Heap.push], by omega⟩

theorem pickR_iff {l : List Dd} {S : List Nat} {k : Nat} (hk : k < l.length) : PickR l S k ↔ k ∉ S ∧ Next (nowS l S) l[k] ∧ ∀ i (hi : i < l.length), i ∉ S → i ≠ k → ¬ Needs l[i] l[k] := by
  unfold PickR
  constructor
  · rintro ⟨h1, d, hd, h2, h3⟩
    rw [List.getElem?_eq_getElem hk] at hd; cases hd
    exact ⟨h1, h2, fun i hi => h3 i _ (List.getElem?_eq_getElem hi)⟩
  · rintro ⟨h1, h2, h3⟩
    refine ⟨h1, _, List.getElem?_eq_getElem hk, h2, fun i x hx => ?_⟩
    obtain ⟨hi, rfl⟩ := List.getElem?_eq_some_iff.1 hx
    exact h3 i hi
theorem PickR.lt {l : List Dd} {S : List Nat} {k : Nat} (h : PickR l S k) : k < l.length := by
  obtain ⟨_, d, hd, _⟩ := h
  exact (List.getElem?_eq_some_iff.1 hd).1
theorem Board.gx {y : List HV} {f : Nat → Int} (h : Board y f) {α : Type} {Q : α → Heap → Prop} {H : Heap} {g : List HV → M α} (hg : wp (g y) Q H) : wp (gxN y 0 24 g) Q H := by
  have e1 : (y.drop 0).take 24 = y := by rw [List.drop_zero, ← h.1, List.take_length]
  unfold gxN
  refine wp_gd (by rw [h.1]; rfl) ?_
  rw [e1]; exact hg

theorem s13_wp {D : HV → List HV → M HV} {H : Heap} {Q : HV → Heap → Prop} {s : Sl} {l : List Dd} (hs : Deeds H s l) (hn : l.length ≤ 1000) (hh : Hist l)
    (h1 : ∀ (S : List Nat) s' H', S.length = l.length → ChainR l S → Own H H' s' 1 (S.map fun x : Nat => [I x]) → Q (.tup [.sl s', .bool true]) H')
    (h2 : ∀ (S : List Nat) H', S.length < l.length → ChainR l S → (∀ k, ¬ PickR l S k) → Keeps H H' → Q (.tup [.sl ⟨none, 0, 0, none⟩, .bool false]) H') :
    wp (s13 D [.sl s]) Q H := by
  unfold s13
  have hlen : s.len = l.length := hs.len
  refine wp_fin (wp_uL (wp_nl (wp_gd (by simp) (wp_gd (by simp) (wp_gd (decide_eq_true (by simp only [room, Int.toNat_natCast, hlen]; omega)) (wp_nw ?_))))))
  have hsl : (⟨some (H.n, 0), (s.len : Int).toNat, (s.len : Int).toNat, none⟩ : Sl) = numSl H.n l.length := by
    rw [hlen]; simp [numSl]
  have ha0 : Arr (H.push (.cells (repL (s.len : Int).toNat [.bool false]) false)) H.n (flg l.length []) := by
    rw [hlen, Int.toNat_natCast, flg_nil]
    exact Arr.push (by rw [flg_len]; omega)
  have hb0 : Board [I 0, I 0, I 0, I 0, I 0, I 0, I 0, I 0, I 0, I 0, I 0, I 0, I 0, I 0, I 0, I 0, I 0, I 0, I 0, I 0, I 0, I 0, I 0, I 0] (nowS l []) := by
    refine ⟨rfl, fun p hp => ?_⟩
    show (List.replicate 24 (I 0))[p]? = some (I 0)
    rw [List.getElem?_replicate, if_pos hp]
  refine wp_blk ?_
  refine wp_range (σ := List Nat × Sl × List HV) l.length (fun i x => [.sl x.2.1, I i, .agg x.2.2])
    (fun i x H' => x.1.length = i ∧ ChainR l x.1 ∧ Own H H' x.2.1 1 (x.1.map fun y : Nat => [I y]) ∧ x.2.1.p ≠ some (H.n, 0) ∧ Board x.2.2 (nowS l x.1) ∧ Arr H' H.n (flg l.length x.1))
    ([], ⟨none, 0, 0, none⟩, _) rfl ⟨rfl, fun t k hk => by simp at hk, Own.nil (Keeps.push _ _) 1, by simp, hb0, ha0⟩ ?_ ?_
  · rintro i ⟨S, x, y⟩ H1 hi ⟨hS, hch, hown, hxp, hb, ha⟩
    simp only at hS hch hown hxp hb ha
    have hk1 : Keeps H H1 := hown.keeps
    have hs1 := hs.sl.keeps hk1
    refine wp_uL (wp_uI (wp_uA (wp_nl (wp_cond (fun _ => ?_) (fun hc => ?_)))))
    · refine wp_blk ?_
      refine wp_range (σ := Int) l.length (fun q nx => [I nx, I ((l.length : Int) - 1 - q)])
        (fun q nx H' => H' = H1 ∧ ((nx = -1 ∧ ∀ j : Nat, (l.length : Int) - q ≤ j → ¬ PickR l S j) ∨ ∃ m : Nat, nx = m ∧ PickR l S m ∧ ∀ j : Nat, (l.length : Int) - q ≤ j → j < m → ¬ PickR l S j))
        (-1) (by rw [hlen, wr_small (by omega) (by omega)]; simp) ⟨rfl, .inl ⟨rfl, fun j hj hp => by have := hp.lt; omega⟩⟩ ?_ ?_
      · rintro q nx H2 hq ⟨rfl, hnx⟩
        have hkk : ∃ k : Nat, (l.length : Int) - 1 - q = k ∧ k < l.length := ⟨l.length - 1 - q, by omega, by omega⟩
        obtain ⟨k, hk, hkl⟩ := hkk
        have hnext : wr ((l.length : Int) - 1 - q - 1) = (l.length : Int) - 1 - ((q + 1 : Nat) : Int) := by rw [wr_small (by omega) (by omega)]; omega
        have hk2 : (l.length : Int) - (q : Int) = k + 1 := by omega
        have hk3 : (l.length : Int) - ((q + 1 : Nat) : Int) = k := by omega
        have stay : ¬ PickR l S k → ((nx = -1 ∧ ∀ j : Nat, (l.length : Int) - ((q + 1 : Nat) : Int) ≤ j → ¬ PickR l S j) ∨ ∃ m : Nat, nx = m ∧ PickR l S m ∧ ∀ j : Nat, (l.length : Int) - ((q + 1 : Nat) : Int) ≤ j → j < m → ¬ PickR l S j) := by
          intro hno
          rw [hk3]
          rw [hk2] at hnx
          rcases hnx with ⟨e1, e2⟩ | ⟨m, e1, e2, e3⟩
          · refine .inl ⟨e1, fun j hj => ?_⟩
            by_cases hjk : j = k
            · subst hjk; exact hno
            · exact e2 j (by omega)
          · refine .inr ⟨m, e1, e2, fun j hj hjm => ?_⟩
            by_cases hjk : j = k
            · subst hjk; exact hno
            · exact e3 j (by omega) hjm
        refine wp_uI (wp_uI (wp_nl (wp_cond (fun _ => ?_) (fun hc => ?_))))
        · rw [hk]
          have hwk : wr ((k : Int) - 1) = (l.length : Int) - 1 - ((q + 1 : Nat) : Int) := by rw [← hk, hnext]
          refine wp_blk ?_
          refine wp_jn (wp.mono (Q := LB (¬ (k ∉ S ∧ Next (nowS l S) l[k])) H2) ?_ ?_)
          · refine wp_arrget ha hsl flg_len (by omega) (v := .bool (decide (k ∈ S))) (by simpa using flg_get hkl) (fun _ _ => wp_asB ?_)
            refine wp_cond (fun c => wp_ret (.mk _ ?_)) (fun c => ?_)
            · simp at c; simp [c]
            · have hkS : k ∉ S := by simpa using c
              refine hb.gx ?_
              refine wp_ixN hs1 (by omega) (hs.at hkl) (fun _ _ => wp_uL (wp_uL (wp_nl ?_)))
              have hd : l[k]? = some l[k] := List.getElem?_eq_getElem hkl
              refine wp_bnd (s23_wp hb ⟨SlR.keeps (hs.r hkl) hk1, SlR.keeps (hs.w hkl) hk1⟩ (hh.rs hd).okR (hh.ws hd).okR fun z hz => wp_asB (wp_ret (.mk _ ?_)))
              cases z
              · exact ⟨fun _ q => (by have := hz.2 q.2; cases this), fun _ => rfl⟩
              · exact ⟨fun q => (by cases q), fun q => absurd ⟨hkS, hz.1 rfl⟩ q⟩
          · rintro _ H3 ⟨z, rfl, hz, rfl⟩
            refine wp_uB (wp_nl (wp_cond (fun c => wp_ret ?_) (fun c => ?_)))
            · have hno : ¬ PickR l S k := fun hp => hz.1 c ⟨((pickR_iff hkl).1 hp).1, ((pickR_iff hkl).1 hp).2.1⟩
              refine wp_uI (wp_nl (wp_ret ⟨nx, ?_, rfl, stay hno⟩))
              rw [hwk]
            · have hkn : k ∉ S ∧ Next (nowS l S) l[k] := by
                apply Classical.byContradiction
                intro hno; have := hz.2 hno; rw [c] at this; cases this
              refine wp_blk ?_
              refine wp_range (σ := Bool) l.length (fun j z => [.bool z, I j]) (fun j z H' => H' = H3 ∧ (z = true ↔ ∀ i (hi : i < l.length), i < j → i ∉ S → i ≠ k → ¬ Needs l[i] l[k])) true rfl ⟨rfl, ⟨fun _ i _ h => by omega, fun _ => rfl⟩⟩ ?_ ?_
              · rintro j z H4 hj ⟨rfl, hzz⟩
                refine wp_uB (wp_uI (wp_nl (wp_cond (fun _ => ?_) (fun hc => ?_))))
                · refine wp_blk ?_
                  refine wp_ixN hs1 (by omega) (hs.at hj) (fun _ _ => wp_uL (wp_uL (wp_nl ?_)))
                  refine wp_jn (wp.mono (Q := LB (j ≠ k ∧ j ∉ S ∧ Needs l[j] l[k]) H4) ?_ ?_)
                  · refine wp_cond (fun c1 => ?_) (fun c1 => wp_ret (.mk _ ?_))
                    · have hjk : j ≠ k := by intro h; subst h; simp at c1
                      refine wp_arrget ha hsl flg_len (by omega) (v := .bool (decide (j ∈ S))) (by simpa using flg_get hj) (fun _ _ => wp_asB ?_)
                      refine wp_cond (fun c2 => ?_) (fun c2 => wp_ret (.mk _ ?_))
                      · have hjS : j ∉ S := by simpa using c2
                        refine wp_ixN hs1 (by omega) (hs.at hkl) (fun _ _ => wp_uL (wp_uL (wp_nl ?_)))
                        refine wp_bnd (s24_wp ⟨SlR.keeps (hs.r hj) hk1, SlR.keeps (hs.w hj) hk1⟩ ⟨SlR.keeps (hs.r hkl) hk1, SlR.keeps (hs.w hkl) hk1⟩ fun u hu => wp_asB (wp_ret (.mk _ ?_)))
                        rw [hu]; exact ⟨fun h => ⟨hjk, hjS, h⟩, fun h => h.2.2⟩
                      · have hjS : j ∈ S := by simpa using c2
                        exact ⟨fun h => (by cases h), fun h => absurd hjS h.2.1⟩
                    · have hjk : j = k := by simp at c1; omega
                      exact ⟨fun h => (by cases h), fun h => absurd hjk h.1⟩
                  · rintro _ H5 ⟨u, rfl, hu, rfl⟩
                    refine wp_uB (wp_nl (wp_cond (fun c1 => wp_ret ?_) (fun c1 => wp_ret ?_)))
                    · have h3 := hu.1 c1
                      refine wp_uB (wp_nl (wp_ret ⟨false, by rw [wr_succ hj hs.lt], rfl, ⟨fun h => (by cases h), fun h => absurd h3.2.2 (h j hj (by omega) h3.2.1 h3.1)⟩⟩))
                    · refine wp_uB (wp_nl (wp_ret ⟨z, by rw [wr_succ hj hs.lt], rfl, ?_⟩))
                      rw [hzz]
                      constructor
                      · intro h i' hi' hij hiS hik
                        by_cases he : i' = j
                        · subst he
                          intro hnd; have := hu.2 ⟨hik, hiS, hnd⟩; rw [c1] at this; cases this
                        · exact h i' hi' (by omega) hiS hik
                      · intro h i' hi' hij; exact h i' hi' (by omega)
                · rw [hs.len] at hc; simp at hc; omega
              · rintro z H4 ⟨rfl, hzz⟩
                refine wp_uB (wp_uI (wp_nl (wp_cond (fun hc => ?_) (fun _ => wp_ret ?_))))
                · rw [hs.len] at hc; simp at hc
                refine wp_uB (wp_nl (wp_cond (fun c1 => wp_ret ?_) (fun c1 => wp_ret ?_)))
                · refine wp_uI (wp_nl (wp_ret ⟨(k : Int), ?_, rfl, .inr ⟨k, rfl, (pickR_iff hkl).2 ⟨hkn.1, hkn.2, fun i' hi' => hzz.1 c1 i' hi' hi'⟩, fun j hj hjm => by omega⟩⟩))
                  rw [hwk]
                · have hno : ¬ PickR l S k := fun hp => by
                    have := hzz.2 fun i' hi' _ => ((pickR_iff hkl).1 hp).2.2 i' hi'
                    rw [c1] at this; cases this
                  refine wp_uI (wp_nl (wp_ret ⟨nx, ?_, rfl, stay hno⟩))
                  rw [hwk]
        · simp at hc; omega
      · rintro nx H2 ⟨rfl, hnx⟩
        refine wp_uI (wp_uI (wp_nl (wp_cond (fun hc => ?_) (fun _ => wp_ret ?_))))
        · simp at hc; omega
        rcases hnx with ⟨rfl, hno⟩ | ⟨k, rfl, hp, hmin⟩
        · refine wp_uI (wp_nl (wp_cond (fun _ => wp_ret ?_) (fun hc => by simp at hc)))
          exact h2 S H2 (by omega) hch (fun j hj => hno j (by omega) hj) hk1
        · have hkl := hp.lt
          have hd : l[k]? = some l[k] := List.getElem?_eq_getElem hkl
          refine wp_uI (wp_nl (wp_cond (fun hc => by simp at hc; omega) (fun _ => ?_)))
          refine wp_arrset ha hsl flg_len (by omega) (by simpa [flg_len] using hkl) rfl (fun ha2 => ?_)
          rw [Int.toNat_natCast, flg_set hkl] at ha2 ⊢
          have hown2 : Own H (H2.set H.n (.cells (flg l.length (S ++ [k])) false)) x 1 (S.map fun y : Nat => [I y]) := hown.set (Nat.le_refl _) hxp _
          have hk3 : Keeps H (H2.set H.n (.cells (flg l.length (S ++ [k])) false)) := hown2.keeps
          refine hb.gx ?_
          refine wp_ixN (hs.sl.keeps hk3) (by omega) (hs.at hkl) (fun _ _ => wp_uL (wp_uL (wp_nl ?_)))
          refine wp_bnd (s25_wp hb ⟨SlR.keeps (hs.r hkl) hk3, SlR.keeps (hs.w hkl) hk3⟩ (hh.ws hd).okR fun y' hy' => wp_asA ?_)
          refine wp_gd (by rw [hy'.1]; rfl) (wp_gd (by rw [hy'.1, hb.1]; rfl) ?_)
          refine wp_apd hown2 (l := [I k]) rfl (by omega) (by simp only [List.length_map, hS, room]; omega) (by simp only [List.length_map, hS, room]; omega) ?_
          intro s' H4 ho4 hk4 hn4 hp4
          have hput : putN y 0 y' = y' := by
            unfold putN
            rw [List.take_zero, List.nil_append, Nat.zero_add, hy'.1, ← hb.1, List.drop_length, List.append_nil]
          refine wp_ret ⟨(S ++ [k], s', y'), by rw [wr_succ hi hs.lt, hput], by simp [hS], ?_, ?_, ?_, ?_, ?_⟩
          · intro t q hq
            rcases Nat.lt_or_ge t S.length with ht | ht
            · simp only at hq ⊢
              rw [List.getElem?_append_left ht] at hq
              rw [List.take_append_of_le_length (by omega)]
              exact hch t q hq
            · simp only at hq ⊢
              rw [List.getElem?_append_right ht] at hq
              have : t = S.length := by
                rcases Nat.lt_or_ge S.length t with h2 | h2
                · rw [List.getElem?_eq_none (by simp; omega)] at hq; cases hq
                · omega
              subst this
              simp at hq; subst hq
              rw [List.take_left]
              exact ⟨hp, fun j hj => hmin j (by omega) hj⟩
          · show Own H H4 s' 1 ((S ++ [k]).map fun y : Nat => [I y])
            rw [List.map_append]; exact ho4
          · show s'.p ≠ some (H.n, 0)
            rw [hp4]
            have := ha2.lt
            intro h; simp at h; omega
          · show Board y' (nowS l (S ++ [k]))
            rw [nowS_snoc' hd]; exact hy'
          · exact ha2.besides hn4 (hk4 _ ha2.lt hxp)
    · rw [hs.len] at hc; simp at hc; omega
  · rintro ⟨S, x, y⟩ H1 ⟨hS, hch, hown, hxp, hb, ha⟩
    simp only at hS hch hown hxp hb ha
    refine wp_uL (wp_uI (wp_uA (wp_nl (wp_cond (fun hc => ?_) (fun _ => wp_ret ?_)))))
    · rw [hs.len] at hc; simp at hc
    · exact wp_uL (wp_uA (wp_nl (wp_ret (h1 S x H1 hS hch hown))))
end Go.Proofs.Ythlfemjbeihmbaa.HL
