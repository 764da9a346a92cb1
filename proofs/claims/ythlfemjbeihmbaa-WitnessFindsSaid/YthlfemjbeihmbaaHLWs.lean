/- What the functions of the law's texts compute: Replays. Conditions: none (lemmas). -/
import Derived.Test.YthlfemjbeihmbaaHLWr
namespace Go.Proofs.Ythlfemjbeihmbaa.HL
open Go
open Classical

theorem Heap.ext' {H K : Heap} (h1 : H.n = K.n) (h2 : ∀ b, H.get b = K.get b) : H = K := by
  cases H; cases K; simp only at h1 h2; subst h1; congr; exact funext h2
theorem Heap.set_same {H : Heap} {b : Nat} {o : HObj} (h : H.get b = o) : H.set b o = H := by
  refine Heap.ext' rfl fun x => ?_
  simp only [Heap.set]
  split
  · rename_i hx; rw [hx, h]
  · rfl
theorem Heap.set_set {H : Heap} {b : Nat} {o o2 : HObj} : (H.set b o).set b o2 = H.set b o2 := by
  refine Heap.ext' rfl fun x => ?_
  simp only [Heap.set]
  split
  · rfl
  · rename_i hx; rfl
theorem Heap.set_get {H : Heap} {b : Nat} {o : HObj} : (H.set b o).get b = o := by simp [Heap.set]
theorem wp_ldC {α : Type} {Q : α → Heap → Prop} {H : Heap} {b o : Nat} {cs : List HV} {ro : Bool} (hb : H.get b = .cells cs ro) {v : HV} (ho : cs[o]? = some v) {g : HV → M α} (hg : wp (g v) Q H) : wp (ldC b o g) Q H := by
  refine wp_of (m' := g v) (fun n => ?_) hg
  unfold ldC; simp only [hb]; unfold gx; rw [ho]
theorem SlR.set {H : Heap} {s : Sl} {sz : Nat} {ls : List (List HV)} (h : SlR H s sz ls) {b : Nat} {o : HObj} (hb : ∀ o', s.p ≠ some (b, o')) : SlR (H.set b o) s sz ls :=
  ⟨h.len, h.lt, h.cap, h.opn, h.szs, by
    rcases h.mem with h1 | ⟨b2, o2, cs, ro, h1, h2, h3, h4⟩
    · exact .inl h1
    · refine .inr ⟨b2, o2, cs, ro, h1, h2, ?_, h4⟩
      simp only [Heap.set]
      rw [if_neg (by rintro rfl; exact hb _ h1)]
      exact h3⟩
theorem SlR.off {H : Heap} {s : Sl} {sz : Nat} {ls : List (List HV)} (h : SlR H s sz ls) {b : Nat} (hb : H.n ≤ b) : ∀ o', s.p ≠ some (b, o') := by
  intro o' hs
  rcases h.mem with ⟨h1, _⟩ | ⟨b2, o2, cs, ro, h1, h2, _⟩
  · rw [h1] at hs; cases hs
  · rw [h1] at hs; cases hs; omega

theorem s26_wp {D : HV → List HV → M HV} {H : Heap} {Q : HV → Heap → Prop} {b : Nat} {y : List HV} {f : Nat → Int} (hy : Board y f) (hb : H.get b = .cells y false) {d : Dd} (hd : Ents H d.rs d.r ∧ Ents H d.ws d.w)
    (hof : (∀ o', d.rs.p ≠ some (b, o')) ∧ ∀ o', d.ws.p ≠ some (b, o')) (hr : OkR d.r 0) (hw : OkR d.w 1) (hu : Uniq d.w)
    (h : ∀ (z : Bool) y', (z = true ↔ Next f d) → (z = true → Board y' (after f d.w)) → Q (.bool z) (H.set b (.cells y' false))) : wp (s26 D [.ptr (some (b, 0)), .agg d.cs]) Q H := by
  unfold s26
  refine wp_fin (wp_uP (wp_uA (wp_uL (wp_uL (wp_nl (wp_nl ?_))))))
  refine wp_blk ?_
  refine wp_range (σ := Unit) d.r.length (fun i _ => [I i]) (fun i _ H' => H' = H ∧ ∀ (j : Nat) (e : En), j < i → d.r[j]? = some e → f (place e) = e.v) () rfl ⟨rfl, fun j a hj => by omega⟩ ?_ ?_
  · rintro i _ H' hi ⟨rfl, hno⟩
    have hok := hr _ (List.getElem_mem hi)
    have hpl := place_lt hok
    have hok' := hok
    unfold okE at hok'
    refine wp_uI (wp_nl (wp_cond (fun _ => ?_) (fun hc => ?_)))
    · refine wp_ixN hd.1 (by omega) (hd.1.at hi) (fun _ _ => wp_uI (wp_uI (wp_uI (wp_nl ?_))))
      rw [mP_eq']
      refine wp_gd (by simp; omega) (wp_gd (by simp; omega) (wp_gd (by simp; omega) (wp_gd (by simp; omega) ?_)))
      have hbb := hy.2 _ hpl
      refine wp_ldC hb (v := I (f (place (d.r[i])))) hbb ?_
      refine wp_asI (wp_cond (fun c => wp_ret ?_) (fun c => wp_ret ?_))
      · have := h false y ⟨fun hh => (by cases hh), fun hh => by
          have := hh.1 _ (List.getElem_mem hi)
          rw [this] at c; simp at c⟩ (fun hh => by cases hh)
        rw [Heap.set_same hb] at this; exact this
      · refine ⟨(), by rw [wr_succ hi hd.1.lt], rfl, fun j e hj hje => ?_⟩
        by_cases hji : j = i
        · subst hji; rw [List.getElem?_eq_getElem hi] at hje; cases hje
          simpa using c
        · exact hno j e (by omega) hje
    · rw [hd.1.len] at hc; simp at hc; omega
  · rintro _ H' ⟨rfl, hno⟩
    refine wp_uI (wp_nl (wp_cond (fun hc => ?_) (fun _ => wp_ret ?_)))
    · rw [hd.1.len] at hc; simp at hc
    refine wp_nl ?_
    refine wp_blk ?_
    refine wp_range (σ := List HV) d.w.length (fun i _ => [I i]) (fun i y H2 => H2 = H'.set b (.cells y false) ∧ Board y (after f (d.w.take i)) ∧ ∀ (j : Nat) (e : En), j < i → d.w[j]? = some e → f (place e) < e.v) y rfl ⟨(Heap.set_same hb).symm, by simpa [after] using hy, fun j a hj => by omega⟩ ?_ ?_
    · rintro i y2 H2 hi ⟨rfl, hy2, hno2⟩
      have hok := hw _ (List.getElem_mem hi)
      have hpl := place_lt hok
      have hok' := hok
      unfold okE at hok'
      have hws : Ents (H'.set b (.cells y2 false)) d.ws d.w := SlR.set hd.2 hof.2
      have hval : after f (d.w.take i) (place d.w[i]) = f (place d.w[i]) := by
        refine after_not fun e he => ?_
        rw [List.mem_take_iff_getElem] at he
        obtain ⟨j, hj, rfl⟩ := he
        exact List.pairwise_iff_getElem.1 hu j i (by omega) hi (by omega)
      refine wp_uI (wp_nl (wp_cond (fun _ => ?_) (fun hc => ?_)))
      · refine wp_ixN hws (by omega) (hws.at hi) (fun _ _ => wp_uI (wp_uI (wp_uI (wp_nl ?_))))
        rw [mP_eq']
        refine wp_gd (by simp; omega) (wp_gd (by simp; omega) (wp_gd (by simp; omega) (wp_gd (by simp; omega) ?_)))
        have hbb := hy2.2 _ hpl
        rw [hval] at hbb
        refine wp_ldC Heap.set_get (v := I (f (place (d.w[i])))) hbb ?_
        refine wp_asI (wp_cond (fun c => wp_ret ?_) (fun c => ?_))
        · exact h false y2 ⟨fun hh => (by cases hh), fun hh => by
            have := hh.2 _ (List.getElem_mem hi)
            simp at c; omega⟩ (fun hh => by cases hh)
        · rw [mP_eq']
          refine wp_gd (by simp; omega) (wp_gd (by simp; omega) (wp_gd (by simp; omega) (wp_gd (by simp; omega) ?_)))
          refine wp_stC Heap.set_get (by rw [hy2.1]; exact hpl) rfl (wp_ret ?_)
          refine ⟨List.set y2 (place d.w[i]) (I (d.w[i]).v), by rw [wr_succ hi hd.2.lt], Heap.set_set, ⟨by simp [hy2.1], fun p hp => ?_⟩, fun j e hj hje => ?_⟩
          · rw [after_succ f d.w hi]
            simp only
            by_cases hpp : p = place d.w[i]
            · subst hpp; rw [List.getElem?_set_self (by rw [hy2.1]; omega), if_pos rfl]
            · rw [List.getElem?_set_ne (Ne.symm hpp), if_neg hpp]; exact hy2.2 p hp
          · by_cases hji : j = i
            · subst hji; rw [List.getElem?_eq_getElem hi] at hje; cases hje
              simpa using c
            · exact hno2 j e (by omega) hje
      · rw [hd.2.len] at hc; simp at hc; omega
    · rintro y2 H2 ⟨rfl, hy2, hno2⟩
      rw [List.take_length] at hy2
      refine wp_uI (wp_nl (wp_cond (fun hc => ?_) (fun _ => wp_ret ?_)))
      · rw [hd.2.len] at hc; simp at hc
      · refine wp_nl (wp_ret (h true y2 ⟨fun _ => ⟨fun e he => ?_, fun e he => ?_⟩, fun _ => rfl⟩ (fun _ => hy2)))
        · obtain ⟨j, hj, rfl⟩ := List.getElem_of_mem he
          exact hno j _ hj (List.getElem?_eq_getElem hj)
        · obtain ⟨j, hj, rfl⟩ := List.getElem_of_mem he
          exact hno2 j _ hj (List.getElem?_eq_getElem hj)

/-- is an order one of all deeds, and serial? -/
def ReplaysP (l : List Dd) (o : List Int) : Prop := o.length = l.length ∧ ∃ S : List Nat, o = S.map (fun x : Nat => (x : Int)) ∧ Ser l S
theorem map_nat_inj {S T : List Nat} (h : S.map (fun x : Nat => (x : Int)) = T.map (fun x : Nat => (x : Int))) : S = T := by
  have e : ∀ S : List Nat, (S.map (fun x : Nat => (x : Int))).map Int.toNat = S := by
    intro S
    induction S with
    | nil => rfl
    | cons x S ih => rw [List.map_cons, List.map_cons, ih]; rfl
  rw [← e S, ← e T, h]
theorem not_replays {l : List Dd} {o : List Int} {S : List Nat} {i : Nat} (hS : o.take i = S.map (fun x : Nat => (x : Int))) (hi : i < o.length)
    (bad : ∀ k : Nat, o[i] = (k : Int) → ¬ (k ∉ S ∧ ∃ d, l[k]? = some d ∧ Next (nowS l S) d)) : ¬ ReplaysP l o := by
  rintro ⟨_, S', rfl, hs⟩
  rw [← List.map_take] at hS
  have hSS := map_nat_inj hS
  have hi' : i < S'.length := by simpa using hi
  have h1 := hs i _ (List.getElem?_eq_getElem hi')
  rw [hSS] at h1
  exact bad S'[i] (by simp) h1
theorem ser_snoc {l : List Dd} {S : List Nat} {k : Nat} (hs : Ser l S) (h : k ∉ S ∧ ∃ d, l[k]? = some d ∧ Next (nowS l S) d) : Ser l (S ++ [k]) := by
  intro t q hq
  rcases Nat.lt_or_ge t S.length with ht | ht
  · rw [List.getElem?_append_left ht] at hq
    rw [List.take_append_of_le_length (by omega)]
    exact hs t q hq
  · rw [List.getElem?_append_right ht] at hq
    have : t = S.length := by
      rcases Nat.lt_or_ge S.length t with h2 | h2
      · rw [List.getElem?_eq_none (by simp; omega)] at hq; cases hq
      · omega
    subst this
    simp at hq; subst hq
    rw [List.take_left]
    exact h

theorem s15_wp {D : HV → List HV → M HV} {H : Heap} {Q : HV → Heap → Prop} {s s2 : Sl} {l : List Dd} {o : List Int} (hs : Deeds H s l) (ho : Ints H s2 o)
    (h : ∀ (z : Bool) H', Keeps H H' → (z = true ↔ l.length ≤ 160 ∧ CanP l ∧ ReplaysP l o) → Q (.bool z) H') : wp (s15 D [.sl s, .sl s2]) Q H := by
  unfold s15
  refine wp_fin (wp_uL (wp_uL (wp_nl ?_)))
  have hlen : s.len = l.length := hs.len
  have holen : s2.len = o.length := ho.len
  refine wp_jn (wp.mono (Q := LB (¬ (l.length ≤ 160 ∧ o.length = l.length ∧ CanP l)) H) ?_ ?_)
  · refine wp_cond (fun c => wp_ret (.mk _ ?_)) (fun c => wp_cond (fun c2 => wp_ret (.mk _ ?_)) (fun c2 => ?_))
    · rw [hlen] at c; simp at c; exact ⟨fun _ hh => by omega, fun _ => rfl⟩
    · rw [hlen, holen] at c2; simp at c2; exact ⟨fun _ hh => by omega, fun _ => rfl⟩
    · rw [hlen] at c; simp at c
      rw [hlen, holen] at c2; simp at c2
      refine wp_bnd (s16_wp hs fun x hx => wp_asB (wp_ret (.mk _ ?_)))
      cases x
      · exact ⟨fun _ hh => (by have := hx.2 hh.2.2; cases this), fun _ => rfl⟩
      · exact ⟨fun hh => (by cases hh), fun hh => absurd ⟨by omega, by omega, hx.1 rfl⟩ hh⟩
  rintro _ H1 ⟨x, rfl, hx, rfl⟩
  refine wp_uB (wp_nl (wp_cond (fun c => wp_ret (h false H1 (Keeps.refl _) ⟨fun hh => (by cases hh), fun hh => absurd ⟨hh.1, hh.2.2.1, hh.2.1⟩ (hx.1 c)⟩)) (fun c => ?_)))
  have hall : l.length ≤ 160 ∧ o.length = l.length ∧ CanP l := by
    apply Classical.byContradiction
    intro hn; have := hx.2 hn; rw [c] at this; cases this
  obtain ⟨h160, hol, hcan⟩ := hall
  have hh : Hist l := ⟨hcan⟩
  have no : ∀ H', Keeps H1 H' → ¬ ReplaysP l o → Q (.bool false) H' := fun H' hk hn => h false H' hk ⟨fun hh => (by cases hh), fun hh => absurd hh.2.2 hn⟩
  refine wp_nw (wp_gd (by simp) (wp_gd (by simp) (wp_gd (decide_eq_true (by simp only [room, Int.toNat_natCast, hlen]; omega)) (wp_nw ?_))))
  generalize hHb : (H1.push (.cells [I 0, I 0, I 0, I 0, I 0, I 0, I 0, I 0, I 0, I 0, I 0, I 0, I 0, I 0, I 0, I 0, I 0, I 0, I 0, I 0, I 0, I 0, I 0, I 0] false)) = Hb
  have hkb : Keeps H1 Hb := by rw [← hHb]; exact Keeps.push _ _
  have hnb : Hb.n = H1.n + 1 := by rw [← hHb]; rfl
  have hgb : Hb.get H1.n = .cells [I 0, I 0, I 0, I 0, I 0, I 0, I 0, I 0, I 0, I 0, I 0, I 0, I 0, I 0, I 0, I 0, I 0, I 0, I 0, I 0, I 0, I 0, I 0, I 0] false := by rw [← hHb]; simp [Heap.push]
  have hsl : (⟨some (Hb.n, 0), (s.len : Int).toNat, (s.len : Int).toNat, none⟩ : Sl) = numSl Hb.n l.length := by
    rw [hlen]; simp [numSl]
  have ha0 : Arr (Hb.push (.cells (repL (s.len : Int).toNat [.bool false]) false)) Hb.n (flg l.length []) := by
    rw [hlen, Int.toNat_natCast, flg_nil]
    exact Arr.push (by rw [flg_len]; omega)
  have hb0 : Board [I 0, I 0, I 0, I 0, I 0, I 0, I 0, I 0, I 0, I 0, I 0, I 0, I 0, I 0, I 0, I 0, I 0, I 0, I 0, I 0, I 0, I 0, I 0, I 0] (nowS l []) := by
    refine ⟨rfl, fun p hp => ?_⟩
    show (List.replicate 24 (I 0))[p]? = some (I 0)
    rw [List.getElem?_replicate, if_pos hp]
  refine wp_blk ?_
  refine wp_range (σ := List Nat × List HV) o.length (fun i _ => [I i])
    (fun i x H' => Keeps H1 H' ∧ o.take i = x.1.map (fun y : Nat => (y : Int)) ∧ Ser l x.1 ∧ Board x.2 (nowS l x.1) ∧ H'.get H1.n = .cells x.2 false ∧ H1.n < H'.n ∧ Arr H' Hb.n (flg l.length x.1))
    ([], _) rfl ⟨hkb.trans (Keeps.push _ _), by simp, fun t k hk => by simp at hk, hb0, by rw [(Keeps.push Hb _).get _ (by omega)]; exact hgb, by simp [Heap.push]; omega, ha0⟩ ?_ ?_
  · rintro i ⟨S, y⟩ H2 hi ⟨hk2, hS, hser, hb, hgy, hln, ha⟩
    simp only at hS hser hb hgy ha
    have hs2 := hs.sl.keeps hk2
    have ho2 : Ints H2 s2 o := SlR.keeps ho hk2
    refine wp_uI (wp_nl (wp_cond (fun _ => ?_) (fun hc => ?_)))
    · refine wp_ixC ho2 (by omega) (ho2.at hi) (fun _ _ => wp_asI ?_)
      refine wp_jn (wp.mono (Q := fun lf H' => ∃ z : Bool, lf = .norm [.bool z] ∧ ∃ y', H' = H2.set H1.n (.cells y' false) ∧
          ((z = true ∧ ∀ k : Nat, o[i] = (k : Int) → ¬ (k ∉ S ∧ ∃ d, l[k]? = some d ∧ Next (nowS l S) d)) ∨
           (z = false ∧ ∃ k : Nat, o[i] = (k : Int) ∧ k ∉ S ∧ ∃ d, l[k]? = some d ∧ Next (nowS l S) d ∧ Board y' (after (nowS l S) d.w)))) ?_ ?_)
      · have same := Heap.set_same hgy
        refine wp_cond (fun c1 => wp_ret ⟨true, rfl, y, same.symm, .inl ⟨rfl, fun k hk => ?_⟩⟩) (fun c1 => wp_cond (fun c2 => wp_ret ⟨true, rfl, y, same.symm, .inl ⟨rfl, fun k hk hh2 => ?_⟩⟩) (fun c2 => ?_))
        · simp at c1; omega
        · obtain ⟨_, d, hd, _⟩ := hh2
          have := (List.getElem?_eq_some_iff.1 hd).1
          rw [hlen] at c2; simp at c2; omega
        · rw [hlen] at c2
          simp at c1 c2
          obtain ⟨k, hk⟩ : ∃ k : Nat, o[i] = (k : Int) := ⟨o[i].toNat, by omega⟩
          have hkl : k < l.length := by omega
          rw [hk]
          refine wp_arrget ha hsl flg_len (by omega) (v := .bool (decide (k ∈ S))) (by simpa using flg_get hkl) (fun _ _ => wp_asB ?_)
          refine wp_cond (fun c3 => wp_ret ⟨true, rfl, y, same.symm, .inl ⟨rfl, fun k' hk' hh2 => ?_⟩⟩) (fun c3 => ?_)
          · have : k' = k := by omega
            subst this
            exact hh2.1 (by simpa using c3)
          · have hkS : k ∉ S := by simpa using c3
            have hd : l[k]? = some l[k] := List.getElem?_eq_getElem hkl
            refine wp_ixN hs2 (by omega) (hs.at hkl) (fun _ _ => wp_uL (wp_uL (wp_nl ?_)))
            refine wp_bnd (s26_wp hb hgy ⟨SlR.keeps (hs.r hkl) hk2, SlR.keeps (hs.w hkl) hk2⟩ ⟨SlR.off (hs.r hkl) (Nat.le_refl _), SlR.off (hs.w hkl) (Nat.le_refl _)⟩ (hh.rs hd).okR (hh.ws hd).okR (hh.ws hd).uniq fun z y' hz hzb => wp_asB (wp_ret ⟨!z, rfl, y', rfl, ?_⟩))
            cases z
            · refine .inl ⟨rfl, fun k' hk' hh2 => ?_⟩
              have : k' = k := by omega
              subst this
              obtain ⟨_, d, hd', hnx⟩ := hh2
              rw [hd] at hd'; cases hd'
              have := hz.2 hnx; cases this
            · exact .inr ⟨rfl, k, rfl, hkS, _, hd, hz.1 rfl, hzb rfl⟩
      · rintro _ H3 ⟨z, rfl, y', rfl, hz⟩
        have hk3 : Keeps H1 (H2.set H1.n (.cells y' false)) := hk2.set (Nat.le_refl _) _
        rcases hz with ⟨rfl, hbad⟩ | ⟨rfl, k, hk, hkS, d, hd, hnx, hby⟩
        · refine wp_uB (wp_nl (wp_cond (fun _ => wp_ret ?_) (fun hc => by cases hc)))
          exact no _ hk3 (not_replays hS hi hbad)
        · refine wp_uB (wp_nl (wp_cond (fun hc => by cases hc) (fun _ => ?_)))
          have hkl : k < l.length := (List.getElem?_eq_some_iff.1 hd).1
          have ha3 : Arr (H2.set H1.n (.cells y' false)) Hb.n (flg l.length S) := ha.besides (by simp [Heap.set]) (by simp only [Heap.set]; rw [if_neg (by omega)])
          rw [hk]
          refine wp_arrset ha3 hsl flg_len (by omega) (by simpa [flg_len] using hkl) rfl (fun ha4 => wp_ret ?_)
          rw [Int.toNat_natCast, flg_set hkl] at ha4 ⊢
          refine ⟨(S ++ [k], y'), by rw [wr_succ hi ho.lt], hk3.set (by omega) _, ?_, ser_snoc hser ⟨hkS, d, hd, hnx⟩, ?_, ?_, ?_, ha4⟩
          · rw [List.take_succ_eq_append_getElem hi, hS, hk]; simp
          · show Board y' (nowS l (S ++ [k]))
            rw [nowS_snoc' hd]; exact hby
          · simp only [Heap.set]
            rw [if_neg (by omega), if_pos trivial]
          · exact hln
    · rw [holen] at hc; simp at hc; omega
  · rintro ⟨S, y⟩ H2 ⟨hk2, hS, hser, hb, hgy, hln, ha⟩
    simp only at hS hser
    refine wp_uI (wp_nl (wp_cond (fun hc => ?_) (fun _ => wp_ret ?_)))
    · rw [holen] at hc; simp at hc
    · rw [List.take_length] at hS
      exact wp_nl (wp_ret (h true H2 hk2 ⟨fun _ => ⟨h160, hcan, hol, S, hS, hser⟩, fun _ => rfl⟩))

theorem s14_wp {D : HV → List HV → M HV} {H : Heap} {Q : HV → Heap → Prop} {s s2 : Sl} {l : List Dd} {o : List Int} (hs : Deeds H s l) (ho : Ints H s2 o) (hh : Hist l)
    (h : ∀ z : Bool, (z = true ↔ ReplaysP l o) → Q (.bool z) H) : wp (s14 D [.sl s, .sl s2]) Q H := by
  unfold s14
  have hlen : s.len = l.length := hs.len
  have holen : s2.len = o.length := ho.len
  refine wp_fin (wp_uL (wp_uL (wp_nl (wp_cond (fun c => wp_ret ?_) (fun c => ?_)))))
  · rw [hlen, holen] at c
    simp at c
    exact h false ⟨fun hh => (by cases hh), fun hh => by have := hh.1; omega⟩
  have hol : o.length = l.length := by rw [hlen, holen] at c; simp at c; omega
  have no : ¬ ReplaysP l o → Q (.bool false) H := fun hn => h false ⟨fun hh => (by cases hh), fun hh => absurd hh hn⟩
  have hb0 : Board [I 0, I 0, I 0, I 0, I 0, I 0, I 0, I 0, I 0, I 0, I 0, I 0, I 0, I 0, I 0, I 0, I 0, I 0, I 0, I 0, I 0, I 0, I 0, I 0] (nowS l []) := by
    refine ⟨rfl, fun p hp => ?_⟩
    show (List.replicate 24 (I 0))[p]? = some (I 0)
    rw [List.getElem?_replicate, if_pos hp]
  refine wp_blk ?_
  refine wp_range (σ := List Nat × List HV) o.length (fun i x => [I i, .agg x.2])
    (fun i x H' => H' = H ∧ o.take i = x.1.map (fun y : Nat => (y : Int)) ∧ Ser l x.1 ∧ Board x.2 (nowS l x.1))
    ([], _) rfl ⟨rfl, by simp, fun t k hk => by simp at hk, hb0⟩ ?_ ?_
  · rintro i ⟨S, y⟩ H2 hi ⟨rfl, hS, hser, hb⟩
    simp only at hS hser hb
    refine wp_uI (wp_uA (wp_nl (wp_cond (fun _ => ?_) (fun hc => ?_))))
    · refine wp_ixC ho (by omega) (ho.at hi) (fun _ _ => wp_asI ?_)
      refine wp_jn (wp.mono (Q := LB (¬ ∃ k : Nat, o[i] = (k : Int) ∧ ∃ d, l[k]? = some d ∧ Next (nowS l S) d) H2) ?_ ?_)
      · refine wp_cond (fun c1 => wp_ret (.mk _ ?_)) (fun c1 => wp_cond (fun c2 => wp_ret (.mk _ ?_)) (fun c2 => ?_))
        · simp at c1
          exact ⟨fun _ ⟨k, hk, _⟩ => by omega, fun _ => rfl⟩
        · rw [hlen] at c2; simp at c2
          exact ⟨fun _ ⟨k, hk, d, hd, _⟩ => by have := (List.getElem?_eq_some_iff.1 hd).1; omega, fun _ => rfl⟩
        · rw [hlen] at c2
          simp at c1 c2
          obtain ⟨k, hk⟩ : ∃ k : Nat, o[i] = (k : Int) := ⟨o[i].toNat, by omega⟩
          have hkl : k < l.length := by omega
          have hd : l[k]? = some l[k] := List.getElem?_eq_getElem hkl
          rw [hk]
          refine hb.gx ?_
          refine wp_ixN hs.sl (by omega) (hs.at hkl) (fun _ _ => wp_uL (wp_uL (wp_nl ?_)))
          refine wp_bnd (s23_wp hb ⟨hs.r hkl, hs.w hkl⟩ (hh.rs hd).okR (hh.ws hd).okR fun z hz => wp_asB (wp_ret (.mk _ ?_)))
          have : (∃ k' : Nat, ((k : Int)) = (k' : Int) ∧ ∃ d, l[k']? = some d ∧ Next (nowS l S) d) ↔ Next (nowS l S) l[k] := by
            constructor
            · rintro ⟨k', hk', d, hd', hnx⟩
              have : k' = k := by omega
              subst this
              rw [hd] at hd'; cases hd'; exact hnx
            · intro hnx; exact ⟨k, rfl, _, hd, hnx⟩
          rw [this, ← hz]
          cases z <;> simp
      · rintro _ H3 ⟨z, rfl, hz, rfl⟩
        refine wp_uB (wp_nl (wp_cond (fun c => wp_ret ?_) (fun c => ?_)))
        · refine no (not_replays hS hi fun k hk hh2 => ?_)
          exact hz.1 c ⟨k, hk, hh2.2⟩
        · have hex : ∃ k : Nat, o[i] = (k : Int) ∧ ∃ d, l[k]? = some d ∧ Next (nowS l S) d := by
            apply Classical.byContradiction
            intro hn; have := hz.2 hn; rw [c] at this; cases this
          obtain ⟨k, hk, d, hd, hnx⟩ := hex
          have hkl : k < l.length := (List.getElem?_eq_some_iff.1 hd).1
          have hdd : l[k] = d := (List.getElem?_eq_some_iff.1 hd).2
          refine wp_slice_pre ho (by simpa using hi) ?_
          have hp := SlR.pre ho (i := i) (by simp; omega)
          refine wp_blk ?_
          refine wp_range (σ := Unit) i (fun j _ => [I j]) (fun j _ H2 => H2 = H3 ∧ ∀ (q : Nat) (x : Int), q < j → o[q]? = some x → o[i] ≠ x) () rfl ⟨rfl, fun q x hq => by omega⟩ ?_ ?_
          · rintro j _ H2 hj ⟨rfl, hall⟩
            refine wp_uI (wp_nl (wp_cond (fun _ => ?_) (fun hc => ?_)))
            · have hjl : j < o.length := by omega
              refine wp_ixC (s := s2.pre 1 i) hp (by omega) (v := I o[j]) (by simp [hj, hjl]) (fun _ _ => wp_asI ?_)
              refine wp_cond (fun c2 => wp_ret ?_) (fun c2 => wp_ret ?_)
              · refine no (not_replays hS hi fun k' hk' hh2 => hh2.1 ?_)
                have h1 : o[i] = o[j] := by simpa using c2
                have h2 : (o.take i)[j]? = some (k' : Int) := by
                  rw [List.getElem?_take, if_pos hj, List.getElem?_eq_getElem hjl, ← h1, hk']
                rw [hS, List.getElem?_map] at h2
                cases hq : S[j]? with
                | none => rw [hq] at h2; cases h2
                | some q =>
                  rw [hq] at h2
                  have : q = k' := by simp at h2; omega
                  subst this
                  exact List.mem_of_getElem? hq
              · refine ⟨(), by rw [wr_succ hj (by have := ho.lt; omega)], rfl, fun q x hq hqx => ?_⟩
                by_cases hqj : q = j
                · subst hqj; rw [List.getElem?_eq_getElem hjl] at hqx; cases hqx; simpa using c2
                · exact hall q x (by omega) hqx
            · simp at hc; omega
          · rintro _ H2 ⟨rfl, hall⟩
            refine wp_uI (wp_nl (wp_cond (fun hc => ?_) (fun _ => wp_ret ?_)))
            · simp at hc
            refine wp_nl (hb.gx ?_)
            have hkS : k ∉ S := by
              intro hkS
              obtain ⟨q, hq, hqe⟩ := List.getElem_of_mem hkS
              have h2 : (o.take i)[q]? = some (k : Int) := by
                rw [hS, List.getElem?_map, List.getElem?_eq_getElem hq, hqe]; rfl
              rw [List.getElem?_take] at h2
              split at h2
              · rename_i hqi
                exact hall q _ hqi h2 hk
              · cases h2
            rw [hk]
            refine wp_ixN hs.sl (by omega) (hs.at hkl) (fun _ _ => wp_uL (wp_uL (wp_nl ?_)))
            refine wp_bnd (s25_wp hb ⟨hs.r hkl, hs.w hkl⟩ (hh.ws (List.getElem?_eq_getElem hkl)).okR fun y' hy' => wp_asA ?_)
            refine wp_gd (by rw [hy'.1]; rfl) (wp_gd (by rw [hy'.1, hb.1]; rfl) (wp_ret ?_))
            have hput : putN y 0 y' = y' := by
              unfold putN
              rw [List.take_zero, List.nil_append, Nat.zero_add, hy'.1, ← hb.1, List.drop_length, List.append_nil]
            refine ⟨(S ++ [k], y'), by rw [wr_succ hi ho.lt, hput], rfl, ?_, ser_snoc hser ⟨hkS, d, hd, hnx⟩, ?_⟩
            · rw [List.take_succ_eq_append_getElem hi, hS, hk]; simp
            · show Board y' (nowS l (S ++ [k]))
              rw [nowS_snoc' (List.getElem?_eq_getElem hkl)]; exact hy'
    · rw [holen] at hc; simp at hc; omega
  · rintro ⟨S, y⟩ H2 ⟨rfl, hS, hser, hb⟩
    simp only at hS hser
    refine wp_uI (wp_uA (wp_nl (wp_cond (fun hc => ?_) (fun _ => wp_ret ?_))))
    · rw [holen] at hc; simp at hc
    · rw [List.take_length] at hS
      exact wp_uA (wp_nl (wp_ret (h true ⟨fun _ => ⟨hol, S, hS, hser⟩, fun _ => rfl⟩)))
end Go.Proofs.Ythlfemjbeihmbaa.HL
