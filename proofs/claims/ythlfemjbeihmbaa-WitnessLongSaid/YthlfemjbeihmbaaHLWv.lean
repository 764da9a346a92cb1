/- The law of long histories answers true. Conditions: none. -/
import Derived.Test.YthlfemjbeihmbaaHLWu
namespace Go.Proofs.Ythlfemjbeihmbaa.HL
open Go
open Classical

def d0 : Dd := ⟨⟨none, 0, 0, none⟩, ⟨none, 0, 0, none⟩, [], []⟩
theorem repL_flat (n : Nat) (a b : HV) : repL n [a, b] = (List.replicate n [a, b]).flatten := by
  induction n with
  | zero => rfl
  | succ n ih => rw [List.replicate_succ, List.flatten_cons, ← ih]; rfl
theorem rep_flat1 (n : Nat) (x : Int) : List.replicate n (I x) = (List.replicate n [I x]).flatten := by
  induction n with
  | zero => rfl
  | succ n ih => rw [List.replicate_succ, List.replicate_succ, List.flatten_cons, ← ih]; rfl
theorem rep_at {n i : Nat} {d : Dd} (h : (List.replicate n d0)[i]? = some d) : d = d0 := by
  rw [List.getElem?_replicate] at h
  split at h
  · exact (Option.some.inj h).symm
  · cases h
theorem rep_can (n : Nat) : CanP (List.replicate n d0) := by
  have hs : ∀ least, Single [] least := fun least => ⟨by simp, fun i e h => by simp at h⟩
  refine ⟨fun d hd => ?_, fun d hd => ?_⟩
  · obtain rfl := (List.mem_replicate.1 hd).2
    exact ⟨hs 0, hs 1⟩
  · obtain rfl := (List.mem_replicate.1 hd).2
    exact ⟨fun e he => (by cases he), fun e he => (by cases he)⟩
theorem rep_noSelf (n : Nat) : NoSelf (List.replicate n d0) := by
  intro d hd
  obtain rfl := (List.mem_replicate.1 hd).2
  rintro ⟨a, ha, _⟩
  cases ha
theorem rep_ahd (n i k : Nat) : ¬ Ahd (List.replicate n d0) i k := by
  rintro ⟨a, b, ha, hb, h⟩
  obtain rfl := rep_at ha
  obtain rfl := rep_at hb
  rcases h with ⟨x, hx, _⟩ | ⟨x, hx, _⟩ | ⟨x, hx, _⟩ <;> cases hx
theorem rep_pick {n : Nat} {S : List Nat} {k : Nat} : Pick (Ahd (List.replicate n d0)) (List.replicate n d0).length S k ↔ k < n ∧ k ∉ S := by
  unfold Pick
  constructor
  · rintro ⟨h1, h2, _⟩; exact ⟨by simpa using h1, h2⟩
  · rintro ⟨h1, h2⟩; exact ⟨by simpa using h1, h2, fun i _ _ _ => rep_ahd n i k⟩
theorem rep_chain {n : Nat} {S : List Nat} (h : Chain (Ahd (List.replicate n d0)) (List.replicate n d0).length S) : ∀ t, t ≤ S.length → S.take t = List.range t := by
  intro t
  induction t with
  | zero => intro _; simp
  | succ t ih =>
    intro ht
    have he := ih (by omega)
    obtain ⟨h1, h2⟩ := h t _ (List.getElem?_eq_getElem (show t < S.length by omega))
    rw [List.take_succ_eq_append_getElem (show t < S.length by omega), he, List.range_succ]
    rw [he] at h1 h2
    rw [rep_pick] at h1
    obtain ⟨h3, h4⟩ := h1
    have h5 : ¬ S[t] < t := by simpa using h4
    have : S[t] = t := by
      rcases Nat.lt_or_ge t S[t] with h6 | h6
      · exact absurd (rep_pick.2 ⟨by omega, by simp⟩) (h2 t h6)
      · omega
    rw [this]
theorem rep_ser {n : Nat} {S : List Nat} (h1 : S.Nodup) (h2 : ∀ x ∈ S, x < n) : Ser (List.replicate n d0) S := by
  intro t k hk
  obtain ⟨ht, rfl⟩ := List.getElem?_eq_some_iff.1 hk
  refine ⟨fun hm => ?_, d0, ?_, fun e he => (by cases he), fun e he => (by cases he)⟩
  · rw [List.mem_take_iff_getElem] at hm
    obtain ⟨j, hj, he⟩ := hm
    have := (List.pairwise_iff_getElem.1 h1) j t (by omega) ht (by omega)
    exact this he
  · rw [List.getElem?_replicate, if_pos (h2 _ (List.getElem_mem ht))]

theorem s7_wp {D : HV → List HV → M HV} (hD : ∀ xs, D (.func 19 [] []) xs = s19 noD xs) {H : Heap} {x : Int} : wp (s7 D [I x]) Yes H := by
  unfold s7
  refine wp_fin (wp_uI (wp_nl ?_))
  refine wp_bnd (s8_wp hD fun H1 k1 => wp_asB (wp_cond (fun c => by simp at c) (fun _ => ?_)))
  refine wp_jn (wp.mono (Q := LB (x < 0 ∨ 300 < x) H1) ?_ ?_)
  · refine wp_cond (fun c => wp_ret (.mk _ ?_)) (fun c => wp_ret (.mk _ ?_))
    · simp at c; exact ⟨fun _ => .inl c, fun _ => rfl⟩
    · simp at c ⊢; omega
  rintro _ H1 ⟨b, rfl, hb, rfl⟩
  refine wp_uB (wp_nl (wp_cond (fun _ => wp_ret rfl) (fun c => ?_)))
  have hx : ¬ (x < 0 ∨ 300 < x) := fun hh => by have := hb.2 hh; rw [c] at this; cases this
  obtain ⟨n, rfl⟩ : ∃ n : Nat, x = n := ⟨x.toNat, by omega⟩
  have hn : n ≤ 300 := by omega
  refine wp_gd (by simp) (wp_gd (by simp) (wp_gd (decide_eq_true (by simp only [room, Int.toNat_natCast]; omega)) (wp_nw ?_)))
  rw [Int.toNat_natCast]
  generalize hH2 : H1.push (.cells (repL n [.sl ⟨none, 0, 0, none⟩, .sl ⟨none, 0, 0, none⟩]) false) = H2
  have k2 : Keeps H1 H2 := by rw [← hH2]; exact Keeps.push _ _
  have dd : Deeds H2 ⟨some (H1.n, 0), n, n, none⟩ (List.replicate n d0) := by
    refine ⟨?_, fun d hd => ?_⟩
    · rw [← hH2]
      refine slr_push _ (by simp) ?_ ?_ (by simp; omega)
      · rw [repL_flat, List.map_replicate]; rfl
      · intro l hl
        rw [List.map_replicate] at hl
        rw [(List.mem_replicate.1 hl).2]; rfl
    · obtain rfl := (List.mem_replicate.1 hd).2
      have e0 : Ents H2 ⟨none, 0, 0, none⟩ [] := ⟨rfl, by simp, Nat.le_refl _, .inl rfl, by simp, .inl ⟨rfl, rfl⟩⟩
      exact ⟨e0, e0⟩
  have ff : ∀ d ∈ List.replicate n d0, DFit d := fun d hd => by
    obtain rfl := (List.mem_replicate.1 hd).2
    exact ⟨fun e he => (by cases he), fun e he => by cases he⟩
  have hlen : (List.replicate n d0).length = n := by simp
  refine wp_bnd (s10_wp dd ff hD (fun hh => ?_) (fun _ hnc => absurd (rep_can n) hnc) (fun h16 hc H3 k3 hst => ?_) (fun h16 hc hns S s2 H3 hS hch ho => ?_))
  · rw [hlen] at hh
    refine wp_asT (wp_uL (wp_uI (wp_nl (wp_cond (fun _ => ?_) (fun c => by simp at c; omega)))))
    refine wp_jn (wp.mono (Q := fun lf _ => lf = .norm [.bool true]) ?_ ?_)
    · refine wp_cond (fun _ => ?_) (fun c => by cases c)
      refine wp_cond (fun _ => ?_) (fun c => by cases c)
      refine wp_gd (by simp) (wp_gd (by simp) (wp_gd (decide_eq_true (by simp only [room]; omega)) (wp_nw ?_)))
      have io : Ints (H2.push (.cells (repL n [I 0]) false)) ⟨some (H2.n, 0), n, n, none⟩ (List.replicate n 0) := by
        refine slr_push _ (by simp) ?_ ?_ (by simp; omega)
        · rw [repL_one, List.map_replicate]; exact rep_flat1 n 0
        · intro l hl
          rw [List.map_replicate] at hl
          rw [(List.mem_replicate.1 hl).2]; rfl
      refine wp_bnd (s15_wp (dd.keeps (Keeps.push _ _)) io fun z H4 k4 hz => wp_asB (wp_ret ?_))
      have : z = false := by
        cases z
        · rfl
        · have := (hz.1 rfl).1; rw [hlen] at this; omega
      rw [this]; rfl
    · rintro _ H4 rfl
      exact wp_uB (wp_nl (wp_ret rfl))
  · exfalso
    rw [hlen] at h16
    have hs : Ser (List.replicate n d0) (List.range n) := rep_ser List.nodup_range (by simp)
    have hst' : Stuck (List.replicate n d0) := hst
    exact hst'.no ⟨hc⟩ hs (by simp)
  · rw [hlen] at h16
    have hSn : S.length = n := by rw [hS, hlen]
    have hSr : S = List.range n := by
      have := rep_chain hch S.length (Nat.le_refl _)
      rw [List.take_length, hSn] at this; exact this
    subst hSr
    have i1 : Ints H3 s2 ((List.range n).map fun x : Nat => (x : Int)) := ho.ints
    have l1 : s2.len = n := by rw [i1.len]; simp
    refine wp_asT (wp_uL (wp_uI (wp_nl (wp_cond (fun c => by simp at c; omega) (fun _ => ?_)))))
    refine wp_jn (wp.mono (Q := fun lf H' => lf = .norm [.bool false] ∧ H' = H3) (wp_cond (fun c3 => by cases c3) (fun c3 => wp_ret ⟨by rw [l1]; simp, rfl⟩)) ?_)
    rintro _ H3 ⟨rfl, rfl⟩
    refine wp_uB (wp_nl (wp_cond (fun c3 => by cases c3) (fun _ => ?_)))
    refine wp_gd (by simp) (wp_gd (by simp) (wp_gd (decide_eq_true (by simp only [room]; omega)) (wp_nw ?_)))
    let bk : Nat → List Int := fun i => (List.range n).map fun j => if j < i then (n : Int) - 1 - j else 0
    have bkl : ∀ i, (bk i).length = n := fun i => by simp [bk]
    have bkg : ∀ i j, j < n → (bk i)[j]? = some (if j < i then (n : Int) - 1 - j else 0) := fun i j hj => by simp [bk, hj]
    have n0 : Nums (H3.push (.cells (repL n [I 0]) false)) H3.n (bk 0) := by
      refine ⟨by simp [Heap.push], ?_, by rw [bkl]; omega⟩
      simp only [Heap.push, if_pos]
      rw [repL_one]
      congr 1
      apply List.ext_getElem?
      intro j
      rw [List.getElem?_map, List.getElem?_replicate]
      by_cases hj : j < n
      · rw [bkg 0 j hj, if_pos hj, if_neg (by omega)]; rfl
      · rw [List.getElem?_eq_none (by rw [bkl]; omega), if_neg hj]; rfl
    refine wp_blk ?_
    refine wp_range (σ := Unit) n (fun i _ => [I i]) (fun i _ H' => Keeps H3 H' ∧ Nums H' H3.n (bk i)) () rfl ⟨Keeps.push _ _, n0⟩ ?_ ?_
    · rintro i _ H' hi ⟨kp, nm⟩
      have hi' : i < ((List.range n).map fun x : Nat => (x : Int)).length := by simpa using hi
      have a1 := (i1.keeps kp).at hi'
      have g1 : ((List.range n).map fun x : Nat => (x : Int))[i] = (i : Int) := by simp
      rw [g1] at a1
      refine wp_uI (wp_nl (wp_cond (fun _ => ?_) (fun hc => ?_)))
      · refine wp_ixC (i1.keeps kp) (by omega) a1 (fun _ _ => wp_asI ?_)
        refine wp_cond (fun c3 => by simp at c3) (fun _ => ?_)
        refine wp_numset nm (by rw [bkl]; rfl) (by omega) (by rw [bkl]; simpa using hi) (fun nm2 => wp_ret ⟨(), by rw [wr_succ hi (by omega)], kp.set (Nat.le_refl _) _, ?_⟩)
        have : (bk i).set (i : Int).toNat (wr (wr ((n : Int) - 1) - i)) = bk (i + 1) := by
          rw [wr_small (n := (n : Int) - 1) (by omega) (by omega), wr_small (by omega) (by omega), Int.toNat_natCast]
          refine set_eq_of (bkl _) (bkl _) hi ?_ ?_
          · rw [bkg _ _ hi, if_pos (by omega)]
          · intro j hj hji
            rw [bkg _ _ hj, bkg _ _ hj]
            have : (j < i + 1) ↔ j < i := by omega
            simp only [this]
        rw [← this]; exact nm2
      · rw [l1] at hc; simp at hc; omega
    · rintro _ H' ⟨kp, nm⟩
      refine wp_uI (wp_nl (wp_cond (fun hc => ?_) (fun _ => wp_ret ?_)))
      · rw [l1] at hc; simp at hc
      have dd3 := (dd.keeps (ho.keeps)).keeps kp
      refine wp_nl ?_
      refine wp_jn (wp.mono (Q := fun lf _ => lf = .norm [.bool true]) ?_ ?_)
      · refine wp_bnd (s15_wp dd3 (i1.keeps kp) fun z H4 k4 hz => wp_asB ?_)
        have : z = true := hz.2 ⟨by rw [hlen]; exact h16, hc, by simp, List.range n, rfl, rep_ser List.nodup_range (by simp)⟩
        subst this
        refine wp_cond (fun _ => ?_) (fun c => by cases c)
        have ib : Ints H4 ⟨some (H3.n, 0), n, n, none⟩ (bk n) := by
          have h1 := nm.ints
          rw [bkl] at h1
          exact h1.keeps k4
        refine wp_bnd (s15_wp (dd3.keeps k4) ib fun z H5 k5 hz => wp_asB (wp_ret ?_))
        have : z = true := by
          refine hz.2 ⟨by rw [hlen]; exact h16, hc, by simp [bk], (List.range n).map fun j => n - 1 - j, ?_, rep_ser ?_ ?_⟩
          · rw [List.map_map]
            apply List.map_congr_left
            intro j hj
            have hj : j < n := by simpa using hj
            rw [if_pos hj]
            simp only [Function.comp]
            omega
          · unfold List.Nodup
            rw [List.pairwise_iff_getElem]
            intro i j hi hj hij
            simp at hi hj ⊢
            omega
          · intro y hy
            obtain ⟨j, hj, rfl⟩ := List.mem_map.1 hy
            have hj : j < n := by simpa using hj
            omega
        rw [this]
      · rintro _ H4 rfl
        exact wp_uB (wp_nl (wp_ret rfl))
end Go.Proofs.Ythlfemjbeihmbaa.HL
