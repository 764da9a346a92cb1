/- What landing leaves; all versions: plainly. Conditions: none. -/
import Derived.Test.YtoogohhlmdgdpaaGreatHLAty
namespace Go.Proofs.YtoogohhlmdgdpaaGreat.HL
open Go

/-- all that was read is so. -/
def RdV (v : Vw) (t : Tri) : Prop := ∀ e ∈ t.rd, verOf v e.k e.i = e.v
section
variable {v : Vw} {t : Tri}
theorem RdV.note {k i : Int} (h : RdV v t) : RdV v (noteT v t k i).2 := by
  intro e he
  simp only [noteT, noteS] at he
  split at he
  · exact h e he
  · split at he
    · split at he
      · rcases List.mem_append.1 he with he | he
        · exact h e he
        · simp at he; subst he; rfl
      · exact h e he
    · rcases List.mem_append.1 he with he | he
      · exact h e he
      · simp at he; subst he; rfl
theorem RdV.load {i : Int} (h : RdV v t) : RdV v (loadT v t i).2 := by
  unfold loadT
  split
  · exact h
  · split
    · exact h
    · split <;> exact h.note
theorem RdV.touch {i : Int} (h : RdV v t) : RdV v (touchT v t i).2 := by
  unfold touchT
  split
  · exact h
  · split
    · exact h
    · exact h.note
theorem RdV.mod {i : Int} {g : Fl → Fl} (h : RdV v t) : RdV v (modT v t i g).2 := by
  have h' := h.touch (i := i)
  unfold modT
  simp only
  split <;> exact h'
theorem RdV.doT {d : Dee} (h : RdV v t) : RdV v (doT v t d) := by
  unfold HL.doT
  split
  · exact h.load
  split
  · unfold storeT; split <;> exact h
  split
  · unfold readT; split <;> exact h.touch
  split
  · exact h.mod
  split
  · exact h.mod
  split
  · exact h.mod
  split
  · unfold renameT
    split
    · exact h
    · split
      · simp only; split <;> exact h.touch.touch
      · exact h.touch
  split
  · exact h.mod
  split
  · unfold recvT
    split
    · exact h
    · split
      · split <;> exact h.note
      · exact h.note
  · exact h
theorem RdV.valid (h : RdV v t) : validB v t.rd = true := validB_iff.2 h
end
/-- so many deeds. -/
def dosT (v : Vw) (t : Tri) (l : List Dee) : Tri := l.foldl (doT v) t
theorem dosT_snoc {v : Vw} {t : Tri} {l : List Dee} {i : Nat} {d : Dee} (h : l[i]? = some d) : dosT v t (l.take (i + 1)) = doT v (dosT v t (l.take i)) d := by
  obtain ⟨hi, rfl⟩ := List.getElem?_eq_some_iff.1 h
  unfold dosT
  rw [List.take_succ_eq_append_getElem hi, List.foldl_append]; rfl
theorem dosT_ok {v : Vw} (hv : VwP v) : ∀ {l : List Dee} {t : Tri}, TOk v t → TOk v (dosT v t l)
  | [], _, h => h
  | d :: l, t, h => by
    show TOk v (dosT v (doT v t d) l)
    exact dosT_ok hv (h.doT hv)
theorem dosT_rd {v : Vw} : ∀ {l : List Dee} {t : Tri}, RdV v t → RdV v (dosT v t l)
  | [], _, h => h
  | d :: l, t, h => by
    show RdV v (dosT v (doT v t d) l)
    exact dosT_rd h.doT
theorem tri0_ok {v : Vw} {n : Int} {r : Int × Int × Int × Int} (hv : VwP v) : TOk v (tri0 n r) := by
  refine ⟨fun e he => (by cases he), List.Pairwise.nil, .nil, .nil, rfl, fun s c h => ?_, fun s c x l h hx hl => ?_, fun e he => (by cases he), fun e he => (by cases he)⟩
  · have := List.mem_of_getElem? h
    simp [tri0] at this; omega
  · have := List.mem_of_getElem? h
    simp [tri0] at this
    have := hv.pl s x l hx hl
    omega
theorem tri0_rd {v : Vw} {n : Int} {r : Int × Int × Int × Int} : RdV v (tri0 n r) := by intro e he; cases he

/-! landing -/
section
variable {γ : Type} {n : Int}
theorem landG_other : ∀ {dc : List (Int × γ)} {cs : List (γ × Int)} {j : Nat}, (∀ e ∈ dc, e.1.toNat ≠ j) → (landG cs dc n)[j]? = cs[j]?
  | [], _, _, _ => rfl
  | e :: r, cs, j, h => by
    show (landG (cs.set e.1.toNat (e.2, n)) r n)[j]? = _
    rw [landG_other (fun x hx => h x (List.mem_cons_of_mem _ hx)), List.getElem?_set, if_neg (h e List.mem_cons_self)]
theorem Rise.toNat {dc : List (Int × γ)} (h : Rise dc) (h0 : ∀ e ∈ dc, 0 ≤ e.1) : dc.Pairwise fun a b => a.1.toNat < b.1.toNat :=
  List.Pairwise.imp_of_mem (fun {a b} ha hb hab => by have := h0 a ha; omega) h
theorem landG_at : ∀ {dc : List (Int × γ)} {cs : List (γ × Int)} {e : Int × γ}, dc.Pairwise (fun a b => a.1.toNat < b.1.toNat) → e ∈ dc → e.1.toNat < cs.length → (landG cs dc n)[e.1.toNat]? = some (e.2, n)
  | x :: r, cs, e, h, he, hl => by
    obtain ⟨h1, h2⟩ := List.pairwise_cons.1 h
    show (landG (cs.set x.1.toNat (x.2, n)) r n)[e.1.toNat]? = _
    rcases List.mem_cons.1 he with rfl | he
    · rw [landG_other (fun y hy => by have := h1 y hy; omega), List.getElem?_set, if_pos rfl, if_pos hl]
    · exact landG_at h2 he (by simpa using hl)
theorem landG_count : ∀ {dc : List (Int × γ)} {cs : List (γ × Int)}, dc.Pairwise (fun a b => a.1.toNat < b.1.toNat) → (∀ e ∈ dc, ∃ x, cs[e.1.toNat]? = some x ∧ x.2 ≠ n) → (landG cs dc n).countP (fun x => decide (x.2 = n)) = cs.countP (fun x => decide (x.2 = n)) + dc.length
  | [], _, _, _ => rfl
  | e :: r, cs, h, hc => by
    obtain ⟨h1, h2⟩ := List.pairwise_cons.1 h
    show (landG (cs.set e.1.toNat (e.2, n)) r n).countP _ = _
    rw [landG_count h2 (fun y hy => ?_)]
    · obtain ⟨x, hx, hn⟩ := hc e List.mem_cons_self
      obtain ⟨hl, hxe⟩ := List.getElem?_eq_some_iff.1 hx
      rw [List.countP_set hl, hxe]
      simp [hn]; omega
    · obtain ⟨x, hx, hn⟩ := hc y (List.mem_cons_of_mem _ hy)
      have := h1 y hy
      exact ⟨x, by rw [List.getElem?_set, if_neg (by omega)]; exact hx, hn⟩
theorem landP_count {ps : List (Int × Int)} {cu : List Int} (hp : ∀ x ∈ ps, x.2 ≠ n) : ∀ {k : Nat}, k ≤ ps.length → (landP ps cu n k).countP (fun x => decide (x.2 = n)) = (wrSock cu n k).length
  | 0, _ => by
    show ps.countP _ = 0
    rw [List.countP_eq_zero]; intro x hx; simpa using hp x hx
  | k + 1, h => by
    have ih := landP_count (cu := cu) hp (k := k) (by omega)
    have hl := landP_len (ps := ps) (cu := cu) (n := n) (k := k)
    have hat : (landP ps cu n k)[k]? = ps[k]? := landP_at (Nat.le_refl _)
    rw [landP_succ, wrSock_succ]
    unfold landP1
    by_cases hc : 0 < (cu[k]?).getD 0
    · rw [if_pos hc, if_pos hc, List.countP_set (by omega), ih]
      have hk : (landP ps cu n k)[k]'(by omega) = ps[k] := by
        have := hat
        rw [List.getElem?_eq_getElem (by omega), List.getElem?_eq_getElem (by omega)] at this
        exact Option.some.inj this
      have hne := hp ps[k] (List.getElem_mem _)
      rw [hk]
      simp [hne]
    · rw [if_neg hc, if_neg hc, ih]; simp
theorem landP_in {ps : List (Int × Int)} {cu : List Int} : ∀ {k s : Nat}, s < k → k ≤ ps.length → 0 < (cu[s]?).getD 0 → (landP ps cu n k)[s]? = some (((ps[s]?).map Prod.fst).getD 0 + (cu[s]?).getD 0, n)
  | k + 1, s, h, hl, hc => by
    rw [landP_succ]
    unfold landP1
    by_cases hs : s = k
    · subst hs
      rw [if_pos hc, List.getElem?_set, if_pos rfl, if_pos (by rw [landP_len]; omega), landP_at (Nat.le_refl _)]
    · split
      · rw [List.getElem?_set, if_neg (by omega)]; exact landP_in (by omega) (by omega) hc
      · exact landP_in (by omega) (by omega) hc
theorem landP_out {ps : List (Int × Int)} {cu : List Int} : ∀ {k s : Nat}, ¬ 0 < (cu[s]?).getD 0 → (landP ps cu n k)[s]? = ps[s]?
  | 0, _, _ => rfl
  | k + 1, s, hc => by
    rw [landP_succ]
    unfold landP1
    split
    · rename_i h
      rw [List.getElem?_set, if_neg (fun e => by subst e; exact hc h)]; exact landP_out hc
    · exact landP_out hc
end
/-- versions that there are. -/
def VerLe (v : Vw) (n : Int) : Prop := (∀ x ∈ v.cells, x.2 ≤ n) ∧ (∀ x ∈ v.files, x.2 ≤ n) ∧ (∀ x ∈ v.places, x.2 ≤ n)
theorem landG_le {γ : Type} {n : Int} : ∀ {dc : List (Int × γ)} {cs : List (γ × Int)}, (∀ x ∈ cs, x.2 ≤ n) → ∀ x ∈ landG cs dc n, x.2 ≤ n
  | [], _, h => h
  | e :: r, cs, h => by
    show ∀ x ∈ landG (cs.set e.1.toNat (e.2, n)) r n, x.2 ≤ n
    refine landG_le fun x hx => ?_
    rcases List.mem_or_eq_of_mem_set hx with hx | rfl
    · exact h x hx
    · exact Int.le_refl _
theorem landG_mem {γ : Type} {n : Int} {P : γ → Prop} : ∀ {dc : List (Int × γ)} {cs : List (γ × Int)}, (∀ x ∈ cs, P x.1) → (∀ e ∈ dc, P e.2) → ∀ x ∈ landG cs dc n, P x.1
  | [], _, h, _ => h
  | e :: r, cs, h, hd => by
    show ∀ x ∈ landG (cs.set e.1.toNat (e.2, n)) r n, P x.1
    refine landG_mem (fun x hx => ?_) (fun y hy => hd y (List.mem_cons_of_mem _ hy))
    rcases List.mem_or_eq_of_mem_set hx with hx | rfl
    · exact h x hx
    · exact hd e List.mem_cons_self
theorem VwP.land {v : Vw} {t : Tri} (hv : VwP v) (ht : TOk v t) : VwP (landT v t) := by
  refine ⟨⟨landC_len.trans hv.ok.c, landF_len.trans hv.ok.f, hv.ok.t, landP_len.trans hv.ok.p⟩, fun s x l hx hl => ?_, hv.tx, landG_mem hv.fl ht.fl⟩
  have hl : v.texts[s]? = some l := hl
  have hx : (landP v.places t.cu (v.clock + 1) 3)[s]? = some x := hx
  have hs : s < 3 := by have := (List.getElem?_eq_some_iff.1 hl).1; rw [hv.ok.t] at this; exact this
  obtain ⟨c, hc⟩ : ∃ c, t.cu[s]? = some c := ⟨_, List.getElem?_eq_getElem (by rw [ht.cu]; exact hs)⟩
  obtain ⟨p, hp⟩ : ∃ c, v.places[s]? = some c := ⟨_, List.getElem?_eq_getElem (by rw [hv.ok.p]; exact hs)⟩
  have h1 := hv.pl _ _ _ hp hl
  have h2 := ht.cr _ _ hc
  have h3 := ht.cn _ _ _ _ hc hp hl
  by_cases hpos : 0 < (t.cu[s]?).getD 0
  · rw [landP_in hs (by rw [hv.ok.p]; decide) hpos, hp, hc] at hx
    cases hx
    simp; omega
  · rw [landP_out hpos, hp] at hx
    cases hx
    exact h1
theorem VerLe.land {v : Vw} {t : Tri} (h : VerLe v v.clock) : VerLe (landT v t) (v.clock + 1) := by
  refine ⟨landG_le fun x hx => by have := h.1 x hx; omega, landG_le fun x hx => by have := h.2.1 x hx; omega, ?_⟩
  have key : ∀ k, ∀ x ∈ landP v.places t.cu (v.clock + 1) k, x.2 ≤ v.clock + 1 := by
    intro k
    induction k with
    | zero => intro x hx; have := h.2.2 x hx; omega
    | succ k ih =>
      rw [landP_succ]
      unfold landP1
      split
      · intro x hx
        rcases List.mem_or_eq_of_mem_set hx with hx | rfl
        · exact ih x hx
        · exact Int.le_refl _
      · exact ih
  exact key 3
end Go.Proofs.YtoogohhlmdgdpaaGreat.HL
namespace Go.Proofs.YtoogohhlmdgdpaaGreat.HL
open Go

section
variable {v : Vw} {t : Tri}
theorem wr_ver (hv : VwP v) (ht : TOk v t) {e : Rd} (he : e ∈ wrT t (v.clock + 1)) : e.v = v.clock + 1 ∧ KOk e.k e.i ∧ verOf (landT v t) e.k e.i = v.clock + 1 := by
  unfold wrT at he
  rcases List.mem_append.1 he with he | he
  · rcases List.mem_append.1 he with he | he
    · obtain ⟨x, hx, rfl⟩ := List.mem_map.1 he
      have hi := ht.dc.i x hx
      refine ⟨rfl, ⟨by simp only; omega, hi⟩, ?_⟩
      have := landG_at (n := v.clock + 1) (cs := v.cells) (ht.dc.r.toNat fun e he => (ht.dc.i e he).1) hx (by rw [hv.ok.c]; omega)
      unfold verOf landT
      simp only [if_pos]
      unfold landC
      rw [this]; rfl
    · obtain ⟨x, hx, rfl⟩ := List.mem_map.1 he
      have hi := ht.df.i x hx
      have h6 := ht.d6 x hx
      refine ⟨rfl, ⟨by simp only; omega, hi⟩, ?_⟩
      have := landG_at (n := v.clock + 1) (cs := v.files) (ht.df.r.toNat fun e he => (ht.df.i e he).1) hx (by rw [hv.ok.f]; omega)
      unfold verOf landT
      simp only
      rw [if_neg (by decide), if_pos trivial]
      unfold landF
      rw [this]; rfl
  · unfold wrSock at he
    obtain ⟨s, hs, rfl⟩ := List.mem_map.1 he
    obtain ⟨h1, h2⟩ := List.mem_filter.1 hs
    have h3 := List.mem_range.1 h1
    refine ⟨rfl, ⟨by simp only; omega, by simp only; omega⟩, ?_⟩
    have := landP_in (n := v.clock + 1) (ps := v.places) (cu := t.cu) h3 (by rw [hv.ok.p]; decide) (by simpa using h2)
    unfold verOf landT
    simp only
    rw [if_neg (by decide), if_neg (by decide)]
    rw [show ((s : Int)).toNat = s by simp, this]; rfl
abbrev keyR (e : Rd) : Int := 8 * e.k + e.i
theorem wr_rise (ht : TOk v t) {n : Int} : (wrT t n).Pairwise fun a b => keyR a < keyR b := by
  unfold wrT
  refine List.pairwise_append.2 ⟨List.pairwise_append.2 ⟨?_, ?_, ?_⟩, ?_, ?_⟩
  · unfold wrCells
    rw [List.pairwise_map]
    exact ht.dc.r.imp fun h => by simp only [keyR]; omega
  · unfold wrFiles
    rw [List.pairwise_map]
    exact ht.df.r.imp fun h => by simp only [keyR]; omega
  · intro a ha b hb
    obtain ⟨x, hx, rfl⟩ := List.mem_map.1 ha
    obtain ⟨y, hy, rfl⟩ := List.mem_map.1 hb
    have := ht.dc.i x hx
    have := ht.df.i y hy
    simp only [keyR]; omega
  · unfold wrSock
    rw [List.pairwise_map]
    refine List.Pairwise.imp (R := fun a b => a < b) (fun h => by simp only [keyR]; omega) ?_
    exact List.Pairwise.filter _ List.pairwise_lt_range
  · intro a ha b hb
    unfold wrSock at hb
    obtain ⟨s, hs, rfl⟩ := List.mem_map.1 hb
    rcases List.mem_append.1 ha with ha | ha
    · obtain ⟨x, hx, rfl⟩ := List.mem_map.1 ha
      have := ht.dc.i x hx
      simp only [keyR]; omega
    · obtain ⟨x, hx, rfl⟩ := List.mem_map.1 ha
      have := ht.df.i x hx
      simp only [keyR]; omega
theorem nowV_take (ok : VOk v) : (nowV v).take 24 = v.cells.map Prod.snd ++ (v.files.map Prod.snd ++ ([0, 0] ++ (v.places.map Prod.snd ++ [0, 0, 0, 0, 0]))) := by
  apply List.ext_getElem?
  intro j
  by_cases hj : j < 24
  · rw [List.getElem?_take, if_pos hj, nowV_at v (by omega)]
    unfold nowAt
    rw [if_neg (by omega)]
    unfold verOf
    by_cases h8 : j < 8
    · rw [if_pos (by omega), List.getElem?_append_left (by rw [List.length_map, ok.c]; exact h8), List.getElem?_map]
      rw [show (((j % 8 : Nat) : Int)).toNat = j by omega]
      rw [List.getElem?_eq_getElem (by rw [ok.c]; exact h8)]; rfl
    · rw [if_neg (by omega), List.getElem?_append_right (by rw [List.length_map, ok.c]; omega)]
      rw [List.length_map, ok.c]
      by_cases h16 : j < 16
      · rw [if_pos (by omega), show (((j % 8 : Nat) : Int)).toNat = j - 8 by omega]
        by_cases h14 : j < 14
        · rw [List.getElem?_append_left (by rw [List.length_map, ok.f]; omega), List.getElem?_map]
          rw [List.getElem?_eq_getElem (by rw [ok.f]; omega)]; rfl
        · rw [List.getElem?_append_right (by rw [List.length_map, ok.f]; omega), List.length_map, ok.f]
          rw [List.getElem?_eq_none (l := v.files) (by rw [ok.f]; omega)]
          rw [List.getElem?_append_left (by simp; omega)]
          obtain rfl | rfl : j = 14 ∨ j = 15 := by omega
          · rfl
          · rfl
      · rw [if_neg (by omega), show (((j % 8 : Nat) : Int)).toNat = j - 16 by omega]
        rw [List.getElem?_append_right (by rw [List.length_map, ok.f]; omega), List.length_map, ok.f]
        rw [List.getElem?_append_right (by simp; omega)]
        rw [show j - 8 - 6 - ([0, 0] : List Int).length = j - 16 by simp; omega]
        by_cases h19 : j < 19
        · rw [List.getElem?_append_left (by rw [List.length_map, ok.p]; omega), List.getElem?_map]
          rw [List.getElem?_eq_getElem (by rw [ok.p]; omega)]; rfl
        · rw [List.getElem?_append_right (by rw [List.length_map, ok.p]; omega), List.length_map, ok.p]
          rw [List.getElem?_eq_none (l := v.places) (by rw [ok.p]; omega)]
          obtain rfl | rfl | rfl | rfl | rfl : j = 19 ∨ j = 20 ∨ j = 21 ∨ j = 22 ∨ j = 23 := by omega
          all_goals rfl
  · rw [List.getElem?_eq_none (by rw [List.length_take]; omega), List.getElem?_eq_none (by simp [ok.c, ok.f, ok.p]; omega)]
theorem wr_count (hv : VwP v) (ht : TOk v t) (hl : VerLe v v.clock) (hc : 0 ≤ v.clock) : ((nowV (landT v t)).take 24).countP (fun x => decide (x = v.clock + 1)) = (wrT t (v.clock + 1)).length := by
  rw [nowV_take (hv.land ht).ok]
  have z2 : ([0, 0] : List Int).countP (fun x => decide (x = v.clock + 1)) = 0 := by rw [List.countP_eq_zero]; simp; omega
  have z5 : ([0, 0, 0, 0, 0] : List Int).countP (fun x => decide (x = v.clock + 1)) = 0 := by rw [List.countP_eq_zero]; simp; omega
  simp only [List.countP_append, z2, z5, List.countP_map]
  have e1 : (landT v t).cells.countP ((fun x => decide (x = v.clock + 1)) ∘ Prod.snd) = t.dc.length := by
    have := landG_count (n := v.clock + 1) (cs := v.cells) (ht.dc.r.toNat fun e he => (ht.dc.i e he).1) (fun e he => by
      have := ht.dc.i e he
      exact ⟨_, List.getElem?_eq_getElem (by rw [hv.ok.c]; omega), by have := hl.1 _ (List.getElem_mem (l := v.cells) (n := e.1.toNat) (by rw [hv.ok.c]; omega)); omega⟩)
    have h0 : v.cells.countP (fun x => decide (x.2 = v.clock + 1)) = 0 := by rw [List.countP_eq_zero]; intro x hx; have := hl.1 x hx; simp; omega
    rw [h0, Nat.zero_add] at this
    exact this
  have e2 : (landT v t).files.countP ((fun x => decide (x = v.clock + 1)) ∘ Prod.snd) = t.df.length := by
    have := landG_count (n := v.clock + 1) (cs := v.files) (ht.df.r.toNat fun e he => (ht.df.i e he).1) (fun e he => by
      have := ht.df.i e he
      have := ht.d6 e he
      exact ⟨_, List.getElem?_eq_getElem (by rw [hv.ok.f]; omega), by have := hl.2.1 _ (List.getElem_mem (l := v.files) (n := e.1.toNat) (by rw [hv.ok.f]; omega)); omega⟩)
    have h0 : v.files.countP (fun x => decide (x.2 = v.clock + 1)) = 0 := by rw [List.countP_eq_zero]; intro x hx; have := hl.2.1 x hx; simp; omega
    rw [h0, Nat.zero_add] at this
    exact this
  have e3 : (landT v t).places.countP ((fun x => decide (x = v.clock + 1)) ∘ Prod.snd) = (wrSock t.cu (v.clock + 1) 3).length :=
    landP_count (fun x hx => by have := hl.2.2 x hx; omega) (by rw [hv.ok.p]; decide)
  rw [e1, e2, e3]
  simp [wrT, wrCells, wrFiles]
end
end Go.Proofs.YtoogohhlmdgdpaaGreat.HL
namespace Go.Proofs.YtoogohhlmdgdpaaGreat.HL
open Go

/-- a row that came in. -/
class RoR (H0 : Heap) (s : Sl) (γ : outParam Type) (f : outParam (γ → List HV)) (sz : outParam Nat) (xs : outParam (List γ)) : Prop where
  h : SlR H0 s sz (xs.map f)
theorem Wp.ixRo {α γ : Type} {H0 : Heap} {P : List HP} {Q : α → List HP → Prop} {s : Sl} {f : γ → List HV} {sz : Nat} {xs : List γ} {i : Int} {j : Nat} {x : γ} {g : Nat → Nat → List HV → M α} [r : RoR H0 s γ f sz xs] (hj : i = (j : Int)) (hi : xs[j]? = some x) (h : ∀ b o, Wp H0 P (g b o (f x)) Q) : Wp H0 P (HL.ix s i sz fun b o => HL.ldN b o sz fun cs => g b o cs) Q := fun H hH => by
  subst hj
  exact wp_ixN (SlR.keeps r.h hH.kp.k) (by omega) (by simp [hi]) fun b o => h b o H hH
theorem RoR.len {γ : Type} {H0 : Heap} {s : Sl} {f : γ → List HV} {sz : Nat} {xs : List γ} (r : RoR H0 s γ f sz xs) : s.len = xs.length := by have := r.h.len; simpa using this
theorem list8 {γ : Type} {l : List γ} (h : l.length = 8) : ∃ a b c d e f g i, l = [a, b, c, d, e, f, g, i] := by
  match l, h with
  | [a, b, c, d, e, f, g, i], _ => exact ⟨a, b, c, d, e, f, g, i, rfl⟩
class SeaMain [Sea] : Prop where
  ah : lkA Sea.cl n_witness_ahead = some f_witness_ahead
  rm : lkA Sea.rn 11373009 = some r0_law30_WitnessOf
/-- the texts arrive. -/
def arrT (ts : List Bs) (k : Nat) : List Bs := ts.take k ++ List.replicate (3 - k) []
def vwA (ts : List Bs) : Vw := ⟨List.replicate 8 (0, 0), List.replicate 6 (noFl, 0), ts, List.replicate 3 (0, 0), 0⟩
theorem vw0_ok (ts : List Bs) (h3 : ts.length = 3) (h64 : ∀ t ∈ ts, t.length ≤ 64) : VwP (vwA ts) := by
  refine ⟨⟨rfl, rfl, h3, rfl⟩, fun s x l hx hl => ?_, h64, fun e he => ?_⟩
  · have := List.mem_of_getElem? hx
    simp [vwA] at this
    subst this
    simp
  · simp [vwA] at he
    subst he
    exact noFl_good
section
variable {H0 : Heap} {P F F' : List HP} {Q : HV → List HP → Prop} [Sea] [SeaOk] [SeaLand] [SeaOf] [SeaMain] {n : Nat}
omit [SeaOk] [SeaLand] [SeaOf] in
/-- a round of the comparison of what was read. -/
theorem main_round {A B : HP} {lp b6 b16 b17 : Nat} {s1 s2 : Sl} {rd : List Rd} {i : Nat} {e : Rd} (hl : rd.length ≤ 1000000) (he : rd[i]? = some e)
    (h : Q (.bool true) (own rX lp (.loop 11373009 [(6, .ptr (some (b6, 0))), (16, .ptr (some (b16, 0))), (17, .ptr (some (b17, 0)))] .ready none) :: own rC b17 [I ((i : Int) + 1)] :: A :: B :: own rC b16 [.sl s1, .sl s2] :: own (rR Rd.cs 3) s1 rd :: F)) :
    Wp H0 (A :: B :: own rX lp (.loop 11373009 [(6, .ptr (some (b6, 0))), (16, .ptr (some (b16, 0))), (17, .ptr (some (b17, 0)))] .ready none) :: own rC b17 [I i] :: own rC b16 [.sl s1, .sl s2] :: own (rR Rd.cs 3) s1 rd :: F) (lv (n + 1) (.yld lp) [.agg e.cs]) Q := by
  have hi := (List.getElem?_eq_some_iff.1 he).1
  rw [lv_succ]
  refine Wp.rnd (l := lp) SeaMain.rm ?_
  unfold r0_law30_WitnessOf
  refine Wp.row (s := s1) fun hs => ?_
  have hlen : s1.len = rd.length := hs.len
  refine go ⟨fun c => by omega, fun _ => ?_⟩
  refine Wp.ixN (s := s1) rfl he fun _ _ => ?_
  refine go ⟨fun c => ?_, fun c => ?_⟩
  · simp at c
  · rw [wr_small (by omega) (by omega)]
    exact h
end
end Go.Proofs.YtoogohhlmdgdpaaGreat.HL
namespace Go.Proofs.YtoogohhlmdgdpaaGreat.HL
open Go

section
variable {H0 : Heap} [Sea] [SeaOk] [SeaLand] [SeaOf] [SeaMain] {n : Nat}
theorem law30_WitnessOf_v {s0 s1 : Sl} {l0 l1 : List Dee} {t0 t1 t2 : Bs} [r0 : RoR H0 s0 Dee deC 4 l0] [r1 : RoR H0 s1 Dee deC 4 l1] (hty : ∀ x, H0.ty x = none) :
    Wp H0 [] (f_law30_WitnessOf (lv (n + 2)) [.sl s0, .sl s1, .agg [.str (S t0), .str (S t1), .str (S t2)]]) (fun a _ => a = .bool true) := by
  unfold f_law30_WitnessOf
  have e0 := r0.len
  have e1 := r1.len
  have g0 := S_size t0
  have g1 := S_size t1
  have g2 := S_size t2
  refine go fun b6 => ?_
  refine alive_v hty SeaMain.ah ?_
  refine go ⟨fun _ => rfl, fun c1 => ⟨fun _ => rfl, fun c2 => ⟨fun _ => rfl, fun c3 => ⟨fun _ => rfl, fun c4 => ⟨fun _ => rfl, fun c5 => ?_⟩⟩⟩⟩⟩
  refine attempt_NewView_v fun w => ?_
  refine go ?_
  have hv1 : VwP (vwA [t0, t1, t2]) := vw0_ok _ rfl (by simp; omega)
  refine Wp.forL (σ := Unit) 3 (by decide) rfl (fun _ i => [I i]) (out := fun _ => []) (fun _ _ => rfl) (fun _ _ => True)
    (fun i _ => [own rView w (vwA (arrT [t0, t1, t2] i)), own rC b6 [.bool false]]) () rfl trivial .refl ?_ ?_
  · intro i _ hi _
    obtain rfl | rfl | rfl : i = 0 ∨ i = 1 ∨ i = 2 := by omega
    · refine go ⟨by decide, ?_⟩
      refine Wp.gx (v := .str (S t0)) rfl ?_
      refine Wp.open rView w fun z _ => ?_
      refine go (feed_Arrive_v (t := []) (by decide) (by decide) rfl (by simp; omega) ?_)
      refine go ?_
      exact ⟨(), rfl, trivial, .fold z trivial (.cons rfl (.cons rfl (.cons rfl (.cons rfl (.cons rfl .refl)))))⟩
    · refine go ⟨by decide, by decide, ?_⟩
      refine Wp.gx (v := .str (S t1)) rfl ?_
      refine Wp.open rView w fun z _ => ?_
      refine go (feed_Arrive_v (t := []) (by decide) (by decide) rfl (by simp; omega) ?_)
      refine go ?_
      exact ⟨(), rfl, trivial, .fold z trivial (.cons rfl (.cons rfl (.cons rfl (.cons rfl (.cons rfl .refl)))))⟩
    · refine go ⟨by decide, by decide, ?_⟩
      refine Wp.gx (v := .str (S t2)) rfl ?_
      refine Wp.open rView w fun z _ => ?_
      refine go (feed_Arrive_v (t := []) (by decide) (by decide) rfl (by simp; omega) ?_)
      refine go ?_
      exact ⟨(), rfl, trivial, .fold z trivial (.cons rfl (.cons rfl (.cons rfl (.cons rfl (.cons rfl .refl)))))⟩
  intro _ _
  refine go ?_
  have hc1 : (vwA [t0, t1, t2]).clock = 0 := rfl
  have hl1 : VerLe (vwA [t0, t1, t2]) 0 := ⟨by simp [vwA], by simp [vwA], by simp [vwA]⟩
  show Wp H0 [own rView w (vwA [t0, t1, t2]), own rC b6 [.bool false]] _ _
  generalize (vwA [t0, t1, t2]) = v1 at hv1 hc1 hl1
  refine attempt_New_v (r := (0, 0, 0, 0)) fun o ac st => ?_
  refine go ?_
  have hT0 : TOk v1 (tri0 v1.clock (0, 0, 0, 0)) := tri0_ok hv1
  have hR0 : RdV v1 (tri0 v1.clock (0, 0, 0, 0)) := tri0_rd
  generalize tri0 v1.clock (0, 0, 0, 0) = T0 at hT0 hR0
  refine Wp.forL (σ := Unit) l0.length (by omega) (by rw [e0]) (fun _ i => [I i]) (out := fun _ => []) (fun _ _ => rfl) (fun _ _ => True)
    (fun i _ => [own rTry o ⟨w, ac, st, dosT v1 T0 (l0.take i)⟩, own rView w v1, own rC b6 [.bool false]]) () rfl trivial (.cons rfl (.cons rfl (.cons rfl .tail))) ?_ ?_
  · intro i _ hi _
    have hx : l0[i]? = some l0[i] := List.getElem?_eq_getElem hi
    generalize l0[i] = d at hx
    refine Wp.ixRo (s := s0) rfl hx fun _ _ => ?_
    refine go ?_
    refine law30_does_v (x := ⟨w, ac, st, dosT v1 T0 (l0.take i)⟩) (d := d) hv1 (dosT_ok hv1 hT0) ?_
    refine go ?_
    exact ⟨(), rfl, trivial, .cons (by rw [dosT_snoc hx]) .refl⟩
  intro _ _
  rw [List.take_length]
  have hT1 := dosT_ok (l := l0) hv1 hT0
  have hR1 := dosT_rd (l := l0) hR0
  generalize dosT v1 T0 l0 = T1 at hT1 hR1
  refine go ?_
  refine attempt_Land_v hv1 hT1 (by omega) ?_
  rw [if_pos hR1.valid]
  have hv2 := hv1.land hT1
  have hl2 : VerLe (landT v1 T1) 1 := by have := VerLe.land (t := T1) (v := v1) (by rw [hc1]; exact hl1); rw [hc1] at this; exact this
  have hc2 : (landT v1 T1).clock = 1 := by show v1.clock + 1 = 1; rw [hc1]; rfl
  show Wp H0 [own rTry o ⟨w, ac, st, T1⟩, own rView w (landT v1 T1), own rC b6 [.bool false]] _ _
  generalize landT v1 T1 = v2 at hv2 hl2 hc2
  refine Wp.ent (Ent.weak .refl) ?_
  refine go ?_
  refine attempt_New_v (r := (0, 0, 0, 0)) fun a ac2 st2 => ?_
  refine go ?_
  have hT2 : TOk v2 (tri0 v2.clock (0, 0, 0, 0)) := tri0_ok hv2
  have hR2 : RdV v2 (tri0 v2.clock (0, 0, 0, 0)) := tri0_rd
  generalize tri0 v2.clock (0, 0, 0, 0) = T2 at hT2 hR2
  refine Wp.forL (σ := Unit) l1.length (by omega) (by rw [e1]) (fun _ i => [I i]) (out := fun _ => []) (fun _ _ => rfl) (fun _ _ => True)
    (fun i _ => [own rTry a ⟨w, ac2, st2, dosT v2 T2 (l1.take i)⟩, own rView w v2, own rC b6 [.bool false]]) () rfl trivial (.cons rfl (.cons rfl (.cons rfl .tail))) ?_ ?_
  · intro i _ hi _
    have hx : l1[i]? = some l1[i] := List.getElem?_eq_getElem hi
    generalize l1[i] = d at hx
    refine Wp.ixRo (s := s1) rfl hx fun _ _ => ?_
    refine go ?_
    refine law30_does_v (x := ⟨w, ac2, st2, dosT v2 T2 (l1.take i)⟩) (d := d) hv2 (dosT_ok hv2 hT2) ?_
    refine go ?_
    exact ⟨(), rfl, trivial, .cons (by rw [dosT_snoc hx]) .refl⟩
  intro _ _
  rw [List.take_length]
  have hT3 := dosT_ok (l := l1) hv2 hT2
  have hR3 := dosT_rd (l := l1) hR2
  generalize dosT v2 T2 l1 = T at hT3 hR3
  refine go ?_
  refine witness_Of_v (v := v2) hT3 fun q1 q2 => ?_
  refine go fun b16 => ?_
  refine Wp.stN (b := b16) (cs' := [.sl q1, .sl q2]) (by simp) rfl ?_
  refine go fun b17 => ?_
  unfold f_attempt_Attempt_Reads
  refine Wp.open rTry a fun y _ => ?_
  refine go ?_
  refine go ?_
  refine reads_Set_All_v fun s b1 => ?_
  refine go fun lp => ?_
  rw [lv_succ]
  refine Wp.clo SeaOf.vl ?_
  show Wp H0 _ (f_slices_Values_reads_Entry_reads_Entry_1 (lv (n + 1)) [.yld lp, .ptr (some (b1, 0))]) _
  have hrl := rd_len hT3.rk hT3.rd
  refine values_1_v (σ := Unit) (s := s) (l := T.rd) (fun _ _ => True) (fun _ _ => False)
    (fun i _ => own rX lp (.loop 11373009 [(6, .ptr (some (b6, 0))), (16, .ptr (some (b16, 0))), (17, .ptr (some (b17, 0)))] .ready none) :: own rC b17 [I i] :: own rC b16 [.sl q1, .sl q2] :: own (rR Rd.cs 3) q1 T.rd ::
      [own (rR Rd.cs 3) q2 (wrT T 2), own rC y.set [.sl s, I T.stamp], own rC a (trC ⟨w, ac2, st2, T⟩ y), own (rDraft eDI clC 2) y.dc T.dc, own rSheet y.sh T.df, own rCur y.cu T.cu, own rView w v2, own rC b6 [.bool false]])
    (fun _ _ => []) () trivial ?_ ?_ ?_ ?_
  · exact .cons rfl (.cons rfl (.cons rfl (.cons rfl (.cons rfl (.cons rfl (.cons rfl (.cons rfl (.cons rfl (.cons rfl (.cons rfl (.cons rfl .tail)))))))))))
  · intro A B i e _ he _
    refine main_round (by omega) he ?_
    exact .inl ⟨rfl, (), trivial, .pick (.pick (.cons rfl (.cons (by simp) (.cons rfl (.cons rfl .refl)))))⟩
  rotate_left
  · intro i e _ _ q
    exact q.elim
  intro _ _
  refine Wp.row (s := q1) fun hq1 => ?_
  have hq1l : q1.len = T.rd.length := hq1.len
  refine go ⟨fun c => by omega, fun _ => ?_⟩
  refine Wp.ent (P' := [own rTry a ⟨w, ac2, st2, T⟩, own rView w v2, own rC b16 [.sl q1, .sl q2], own (rR Rd.cs 3) q2 (wrT T 2), own rC b6 [.bool false]]) ?_ ?_
  · exact .fold y trivial (.cons rfl (.fold s trivial (.cons rfl (.cons rfl (.cons rfl (.cons rfl (.cons rfl (.cons rfl (.cons rfl (.cons rfl (.cons rfl .tail)))))))))))
  refine attempt_Land_v hv2 hT3 (by omega) ?_
  have hval : validB v2 ((⟨w, ac2, st2, T⟩ : TrS).t.rd) = true := hR3.valid
  rw [hval, if_pos rfl]
  have hv3 := hv2.land hT3
  have hc3 : (landT v2 T).clock = 2 := by show v2.clock + 1 = 2; rw [hc2]; rfl
  have hver : ∀ e ∈ wrT T 2, e.v = 2 ∧ KOk e.k e.i ∧ verOf (landT v2 T) e.k e.i = 2 := fun e he => by
    have := wr_ver (v := v2) hv2 hT3 (e := e) (by rw [hc2]; exact he)
    rw [hc2] at this; exact this
  have hrise := wr_rise (t := T) hT3 (n := 2)
  have hcount : ((nowV (landT v2 T)).take 24).countP (fun x => decide (x = 2)) = (wrT T 2).length := by
    have := wr_count hv2 hT3 (by rw [hc2]; exact hl2) (by omega)
    rw [hc2] at this; exact this
  show Wp H0 [own rTry a ⟨w, ac2, st2, T⟩, own rView w (landT v2 T), own rC b16 [.sl q1, .sl q2], own (rR Rd.cs 3) q2 (wrT T 2), own rC b6 [.bool false]] _ _
  generalize landT v2 T = v3 at hv3 hc3 hver hcount
  refine Wp.ent (Ent.weak .refl) ?_
  generalize wrT T 2 = W at hver hrise hcount
  refine Wp.row (s := q2) fun hq2 => ?_
  have hq2l : q2.len = W.length := hq2.len
  have hq2c := hq2.cap
  have hq2t := hq2.lt
  refine Wp.open rView w fun z _ => ?_
  refine go ⟨fun c => absurd hc3 c, fun _ => ?_⟩
  refine Wp.ent (P' := [own rView w v3, own rC b16 [.sl q1, .sl q2], own (rR Rd.cs 3) q2 W, own rC b6 [.bool false]]) (.fold z trivial .refl) ?_
  refine attempt_View_Now_v hv3.ok ?_
  have hl : ((nowV v3).map fun n => I n).length = 25 := by rw [List.length_map, nowV_len]
  refine go ⟨by rw [hl]; rfl, by rw [hl]; rfl, ?_⟩
  have hp : putN [I 0, I 0, I 0, I 0, I 0, I 0, I 0, I 0, I 0, I 0, I 0, I 0, I 0, I 0, I 0, I 0, I 0, I 0, I 0, I 0, I 0, I 0, I 0, I 0, I 0] 0 ((nowV v3).map fun n => I n) = (nowV v3).map fun n => I n := by
    unfold putN; rw [hl]; simp
  rw [hp]
  refine Wp.forL (σ := Int) W.length (by omega) (by rw [hq2l]) (fun last i => [I last, I i]) (out := fun _ => []) (fun _ _ => rfl) (fun i last => ∀ e, W[i]? = some e → last < keyR e)
    (fun _ _ => _) (-1) rfl (fun e he => ?_) .refl ?_ ?_
  · have := (hver e (List.mem_of_getElem? he)).2.1
    obtain ⟨⟨_, _⟩, ⟨_, _⟩⟩ := this
    simp only [keyR]; omega
  · intro i last hi hlast
    have hx : W[i]? = some W[i] := List.getElem?_eq_getElem hi
    generalize W[i] = e at hx
    obtain ⟨k1, k2, k3⟩ := hver e (List.mem_of_getElem? hx)
    have k4 := hlast e hx
    simp only [keyR] at k4
    refine Wp.ixN (s := q2) rfl hx fun _ _ => ?_
    refine go ⟨fun c => absurd k1 c, fun _ => ?_⟩
    refine Wp.gxN (vs := (nowV v3).map fun n => I n) (by rw [hl]; decide) (by rw [List.drop_zero, ← hl, List.take_length]) ?_
    refine go (reads_Now_Of_v k2.k k2.i ?_)
    obtain ⟨⟨_, _⟩, ⟨_, _⟩⟩ := k2
    have hw : wr (wr (8 * e.k) + e.i) = 8 * e.k + e.i := by rw [wr_small (n := 8 * e.k) (by omega) (by omega), wr_small (by omega) (by omega)]
    refine go ⟨fun c => absurd k3 c, fun _ => ⟨fun c => ?_, fun _ => ?_⟩⟩
    · rw [hw] at c; omega
    · refine ⟨8 * e.k + e.i, by rw [hw], fun e2 h2 => ?_, .refl⟩
      obtain ⟨hil, hie⟩ := List.getElem?_eq_some_iff.1 hx
      obtain ⟨hjl, hje⟩ := List.getElem?_eq_some_iff.1 h2
      have := List.pairwise_iff_getElem.1 hrise i (i + 1) hil hjl (by omega)
      rw [hie, hje] at this
      exact this
  intro _ _
  refine go ?_
  have hcb : ∀ l : List Int, l.countP (fun x => decide (x = 2)) ≤ l.length := fun l => List.countP_le_length
  refine Wp.forL (σ := Int) 3 (by decide) rfl (fun c i => [I c, I i]) (out := fun c => [I c]) (fun _ _ => rfl) (fun i c => c = (((nowV v3).take (8 * i)).countP (fun x => decide (x = 2)) : Nat))
    (fun _ _ => _) 0 rfl rfl .refl ?_ ?_
  · rintro k _ hk rfl
    have hb1 := hcb ((nowV v3).take (8 * k))
    rw [List.length_take] at hb1
    have h8 : (((nowV v3).drop (8 * k)).take 8).length = 8 := by rw [List.length_take, List.length_drop, nowV_len]; omega
    obtain ⟨x0, x1, x2, x3, x4, x5, x6, x7, hch⟩ := list8 h8
    refine go ⟨by omega, by omega, ?_⟩
    refine Wp.gxN (vs := [I x0, I x1, I x2, I x3, I x4, I x5, I x6, I x7]) (by rw [hl]; omega) ?_ ?_
    · rw [show 0 + ((k : Nat) : Int).toNat * 8 = 8 * k by omega, ← List.map_drop, ← List.map_take, hch]; rfl
    refine go ?_
    refine Wp.forL (σ := Int) 8 (by decide) rfl (fun c i => [I c, I i]) (out := fun c => [I c]) (fun _ _ => rfl) (fun j c => c = ((((nowV v3).take (8 * k)).countP (fun x => decide (x = 2)) + (([x0, x1, x2, x3, x4, x5, x6, x7] : List Int).take j).countP (fun x => decide (x = 2)) : Nat) : Int))
      (fun _ _ => _) _ rfl (by simp) .refl ?_ ?_
    · rintro j _ hj rfl
      have hb2 := hcb (([x0, x1, x2, x3, x4, x5, x6, x7] : List Int).take j)
      rw [List.length_take] at hb2
      have hx : ([x0, x1, x2, x3, x4, x5, x6, x7] : List Int)[j]? = some ([x0, x1, x2, x3, x4, x5, x6, x7] : List Int)[j] := List.getElem?_eq_getElem hj
      have htk : ([x0, x1, x2, x3, x4, x5, x6, x7] : List Int).take (j + 1) = ([x0, x1, x2, x3, x4, x5, x6, x7] : List Int).take j ++ [([x0, x1, x2, x3, x4, x5, x6, x7] : List Int)[j]] := List.take_succ_eq_append_getElem hj
      generalize ([x0, x1, x2, x3, x4, x5, x6, x7] : List Int)[j] = x at hx htk
      refine go ⟨by omega, by omega, ?_⟩
      refine Wp.gx (v := I x) (by rw [show ((j : Nat) : Int).toNat * 1 = j by omega]; exact map_I_at hx) ?_
      refine go ⟨fun c => ?_, fun c => ?_⟩
      · refine ⟨_, rfl, ?_, .refl⟩
        rw [wr_small (by omega) (by omega), htk, List.countP_append]
        simp [c]; omega
      · refine ⟨_, rfl, ?_, .refl⟩
        rw [htk, List.countP_append]
        simp [c]
    · rintro _ rfl
      refine go ?_
      refine ⟨_, rfl, ?_, .refl⟩
      rw [show 8 * (k + 1) = 8 * k + 8 by omega, List.take_add, List.countP_append, hch]; rfl
  · rintro c rfl
    rw [show 8 * 3 = 24 by rfl, hcount]
    refine go ?_
    unfold f_witness_Of
    refine go fun b9 => ?_
    refine go ⟨fun _ => ?_, fun c => by omega⟩
    rfl
end
end Go.Proofs.YtoogohhlmdgdpaaGreat.HL
