/- Lemmas for the row. Conditions: none. -/
import Derived.Test.YtbphjihgbenkdaaGreatHQAte
namespace Go.Proofs.YtbphjihgbenkdaaGreat.HQ
set_option linter.unusedVariables false
set_option linter.unusedSectionVars false
set_option linter.unusedSimpArgs false
open Go
abbrev deC (d : Dee) : List HV := [I d.k, I d.a, I d.b, .int .u8 (d.c.toNat : Int)]
section
variable {H0 : Heap} {P F F' : List HP} {Q : HV → List HP → Prop} [Sea] {n : Nat}
variable [SeaOk]
end
def RdV (v : Vw) (t : Tri) : Prop := ∀ e ∈ t.rd, verOf v e.k e.i = e.v
section
variable {v : Vw} {t : Tri}
theorem RdV.note {k i : Int} (h : RdV v t) : RdV v (noteT v t k i).2 := by
 intro e he
 simp only [noteT, noteS] at he
 split at he
 ·exact h e he
 ·split at he
  ·split at he
   ·rcases List.mem_append.1 he with he | he
    ·exact h e he
    ·simp at he; subst he; rfl
   ·exact h e he
  ·rcases List.mem_append.1 he with he | he
   ·exact h e he
   ·simp at he; subst he; rfl
theorem RdV.load {i : Int} (h : RdV v t) : RdV v (loadT v t i).2 := by
 unfold loadT
 split
 ·exact h
 ·split
  ·exact h
  ·split <;> exact h.note
theorem RdV.touch {i : Int} (h : RdV v t) : RdV v (touchT v t i).2 := by
 unfold touchT
 split
 ·exact h
 ·split
  ·exact h
  ·exact h.note
theorem RdV.mod {i : Int} {g : Fl → Fl} (h : RdV v t) : RdV v (modT v t i g).2 := by
 have h' := h.touch (i := i)
 unfold modT
 simp only
 split <;> exact h'
theorem RdV.doT {d : Dee} (h : RdV v t) : RdV v (doT v t d) := by
 unfold HQ.doT
 split
 ·exact h.load
 split
 ·unfold storeT; split <;> exact h
 split
 ·unfold readT; split <;> exact h.touch
 split
 ·exact h.mod
 split
 ·exact h.mod
 split
 ·exact h.mod
 split
 ·unfold renameT
  split
  ·exact h
  ·split
   ·simp only; split <;> exact h.touch.touch
   ·exact h.touch
 split
 ·exact h.mod
 split
 ·unfold recvT
  split
  ·exact h
  ·split
   ·split <;> exact h.note
   ·exact h.note
 ·exact h
theorem RdV.valid (h : RdV v t) : validB v t.rd = true := validB_iff.2 h
end
def dosT (v : Vw) (t : Tri) (l : List Dee) : Tri := l.foldl (doT v) t
theorem dosT_snoc {v : Vw} {t : Tri} {l : List Dee} {i : Nat} {d : Dee} (h : l[i]? = some d) : dosT v t (l.take (i + 1)) = doT v (dosT v t (l.take i)) d := by
 obtain ⟨hi, rfl⟩ := List.getElem?_eq_some_iff.1 h
 unfold dosT
 rw [List.take_succ_eq_append_getElem hi, List.foldl_append]; rfl
theorem dosT_ok {v : Vw} (hv : VwP v) : ∀ {l : List Dee} {t : Tri}, TOk v t → TOk v (dosT v t l)
 | [], _, h => h
 | d :: l, t, h => by
  show TOk v (dosT v (doT v t d) l)
  exact dosT_ok hv (h.doT hv)
theorem dosT_rd {v : Vw} : ∀ {l : List Dee} {t : Tri}, RdV v t → RdV v (dosT v t l)
 | [], _, h => h
 | d :: l, t, h => by
  show RdV v (dosT v (doT v t d) l)
  exact dosT_rd h.doT
theorem tri0_ok {v : Vw} {n : Int} {r : Int × Int × Int × Int} (hv : VwP v) : TOk v (tri0 n r) := by
 refine ⟨fun e he => (by cases he), List.Pairwise.nil, .nil, .nil, rfl, fun s c h => ?_, fun s c x l h hx hl => ?_, fun e he => (by cases he), fun e he => (by cases he)⟩
 ·have := List.mem_of_getElem? h
  simp [tri0] at this; omega
 ·have := List.mem_of_getElem? h
  simp [tri0] at this
  have := hv.pl s x l hx hl
  omega
theorem tri0_rd {v : Vw} {n : Int} {r : Int × Int × Int × Int} : RdV v (tri0 n r) := by intro e he; cases he
/-! landing -/
section
variable {γ : Type} {n : Int}
theorem landG_other : ∀ {dc : List (Int × γ)} {cs : List (γ × Int)} {j : Nat}, (∀ e ∈ dc, e.1.toNat ≠ j) → (landG cs dc n)[j]? = cs[j]?
 | [], _, _, _ => rfl
 | e :: r, cs, j, h => by
  show (landG (cs.set e.1.toNat (e.2, n)) r n)[j]? = _
  rw [landG_other (fun x hx => h x (List.mem_cons_of_mem _ hx)), List.getElem?_set, if_neg (h e List.mem_cons_self)]
theorem Rise.toNat {dc : List (Int × γ)} (h : Rise dc) (h0 : ∀ e ∈ dc, 0 ≤ e.1) : dc.Pairwise fun a b => a.1.toNat < b.1.toNat :=
 List.Pairwise.imp_of_mem (fun {a b} ha hb hab => by have := h0 a ha; omega) h
theorem landG_at : ∀ {dc : List (Int × γ)} {cs : List (γ × Int)} {e : Int × γ}, dc.Pairwise (fun a b => a.1.toNat < b.1.toNat) → e ∈ dc → e.1.toNat < cs.length → (landG cs dc n)[e.1.toNat]? = some (e.2, n)
 | x :: r, cs, e, h, he, hl => by
  obtain ⟨h1, h2⟩ := List.pairwise_cons.1 h
  show (landG (cs.set x.1.toNat (x.2, n)) r n)[e.1.toNat]? = _
  rcases List.mem_cons.1 he with rfl | he
  ·rw [landG_other (fun y hy => by have := h1 y hy; omega), List.getElem?_set, if_pos rfl, if_pos hl]
  ·exact landG_at h2 he (by simpa using hl)
theorem landP_in {ps : List (Int × Int)} {cu : List Int} : ∀ {k s : Nat}, s < k → k ≤ ps.length → 0 < (cu[s]?).getD 0 → (landP ps cu n k)[s]? = some (((ps[s]?).map Prod.fst).getD 0 + (cu[s]?).getD 0, n)
 | k + 1, s, h, hl, hc => by
  rw [landP_succ]
  unfold landP1
  by_cases hs : s = k
  ·subst hs
   rw [if_pos hc, List.getElem?_set, if_pos rfl, if_pos (by rw [landP_len]; omega), landP_at (Nat.le_refl _)]
  ·split
   ·rw [List.getElem?_set, if_neg (by omega)]; exact landP_in (by omega) (by omega) hc
   ·exact landP_in (by omega) (by omega) hc
theorem landP_out {ps : List (Int × Int)} {cu : List Int} : ∀ {k s : Nat}, ¬ 0 < (cu[s]?).getD 0 → (landP ps cu n k)[s]? = ps[s]?
 | 0, _, _ => rfl
 | k + 1, s, hc => by
  rw [landP_succ]
  unfold landP1
  split
  ·rename_i h
   rw [List.getElem?_set, if_neg (fun e => by subst e; exact hc h)]; exact landP_out hc
  ·exact landP_out hc
end
theorem landG_mem {γ : Type} {n : Int} {P : γ → Prop} : ∀ {dc : List (Int × γ)} {cs : List (γ × Int)}, (∀ x ∈ cs, P x.1) → (∀ e ∈ dc, P e.2) → ∀ x ∈ landG cs dc n, P x.1
 | [], _, h, _ => h
 | e :: r, cs, h, hd => by
  show ∀ x ∈ landG (cs.set e.1.toNat (e.2, n)) r n, P x.1
  refine landG_mem (fun x hx => ?_) (fun y hy => hd y (List.mem_cons_of_mem _ hy))
  rcases List.mem_or_eq_of_mem_set hx with hx | rfl
  ·exact h x hx
  ·exact hd e List.mem_cons_self
theorem VwP.land {v : Vw} {t : Tri} (hv : VwP v) (ht : TOk v t) : VwP (landT v t) := by
 refine ⟨⟨landC_len.trans hv.ok.c, landF_len.trans hv.ok.f, hv.ok.t, landP_len.trans hv.ok.p⟩, fun s x l hx hl => ?_, hv.tx, landG_mem hv.fl ht.fl⟩
 have hl : v.texts[s]? = some l := hl
 have hx : (landP v.places t.cu (v.clock + 1) 3)[s]? = some x := hx
 have hs : s < 3 := by have := (List.getElem?_eq_some_iff.1 hl).1; rw [hv.ok.t] at this; exact this
 obtain ⟨c, hc⟩ : ∃ c, t.cu[s]? = some c := ⟨_, List.getElem?_eq_getElem (by rw [ht.cu]; exact hs)⟩
 obtain ⟨p, hp⟩ : ∃ c, v.places[s]? = some c := ⟨_, List.getElem?_eq_getElem (by rw [hv.ok.p]; exact hs)⟩
 have h1 := hv.pl _ _ _ hp hl
 have h2 := ht.cr _ _ hc
 have h3 := ht.cn _ _ _ _ hc hp hl
 by_cases hpos : 0 < (t.cu[s]?).getD 0
 ·rw [landP_in hs (by rw [hv.ok.p]; decide) hpos, hp, hc] at hx
  cases hx
  simp; omega
 ·rw [landP_out hpos, hp] at hx
  cases hx
  exact h1
end Go.Proofs.YtbphjihgbenkdaaGreat.HQ
