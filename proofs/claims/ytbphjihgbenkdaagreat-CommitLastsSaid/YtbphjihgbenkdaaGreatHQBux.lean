/- Lemmas for the row. Conditions: none. -/
import Derived.Test.YtbphjihgbenkdaaGreatHQBur
import Derived.Test.YtbphjihgbenkdaaGreatHQAtz
namespace Go.Proofs.YtbphjihgbenkdaaGreat.HQ
set_option linter.unusedVariables false
set_option linter.unusedSectionVars false
set_option linter.unusedSimpArgs false
open Go
abbrev Fil := Bool × ByteArray
def atF (t : ByteArray) (i : Int) : Int := if 0 ≤ i ∧ i < (t.size : Int) then ((t.data[i.toNat]?.getD 0).toNat : Int) else -1
theorem byte_small (x : UInt8) : wr (x.toNat : Int) = (x.toNat : Int) := by
 have := x.toNat_lt
 exact wr_small (by omega) (by omega)
theorem strB_one (n : Int) : (strB [n]).size = 1 := rfl
theorem ref09_At_wp {D : HV → List HV → M HV} {H : Heap} {Q : HV → Heap → Prop} {f : Bool} {t : ByteArray} {i : Int} (hn : t.size ≤ 1000000) (h : Q (I (atF t i)) H) : wp (f_ref09_At D [.agg [.bool f, .str t], I i]) Q H := by
 unfold f_ref09_At
 with_reducible repeat' (first | refine wp_finF ?_ | refine wp_uA ?_ | refine wp_uI ?_ | refine wp_uB ?_ | refine wp_uS ?_ | refine wp_nl ?_ | refine wp_rF ?_ | refine wp_condT ?_ | refine wp_condF ?_)
 refine wp_loop0 t.size (by omega) rfl (fun _ => rfl) rfl (fun k => ∀ j : Nat, j < k → (j : Int) ≠ i) (fun j hj => by omega) ?_ ?_
 ·intro k hk hp
  refine wp_condE (fun e => ?_) (fun e => wp_n0 fun j hj => ?_)
  ·subst e
   refine wp_gdD (by omega) (wp_gdD (by omega) (wp_r0 (wp_rB (wp_rF ?_))))
   rw [byte_small]
   have : atF t k = ((t.data[(k : Int).toNat]?.getD 0).toNat : Int) := by unfold atF; rw [if_pos (by omega)]
   rw [this] at h
   exact h
  ·by_cases hjk : j = k
   ·subst hjk; exact e
   ·exact hp j (by omega)
 ·intro hp
  refine wp_nl (wp_rF ?_)
  have : atF t i = -1 := by
   unfold atF
   rw [if_neg]
   rintro ⟨h1, h2⟩
   exact hp i.toNat (by omega) (by omega)
  rw [this] at h
  exact h
def max0 (x : Int) : Int := bif decide (0 > x) then 0 else x
def putG (t : ByteArray) (at_ b : Int) : Nat → ByteArray
 | 0 => ByteArray.mk #[]
 | k + 1 => putG t at_ b k ++ strB [IntKind.wrap .u8 (if (k : Int) = at_ then wr b else max0 (atF t k))]
theorem putG_size (t : ByteArray) (at_ b : Int) : ∀ k, (putG t at_ b k).size = k
 | 0 => rfl
 | k + 1 => by simp only [putG, ByteArray.size_append, putG_size t at_ b k, strB_one]
def putF (f : Fil) (at_ b : Int) : Fil := if at_ < 0 ∨ at_ > 31 then f else (true, putG f.2 at_ b (max f.2.size (at_ + 1).toNat))
theorem ref09_Put_wp {D : HV → List HV → M HV} {H : Heap} {Q : HV → Heap → Prop} {f : Fil} {a b : Int} (hn : f.2.size ≤ 1000) (h : Q (.agg [.bool (putF f a b).1, .str (putF f a b).2]) H) : wp (f_ref09_Put D [.agg [.bool f.1, .str f.2], I a, .int .u8 b]) Q H := by
 unfold f_ref09_Put
 with_reducible repeat' (first | refine wp_finF ?_ | refine wp_uA ?_ | refine wp_uI ?_ | refine wp_uB ?_ | refine wp_uS ?_ | refine wp_nl ?_ | refine wp_rF ?_ | refine wp_condT ?_ | refine wp_condF ?_)
 refine wp_jnP (a < 0 ∨ a > 31) ?_ (fun c => ?_) (fun c => ?_)
 ·refine wp_condD (fun c => wp_bB (by simp [c])) (fun c => wp_bB (by simp [c]))
 ·with_reducible repeat' (first | refine wp_finF ?_ | refine wp_uA ?_ | refine wp_uI ?_ | refine wp_uB ?_ | refine wp_uS ?_ | refine wp_nl ?_ | refine wp_rF ?_ | refine wp_condT ?_ | refine wp_condF ?_)
  unfold putF at h
  rw [if_pos c] at h
  exact h
 ·with_reducible repeat' (first | refine wp_finF ?_ | refine wp_uA ?_ | refine wp_uI ?_ | refine wp_uB ?_ | refine wp_uS ?_ | refine wp_nl ?_ | refine wp_rF ?_ | refine wp_condT ?_ | refine wp_condF ?_)
  unfold putF at h
  rw [if_neg c] at h
  refine wp_blk ?_
  refine wp_loop (fun m vs H' => H' = H ∧ ∃ k : Nat, m + k = max f.2.size (a + 1).toNat ∧ vs = [.str (putG f.2 a b k), I (k : Int)]) (max f.2.size (a + 1).toNat) ⟨rfl, 0, by omega, rfl⟩ ?_
  rintro m vs H' ⟨rfl, k, hk, rfl⟩
  refine wp_uS (wp_uI (wp_nl (wp_jnP ((k : Int) < f.2.size ∨ (k : Int) ≤ a) ?_ (fun c2 => ?_) (fun c2 => ?_))))
  ·refine wp_condD (fun c => wp_bB (by simp [c])) (fun c => wp_bB (by simp [c]))
  ·refine wp_uB (wp_nl (wp_condT (wp_bnd (ref09_At_wp (by omega) (wp_asI ?_)))))
   have hw : wr ((k : Int) + 1) = ((k + 1 : Nat) : Int) := by rw [wr_small (by omega) (by omega)]; rfl
   refine wp_jn (wp.mono (Q := fun lf H2 => H2 = H' ∧ lf = .norm [I (if (k : Int) = a then wr b else max0 (atF f.2 k))]) ?_ ?_)
   ·refine wp_condE (fun e => wp_ret ⟨rfl, ?_⟩) (fun e => wp_ret ⟨rfl, ?_⟩)
    ·rw [if_pos e]
    ·rw [if_neg e]; rfl
   ·rintro _ H2 ⟨rfl, rfl⟩
    show wp _ _ _
    refine wp_uI (wp_nl (wp_gdD (by rw [putG_size, strB_one]; omega) (wp_ret ?_)))
    rw [hw]
    exact ⟨m - 1, by omega, rfl, k + 1, by omega, rfl⟩
  ·have : k = max f.2.size (a + 1).toNat := by omega
   rw [this]
   refine wp_uB (wp_nl (wp_condF (wp_ret ?_)))
   show wp _ _ _
   refine wp_uS (wp_nl (wp_rF ?_))
   exact h
def cutG (t : ByteArray) : Nat → ByteArray
 | 0 => ByteArray.mk #[]
 | k + 1 => cutG t k ++ strB [IntKind.wrap .u8 (max0 (atF t k))]
theorem cutG_size (t : ByteArray) : ∀ k, (cutG t k).size = k
 | 0 => rfl
 | k + 1 => by simp only [cutG, ByteArray.size_append, cutG_size t k, strB_one]
def cutF (f : Fil) (n : Int) : Fil := if f.1 = false ∨ n < 0 ∨ n > 32 then f else (true, cutG f.2 n.toNat)
theorem ref09_Cut_wp {D : HV → List HV → M HV} {H : Heap} {Q : HV → Heap → Prop} {f : Fil} {a : Int} (hn : f.2.size ≤ 1000) (h : Q (.agg [.bool (cutF f a).1, .str (cutF f a).2]) H) : wp (f_ref09_Cut D [.agg [.bool f.1, .str f.2], I a]) Q H := by
 unfold f_ref09_Cut
 with_reducible repeat' (first | refine wp_finF ?_ | refine wp_uA ?_ | refine wp_uI ?_ | refine wp_uB ?_ | refine wp_uS ?_ | refine wp_nl ?_ | refine wp_rF ?_ | refine wp_condT ?_ | refine wp_condF ?_)
 refine wp_jnP (f.1 = false ∨ a < 0 ∨ a > 32) ?_ (fun c => ?_) (fun c => ?_)
 ·refine wp_condN (fun c => wp_bB (by simp [c])) (fun c1 => wp_condD (fun c => wp_bB (by simp [c])) (fun c => wp_bB (by simp [c, c1])))
 ·with_reducible repeat' (first | refine wp_finF ?_ | refine wp_uA ?_ | refine wp_uI ?_ | refine wp_uB ?_ | refine wp_uS ?_ | refine wp_nl ?_ | refine wp_rF ?_ | refine wp_condT ?_ | refine wp_condF ?_)
  unfold cutF at h
  rw [if_pos c] at h
  exact h
 ·with_reducible repeat' (first | refine wp_finF ?_ | refine wp_uA ?_ | refine wp_uI ?_ | refine wp_uB ?_ | refine wp_uS ?_ | refine wp_nl ?_ | refine wp_rF ?_ | refine wp_condT ?_ | refine wp_condF ?_)
  unfold cutF at h
  rw [if_neg c] at h
  refine wp_blk ?_
  refine wp_loop (fun m vs H' => H' = H ∧ ∃ k : Nat, m + k = a.toNat ∧ vs = [.str (cutG f.2 k), I (k : Int)]) a.toNat ⟨rfl, 0, by omega, rfl⟩ ?_
  rintro m vs H' ⟨rfl, k, hk, rfl⟩
  refine wp_uS (wp_uI (wp_nl (wp_condD (fun c2 => ?_) (fun c2 => ?_))))
  ·have hw : wr ((k : Int) + 1) = ((k + 1 : Nat) : Int) := by rw [wr_small (by omega) (by omega)]; rfl
   refine wp_bnd (ref09_At_wp (by omega) (wp_asI ?_))
   refine wp_gdD (by rw [cutG_size, strB_one]; omega) (wp_ret ?_)
   rw [hw]
   exact ⟨m - 1, by omega, rfl, k + 1, by omega, rfl⟩
  ·have : k = a.toNat := by omega
   rw [this]
   refine wp_ret ?_
   show wp _ _ _
   refine wp_uS (wp_nl (wp_rF ?_))
   exact h
theorem S_get (l : List UInt8) (k : Nat) : (S l).data[k]? = l[k]? := by
 show l.toArray[k]? = _
 simp
theorem atF_S {l : List UInt8} {k : Nat} : max0 (atF (S l) k) = (((l[k]?).getD 0).toNat : Int) := by
 have hs := S_size l
 unfold atF max0
 by_cases c : k < l.length
 ·rw [if_pos (by rw [hs]; omega)]
  rw [show ((k : Int)).toNat = k by simp, S_get]
  generalize ((l[k]?).getD 0) = x
  rw [decide_eq_false (by omega)]; rfl
 ·rw [if_neg (by rw [hs]; omega), List.getElem?_eq_none (by omega)]; rfl
theorem strB_u8 (x : UInt8) : strB [IntKind.wrap .u8 (x.toNat : Int)] = S [x] := by
 have hx := x.toNat_lt
 have : IntKind.wrap .u8 (x.toNat : Int) = x.toNat := by
  unfold IntKind.wrap
  rw [show IntKind.u8.signed = false from rfl, show (2 ^ IntKind.u8.bits : Int) = 256 from rfl]
  simp; omega
 rw [this]
 exact strB_S [x]
theorem putG_S {l : List UInt8} {a : Nat} {b : UInt8} : ∀ k, k ≤ (l ++ List.replicate (a + 1 - l.length) 0).length → putG (S l) (a : Int) (b.toNat : Int) k = S (((l ++ List.replicate (a + 1 - l.length) 0).set a b).take k)
 | 0, _ => rfl
 | k + 1, hk => by
  rw [putG, putG_S k (by omega)]
  have hk2 : k < ((l ++ List.replicate (a + 1 - l.length) 0).set a b).length := by rw [List.length_set]; omega
  rw [List.take_add_one, List.getElem?_eq_getElem hk2, Option.toList_some, ← S_app]
  congr 1
  have hb := b.toNat_lt
  by_cases c : k = a
  ·subst c
   rw [if_pos rfl, byte_small, strB_u8]
   simp
  ·rw [if_neg (by omega), atF_S, strB_u8]
   congr 2
   rw [List.getElem_set_ne (by omega)]
   have := List.getElem?_eq_getElem (l := l ++ List.replicate (a + 1 - l.length) 0) (i := k) (by omega)
   rw [← Option.some_inj, ← this]
   by_cases q : k < l.length
   ·rw [List.getElem?_append_left q, List.getElem?_eq_getElem q]; rfl
   ·rw [List.getElem?_append_right (by omega), List.getElem?_eq_none (by omega), List.getElem?_replicate, if_pos (by simp at hk; omega)]; rfl
theorem putF_S {f : Fl} {a : Int} {b : UInt8} : putF (f.1, S f.2) a (b.toNat : Int) = ((putB f a b).1, S (putB f a b).2) := by
 unfold putF putB
 by_cases c : a < 0 ∨ a > 31
 ·rw [if_pos c, if_pos (by omega)]
 ·rw [if_neg c, if_neg (by omega)]
  obtain ⟨n, rfl⟩ : ∃ n : Nat, a = n := ⟨a.toNat, by omega⟩
  simp only
  rw [S_size, show ((n : Int)).toNat = n by simp, show ((n : Int) + 1).toNat = n + 1 by omega]
  have hl : (f.2 ++ List.replicate (n + 1 - f.2.length) (0 : UInt8)).length = max f.2.length (n + 1) := by simp; omega
  rw [putG_S _ (by omega), List.take_of_length_le (by simp; omega)]
theorem cutG_S {l : List UInt8} (n : Nat) : ∀ k, k ≤ n → cutG (S l) k = S ((l ++ List.replicate (n - l.length) 0).take k)
 | 0, _ => rfl
 | k + 1, hk => by
  rw [cutG, cutG_S n k (by omega)]
  have hk2 : k < (l ++ List.replicate (n - l.length) (0 : UInt8)).length := by simp; omega
  rw [List.take_add_one, List.getElem?_eq_getElem hk2, Option.toList_some, ← S_app]
  congr 1
  rw [atF_S, strB_u8]
  congr 2
  have := List.getElem?_eq_getElem (l := l ++ List.replicate (n - l.length) 0) (i := k) hk2
  rw [← Option.some_inj, ← this]
  by_cases q : k < l.length
  ·rw [List.getElem?_append_left q, List.getElem?_eq_getElem q]; rfl
  ·rw [List.getElem?_append_right (by omega), List.getElem?_eq_none (by omega), List.getElem?_replicate, if_pos (by omega)]; rfl
theorem cutF_S {f : Fl} {n : Int} : cutF (f.1, S f.2) n = ((cutB f n).1, S (cutB f n).2) := by
 unfold cutF cutB
 by_cases c : f.1 = false ∨ n < 0 ∨ n > 32
 ·rw [if_pos c, if_pos (by omega)]
 ·rw [if_neg c, if_neg (by omega)]
  simp only
  rw [cutG_S n.toNat _ (Nat.le_refl _)]
  congr 2
  by_cases q : n.toNat ≤ f.2.length
  ·rw [List.take_append_of_le_length q, Nat.sub_eq_zero_of_le q]; simp
  ·rw [List.take_of_length_le (by simp; omega), List.take_of_length_le (l := f.2) (by omega)]
section
variable {H0 : Heap} {P F : List HP} {Q : HV → List HP → Prop} {D : DD}
theorem ref09_At_v {f : Bool} {l : Bs} {i : Int} (hn : l.length ≤ 1000000) (h : ∀ x, Q (I x) P) : Wp H0 P (f_ref09_At D [.agg [.bool f, .str (S l)], I i]) Q := fun _ hH =>
 ref09_At_wp (by rw [S_size]; exact hn) ⟨P, h _, hH⟩
theorem ref09_Put_v {f : Fl} {a : Int} {b : UInt8} (hn : f.2.length ≤ 1000) (h : Q (.agg [.bool (putB f a b).1, .str (S (putB f a b).2)]) P) : Wp H0 P (f_ref09_Put D [.agg [.bool f.1, .str (S f.2)], I a, .int .u8 (b.toNat : Int)]) Q := fun H hH =>
 ref09_Put_wp (f := (f.1, S f.2)) (by show (S f.2).size ≤ 1000; rw [S_size]; exact hn) (by rw [putF_S]; exact ⟨P, h, hH⟩)
theorem ref09_Cut_v {f : Fl} {a : Int} (hn : f.2.length ≤ 1000) (h : Q (.agg [.bool (cutB f a).1, .str (S (cutB f a).2)]) P) : Wp H0 P (f_ref09_Cut D [.agg [.bool f.1, .str (S f.2)], I a]) Q := fun H hH =>
 ref09_Cut_wp (f := (f.1, S f.2)) (by show (S f.2).size ≤ 1000; rw [S_size]; exact hn) (by rw [cutF_S]; exact ⟨P, h, hH⟩)
end
theorem getD_iff {γ : Type} {l : List (Int × γ)} {i : Int} {x : γ} (h : Rise l) : getD l i = some x ↔ (i, x) ∈ l := by
 refine ⟨getD_some, fun hm => ?_⟩
 cases hg : getD l i with
 | none => exact absurd rfl (getD_none hg _ hm)
 | some y =>
  have h1 := h.get hm
  have h2 := h.get (getD_some hg)
  rw [h1] at h2
  cases h2
  rfl
theorem getD_put {γ : Type} {l : List (Int × γ)} {i j : Int} {x : γ} (h : Rise l) : getD (putD l i x) j = if j = i then some x else getD l j := by
 split
 ·rename_i e
  subst e
  exact (getD_iff h.put).2 ((mem_putD h).2 (.inl rfl))
 ·rename_i e
  cases hg : getD l j with
  | some y => exact (getD_iff h.put).2 ((mem_putD h).2 (.inr ⟨getD_some hg, e⟩))
  | none =>
   cases hp : getD (putD l i x) j with
   | none => rfl
   | some y =>
    rcases (mem_putD h).1 (getD_some hp) with q | ⟨q, _⟩
    ·cases q; exact absurd rfl e
    ·exact absurd rfl (getD_none hg _ q)
structure Tg where
 cells : List Int
 files : List Fl
 places : List Int
def doR (tx : List Bs) (s : Tg) (d : Dee) : Tg :=
 if d.k = 1 then { s with cells := s.cells.set d.a.toNat d.b }
 else if d.k = 3 then { s with files := s.files.set d.a.toNat (putB ((s.files[d.a.toNat]?).getD noFl) d.b d.c) }
 else if d.k = 4 then { s with files := s.files.set d.a.toNat (true, ((s.files[d.a.toNat]?).getD noFl).2) }
 else if d.k = 5 then { s with files := s.files.set d.a.toNat noFl }
 else if d.k = 6 then (if ((s.files[d.a.toNat]?).getD noFl).1 = false ∨ d.a = d.b then s else { s with files := (s.files.set d.b.toNat ((s.files[d.a.toNat]?).getD noFl)).set d.a.toNat noFl })
 else if d.k = 7 then { s with files := s.files.set d.a.toNat (cutB ((s.files[d.a.toNat]?).getD noFl) d.b) }
 else if d.k = 8 then (if (s.places[d.a.toNat]?).getD 0 < (((tx[d.a.toNat]?).getD []).length : Int) then { s with places := s.places.set d.a.toNat ((s.places[d.a.toNat]?).getD 0 + 1) } else s)
 else s
def mostD (k : Int) : Int := if k = 8 then 2 else if k = 0 ∨ k = 1 then 7 else 5
def goodD (d : Dee) : Prop := 0 ≤ d.k ∧ d.k ≤ 8 ∧ 0 ≤ d.a ∧ d.a ≤ mostD d.k ∧ (d.k = 6 → 0 ≤ d.b ∧ d.b ≤ 5)
instance (d : Dee) : Decidable (goodD d) := by unfold goodD; infer_instance
def doRs (tx : List Bs) (s : Tg) (l : List Dee) : Tg := (l.filter fun d => decide (goodD d)).foldl (doR tx) s
def tgV (v : Vw) : Tg := ⟨v.cells.map Prod.fst, v.files.map Prod.fst, v.places.map Prod.fst⟩
def Agr (v v' : Vw) (rd : List Rd) : Prop := ∀ e ∈ rd, (e.k = 0 → (v.cells[e.i.toNat]?).map Prod.fst = (v'.cells[e.i.toNat]?).map Prod.fst) ∧ (e.k = 1 → (v.files[e.i.toNat]?).map Prod.fst = (v'.files[e.i.toNat]?).map Prod.fst) ∧ (e.k = 2 → (v.places[e.i.toNat]?).map Prod.fst = (v'.places[e.i.toNat]?).map Prod.fst)
structure IsTg (v' : Vw) (t : Tri) (s : Tg) : Prop where
 c : s.cells.length = 8
 f : s.files.length = 6
 p : s.places.length = 3
 ca : ∀ i : Nat, i < 8 → s.cells[i]? = some ((getD t.dc (i : Int)).getD (((v'.cells[i]?).map Prod.fst).getD 0))
 fa : ∀ i : Nat, i < 6 → s.files[i]? = some (shG v'.files t.df (i : Int)).1
 pa : ∀ i : Nat, i < 3 → s.places[i]? = some (((v'.places[i]?).map Prod.fst).getD 0 + (t.cu[i]?).getD 0)
theorem IsTg.of {v : Vw} (ok : VOk v) {n : Int} {r : Int × Int × Int × Int} : IsTg v (tri0 n r) (tgV v) := by
 refine ⟨by simp [tgV, ok.c], by simp [tgV, ok.f], by simp [tgV, ok.p], fun i hi => ?_, fun i hi => ?_, fun i hi => ?_⟩
 ·show (v.cells.map Prod.fst)[i]? = _
  rw [List.getElem?_map, List.getElem?_eq_getElem (by rw [ok.c]; exact hi)]; rfl
 ·show (v.files.map Prod.fst)[i]? = _
  unfold shG
  rw [List.getElem?_map, show ((i : Int)).toNat = i by simp, List.getElem?_eq_getElem (by rw [ok.f]; exact hi)]; rfl
 ·show (v.places.map Prod.fst)[i]? = _
  rw [List.getElem?_map, List.getElem?_eq_getElem (by rw [ok.p]; exact hi)]
  obtain rfl | rfl | rfl : i = 0 ∨ i = 1 ∨ i = 2 := by omega
  all_goals simp [tri0]
section
variable {v v' : Vw} {t : Tri}
theorem note_yes {k i : Int} (h : RdV v t) : (noteT v t k i).1 = true := by
 unfold noteT noteS
 simp only
 cases hf : t.rd.find? (fun e => decide (e.k = k) && decide (e.i = i)) with
 | some e =>
  have h1 := List.find?_some hf
  have h2 := h e (List.mem_of_find?_eq_some hf)
  simp only [Bool.and_eq_true, decide_eq_true_eq] at h1
  rw [h1.1, h1.2] at h2
  simp [h2]
 | none =>
  simp only
  split
  ·rw [if_pos h.valid]
  ·rfl
theorem note_mem {k i : Int} (h : RdV v t) : ∃ e ∈ (noteT v t k i).2.rd, e.k = k ∧ e.i = i := by
 unfold noteT noteS
 simp only
 cases hf : t.rd.find? (fun e => decide (e.k = k) && decide (e.i = i)) with
 | some e =>
  have h1 := List.find?_some hf
  simp only [Bool.and_eq_true, decide_eq_true_eq] at h1
  exact ⟨e, List.mem_of_find?_eq_some hf, h1⟩
 | none =>
  simp only
  split
  ·rw [if_pos h.valid]
   exact ⟨⟨k, i, verOf v k i⟩, List.mem_append_right _ (List.mem_singleton.2 rfl), rfl, rfl⟩
  ·exact ⟨⟨k, i, verOf v k i⟩, List.mem_append_right _ (List.mem_singleton.2 rfl), rfl, rfl⟩
theorem note_sub {k i : Int} : ∀ e ∈ t.rd, e ∈ (noteT v t k i).2.rd := by
 unfold noteT noteS
 simp only
 intro e he
 split
 ·exact he
 ·split
  ·split
   ·exact List.mem_append_left _ he
   ·exact he
  ·exact List.mem_append_left _ he
theorem Agr.sub {a b : List Rd} (h : Agr v v' b) (hs : ∀ e ∈ a, e ∈ b) : Agr v v' a := fun e he => h e (hs e he)
theorem touch_sub {i : Int} : ∀ e ∈ t.rd, e ∈ (touchT v t i).2.rd := by
 unfold touchT
 split
 ·exact fun _ h => h
 ·split
  ·exact fun _ h => h
  ·exact note_sub
theorem touch_rest {i : Int} : (touchT v t i).2.dc = t.dc ∧ (touchT v t i).2.df = t.df ∧ (touchT v t i).2.cu = t.cu := by
 unfold touchT
 split
 ·exact ⟨rfl, rfl, rfl⟩
 ·split <;> exact ⟨rfl, rfl, rfl⟩
theorem touch_yes {i : Int} (h : RdV v t) : (touchT v t i).1.2 = if i < 0 ∨ 6 ≤ i then 1 else 0 := by
 unfold touchT
 split
 ·rfl
 ·split
  ·rfl
  ·show noteE v t 1 i = 0
   unfold noteE; rw [if_pos (note_yes h)]
theorem shG_agr {i : Int} (h : RdV v t) (hi : 0 ≤ i ∧ i < 6) (ha : Agr v v' (touchT v t i).2.rd) : (shG v.files t.df i).1 = (shG v'.files t.df i).1 := by
 unfold shG
 cases hg : getD t.df i with
 | some f => rfl
 | none =>
  have hb : (shG v.files t.df i).2 = false := by unfold shG; rw [hg]
  have hr : (touchT v t i).2 = (noteT v t 1 i).2 := by unfold touchT; rw [if_neg (by omega), if_neg (by simp [hb])]
  rw [hr] at ha
  obtain ⟨e, he, h1, h2⟩ := note_mem (v := v) (t := t) (k := 1) (i := i) h
  have := (ha e he).2.1 h1
  rw [h2] at this
  simp only [this]
theorem shG_put {fs : List (Fl × Int)} {df : List (Int × Fl)} {i j : Int} {f : Fl} (h : Rise df) : (shG fs (putD df i f) j).1 = if j = i then f else (shG fs df j).1 := by
 unfold shG
 rw [getD_put h]
 by_cases e : j = i
 ·rw [if_pos e, if_pos e]
 ·rw [if_neg e, if_neg e]
theorem shG_shP {df : List (Int × Fl)} {i j : Int} {f : Fl} (h : Rise df) (ha : (shG v.files df i).1 = (shG v'.files df i).1) : (shG v'.files (shP v.files df i f) j).1 = if j = i then f else (shG v'.files df j).1 := by
 unfold shP
 split
 ·rename_i e
  by_cases hj : j = i
  ·rw [if_pos hj, hj, ← ha, e]
  ·rw [if_neg hj]
 ·exact shG_put h
theorem IsTg.same {t t' : Tri} {s : Tg} (h : IsTg v' t s) (h1 : t'.dc = t.dc) (h2 : t'.df = t.df) (h3 : t'.cu = t.cu) : IsTg v' t' s :=
 ⟨h.c, h.f, h.p, fun i hi => by rw [h1]; exact h.ca i hi, fun i hi => by rw [h2]; exact h.fa i hi, fun i hi => by rw [h3]; exact h.pa i hi⟩
theorem IsTg.at {t : Tri} {s : Tg} (h : IsTg v' t s) {i : Int} (hi : 0 ≤ i ∧ i < 6) : (s.files[i.toNat]?).getD noFl = (shG v'.files t.df i).1 := by
 have := h.fa i.toNat (by omega)
 rw [this]
 simp only [Option.getD_some]
 rw [Int.toNat_of_nonneg hi.1]
theorem IsTg.putF {t t' : Tri} {s : Tg} {i : Int} {f : Fl} (h : IsTg v' t s) (hr : Rise t.df) (hi : 0 ≤ i ∧ i < 6) (ha : (shG v.files t.df i).1 = (shG v'.files t.df i).1) (h1 : t'.dc = t.dc) (h2 : t'.df = shP v.files t.df i f) (h3 : t'.cu = t.cu) :
  IsTg v' t' { s with files := s.files.set i.toNat f } := by
 refine ⟨h.c, by simp [h.f], h.p, fun j hj => by rw [h1]; exact h.ca j hj, fun j hj => ?_, fun j hj => by rw [h3]; exact h.pa j hj⟩
 show (s.files.set i.toNat f)[j]? = _
 rw [h2, shG_shP hr ha, List.getElem?_set]
 by_cases e : i.toNat = j
 ·rw [if_pos e, if_pos (by rw [h.f]; omega), if_pos (by omega)]
 ·rw [if_neg e, if_neg (by omega)]; exact h.fa j hj
theorem IsTg.mod {s : Tg} {i : Int} {g : Fl → Fl} (ht : TOk v t) (hr : RdV v t) (h : IsTg v' t s) (ha : Agr v v' (modT v t i g).2.rd) :
  IsTg v' (modT v t i g).2 (if 0 ≤ i ∧ i ≤ 5 then { s with files := s.files.set i.toNat (g ((s.files[i.toNat]?).getD noFl)) } else s) := by
 have hrest := touch_rest (v := v) (t := t) (i := i)
 have hyes := touch_yes (v := v) (t := t) (i := i) hr
 by_cases hi : 0 ≤ i ∧ i ≤ 5
 ·rw [if_pos hi]
  rw [if_neg (by omega)] at hyes
  have e : (modT v t i g).2 = { (touchT v t i).2 with df := shP v.files (touchT v t i).2.df i (g (shG v.files (touchT v t i).2.df i).1) } := by unfold modT; simp only; rw [if_pos hyes]
  rw [e] at ha ⊢
  have hag := shG_agr (v' := v') hr (i := i) ⟨hi.1, by omega⟩ ha
  have hat := h.at (i := i) ⟨hi.1, by omega⟩
  rw [hat]
  refine h.putF (v := v) (i := i) ht.df.r ⟨hi.1, by omega⟩ hag hrest.1 ?_ hrest.2.2
  simp only
  rw [hrest.2.1, hag]
 ·rw [if_neg hi]
  rw [if_pos (by omega)] at hyes
  have e : (modT v t i g).2 = (touchT v t i).2 := by unfold modT; simp only; rw [if_neg (by rw [hyes]; decide)]
  rw [e]
  exact h.same hrest.1 hrest.2.1 hrest.2.2
theorem IsTg.load {s : Tg} {i : Int} (h : IsTg v' t s) : IsTg v' (loadT v t i).2 s := by
 unfold loadT
 split
 ·exact h
 ·split
  ·exact h
  ·split
   ·exact h.same rfl rfl rfl
   ·exact h.same rfl rfl rfl
theorem IsTg.store {s : Tg} {i x : Int} (ht : TOk v t) (h : IsTg v' t s) : IsTg v' (storeT t i x).2 (if 0 ≤ i ∧ i ≤ 7 then { s with cells := s.cells.set i.toNat x } else s) := by
 unfold storeT
 by_cases hi : 0 ≤ i ∧ i ≤ 7
 ·rw [if_pos hi, if_neg (by omega)]
  refine ⟨by simp [h.c], h.f, h.p, fun j hj => ?_, h.fa, h.pa⟩
  show (s.cells.set i.toNat x)[j]? = _
  rw [getD_put ht.dc.r, List.getElem?_set]
  by_cases e : i.toNat = j
  ·rw [if_pos e, if_pos (by rw [h.c]; omega), if_pos (by omega)]; rfl
  ·rw [if_neg e, if_neg (by omega)]; exact h.ca j hj
 ·rw [if_neg hi, if_pos (by omega)]; exact h
theorem IsTg.rename {s : Tg} {i j : Int} (ht : TOk v t) (hr : RdV v t) (h : IsTg v' t s) (ha : Agr v v' (renameT v t i j).2.rd) :
  IsTg v' (renameT v t i j).2 (if (0 ≤ i ∧ i ≤ 5) ∧ 0 ≤ j ∧ j ≤ 5 then (if ((s.files[i.toNat]?).getD noFl).1 = false ∨ i = j then s else { s with files := (s.files.set j.toNat ((s.files[i.toNat]?).getD noFl)).set i.toNat noFl }) else s) := by
 have hrest := touch_rest (v := v) (t := t) (i := i)
 have hyes := touch_yes (v := v) (t := t) (i := i) hr
 have hr1 := hr.touch (i := i)
 have ht1 := ht.touch (i := i)
 have hrest2 := touch_rest (v := v) (t := (touchT v t i).2) (i := j)
 have hyes2 := touch_yes (v := v) (t := (touchT v t i).2) (i := j) hr1
 by_cases hj : 0 ≤ j ∧ j ≤ 5
 ·rw [if_neg (by omega)] at hyes2
  by_cases hi : 0 ≤ i ∧ i ≤ 5
  ·rw [if_neg (by omega)] at hyes
   rw [if_pos ⟨hi, hj⟩]
   have e : (renameT v t i j).2 = { (touchT v (touchT v t i).2 j).2 with df := shR v.files (touchT v (touchT v t i).2 j).2.df i j } := by
    unfold renameT; rw [if_neg (by omega), if_pos hyes]; simp only; rw [if_pos hyes2]
   rw [e] at ha ⊢
   have ha2 : Agr v v' (touchT v (touchT v t i).2 j).2.rd := ha
   have hai := shG_agr (v' := v') hr (i := i) ⟨hi.1, by omega⟩ (ha2.sub touch_sub)
   have haj := shG_agr (v' := v') hr1 (i := j) ⟨hj.1, by omega⟩ ha2
   rw [hrest.2.1] at haj
   have hdf : (touchT v (touchT v t i).2 j).2.df = t.df := by rw [hrest2.2.1, hrest.2.1]
   have hdc : (touchT v (touchT v t i).2 j).2.dc = t.dc := by rw [hrest2.1, hrest.1]
   have hcu : (touchT v (touchT v t i).2 j).2.cu = t.cu := by rw [hrest2.2.2, hrest.2.2]
   have hat := h.at (i := i) ⟨hi.1, by omega⟩
   rw [hat, ← hai]
   by_cases hc : (shG v.files t.df i).1.1 = false ∨ i = j
   ·rw [if_pos hc]
    refine h.same hdc ?_ hcu
    simp only
    rw [hdf]
    unfold shR
    rw [if_pos hc]
   ·rw [if_neg hc]
    have h1 : IsTg v' { t with df := shP v.files t.df j (shG v.files t.df i).1 } { s with files := s.files.set j.toNat (shG v.files t.df i).1 } :=
     h.putF (v := v) (i := j) ht.df.r ⟨hj.1, by omega⟩ haj rfl rfl rfl
    have hd1 : DfOk (shP v.files t.df j (shG v.files t.df i).1) := ht.df.shP ⟨hj.1, by omega⟩
    have hne : i ≠ j := fun q => hc (.inr q)
    refine h1.putF (v := v) (i := i) hd1.r ⟨hi.1, by omega⟩ ?_ hdc ?_ hcu
    ·simp only
     rw [shG_shP (v := v) ht.df.r haj, if_neg hne]
     rw [shG_shP (v := v) (v' := v) ht.df.r rfl, if_neg hne]
     exact hai
    ·simp only
     rw [hdf]
     unfold shR
     rw [if_neg hc]
  ·rw [if_pos (by omega)] at hyes
   rw [if_neg (fun q => hi q.1)]
   have e : (renameT v t i j).2 = (touchT v t i).2 := by unfold renameT; rw [if_neg (by omega), if_neg (by rw [hyes]; decide)]
   rw [e]
   exact h.same hrest.1 hrest.2.1 hrest.2.2
 ·rw [if_neg (fun q => hj q.2)]
  have e : (renameT v t i j).2 = t := by unfold renameT; rw [if_pos (by omega)]
  rw [e]; exact h
theorem IsTg.recv {s : Tg} {i : Int} (hv : VwP v) (ht : TOk v t) (hr : RdV v t) (h : IsTg v' t s) (ha : Agr v v' (recvT v t i).2.rd) :
  IsTg v' (recvT v t i).2 (if 0 ≤ i ∧ i ≤ 2 then (if (s.places[i.toNat]?).getD 0 < (((v.texts[i.toNat]?).getD []).length : Int) then { s with places := s.places.set i.toNat ((s.places[i.toNat]?).getD 0 + 1) } else s) else s) := by
 by_cases hi : 0 ≤ i ∧ i ≤ 2
 ·rw [if_pos hi]
  have hy := note_yes (k := 2) (i := i) hr
  obtain ⟨c, hc⟩ : ∃ c, t.cu[i.toNat]? = some c := ⟨_, List.getElem?_eq_getElem (by rw [ht.cu]; omega)⟩
  obtain ⟨x, hx⟩ : ∃ c, v.places[i.toNat]? = some c := ⟨_, List.getElem?_eq_getElem (by rw [hv.ok.p]; omega)⟩
  obtain ⟨l, hl⟩ : ∃ c, v.texts[i.toNat]? = some c := ⟨_, List.getElem?_eq_getElem (by rw [hv.ok.t]; omega)⟩
  have hc0 := ht.cr _ _ hc
  have hx0 := hv.pl _ _ _ hx hl
  have hsub : ∀ e ∈ (noteT v t 2 i).2.rd, e ∈ (recvT v t i).2.rd := by
   unfold recvT
   rw [if_neg (by omega), if_pos hy]
   split <;> exact fun _ q => q
  obtain ⟨e, he, e1, e2⟩ := note_mem (v := v) (t := t) (k := 2) (i := i) hr
  have hag := (ha e (hsub e he)).2.2 e1
  rw [e2, hx] at hag
  have hpl := h.pa i.toNat (by omega)
  rw [← hag, hc] at hpl
  simp only [Option.map_some, Option.getD_some] at hpl
  rw [hpl, hl]
  simp only [Option.getD_some]
  have hat : atL l (x.1 + c) < 0 ↔ (l.length : Int) ≤ x.1 + c := atL_neg (by omega)
  by_cases hlt : x.1 + c < (l.length : Int)
  ·rw [if_pos hlt]
   have e : (recvT v t i).2 = { (noteT v t 2 i).2 with cu := t.cu.set i.toNat (c + 1) } := by
    unfold recvT; rw [if_neg (by omega), if_pos hy, hc, hx, hl]; simp only [Option.map_some, Option.getD_some]; rw [if_neg (by rw [hat]; omega)]
   rw [e]
   refine ⟨h.c, h.f, by simp [h.p], h.ca, h.fa, fun j hj => ?_⟩
   show (s.places.set i.toNat (x.1 + c + 1))[j]? = some (_ + ((t.cu.set i.toNat (c + 1))[j]?).getD 0)
   rw [List.getElem?_set, List.getElem?_set]
   by_cases e : i.toNat = j
   ·subst e
    rw [if_pos rfl, if_pos rfl, if_pos (by rw [h.p]; omega), if_pos (by rw [ht.cu]; omega), ← hag]
    simp only [Option.map_some, Option.getD_some]
    congr 1; omega
   ·rw [if_neg e, if_neg e]; exact h.pa j hj
  ·rw [if_neg hlt]
   have e : (recvT v t i).2 = (noteT v t 2 i).2 := by
    unfold recvT; rw [if_neg (by omega), if_pos hy, hc, hx, hl]; simp only [Option.map_some, Option.getD_some]; rw [if_pos (by rw [hat]; omega)]
   rw [e]
   exact h.same rfl rfl rfl
 ·rw [if_neg hi]
  have e : (recvT v t i).2 = t := by unfold recvT; rw [if_pos (by omega)]
  rw [e]; exact h
theorem IsTg.doT {s : Tg} {d : Dee} (hv : VwP v) (ht : TOk v t) (hr : RdV v t) (h : IsTg v' t s) (ha : Agr v v' (HQ.doT v t d).rd) :
  IsTg v' (HQ.doT v t d) (if goodD d then doR v.texts s d else s) := by
 unfold HQ.doT at ha ⊢
 unfold doR
 by_cases k0 : d.k = 0
 ·simp only [k0, Int.reduceEq, reduceIte, ite_self] at ha ⊢
  exact h.load
 by_cases k1 : d.k = 1
 ·simp only [k1, Int.reduceEq, reduceIte] at ha ⊢
  have key := h.store (i := d.a) (x := d.b) ht
  have hg : goodD d ↔ 0 ≤ d.a ∧ d.a ≤ 7 := by unfold goodD mostD; rw [k1]; simp
  by_cases q : 0 ≤ d.a ∧ d.a ≤ 7
  ·rw [if_pos (hg.2 q)]; rw [if_pos q] at key; exact key
  ·rw [if_neg (fun z => q (hg.1 z))]; rw [if_neg q] at key; exact key
 by_cases k2 : d.k = 2
 ·simp only [k2, Int.reduceEq, reduceIte, ite_self] at ha ⊢
  have hrest := touch_rest (v := v) (t := t) (i := d.a)
  have e : (readT v t d.a d.b).2 = (touchT v t d.a).2 := by unfold readT; split <;> rfl
  rw [e]
  exact h.same hrest.1 hrest.2.1 hrest.2.2
 by_cases k3 : d.k = 3
 ·simp only [k3, Int.reduceEq, reduceIte] at ha ⊢
  have key := h.mod (v := v) (i := d.a) (g := fun f => putB f d.b d.c) ht hr ha
  have hg : goodD d ↔ 0 ≤ d.a ∧ d.a ≤ 5 := by unfold goodD mostD; rw [k3]; simp
  by_cases q : 0 ≤ d.a ∧ d.a ≤ 5
  ·rw [if_pos (hg.2 q)]; rw [if_pos q] at key; exact key
  ·rw [if_neg (fun z => q (hg.1 z))]; rw [if_neg q] at key; exact key
 by_cases k4 : d.k = 4
 ·simp only [k4, Int.reduceEq, reduceIte] at ha ⊢
  have key := h.mod (v := v) (i := d.a) (g := fun f => (true, f.2)) ht hr ha
  have hg : goodD d ↔ 0 ≤ d.a ∧ d.a ≤ 5 := by unfold goodD mostD; rw [k4]; simp
  by_cases q : 0 ≤ d.a ∧ d.a ≤ 5
  ·rw [if_pos (hg.2 q)]; rw [if_pos q] at key; exact key
  ·rw [if_neg (fun z => q (hg.1 z))]; rw [if_neg q] at key; exact key
 by_cases k5 : d.k = 5
 ·simp only [k5, Int.reduceEq, reduceIte] at ha ⊢
  have key := h.mod (v := v) (i := d.a) (g := fun _ => noFl) ht hr ha
  have hg : goodD d ↔ 0 ≤ d.a ∧ d.a ≤ 5 := by unfold goodD mostD; rw [k5]; simp
  by_cases q : 0 ≤ d.a ∧ d.a ≤ 5
  ·rw [if_pos (hg.2 q)]; rw [if_pos q] at key; exact key
  ·rw [if_neg (fun z => q (hg.1 z))]; rw [if_neg q] at key; exact key
 by_cases k6 : d.k = 6
 ·simp only [k6, Int.reduceEq, reduceIte] at ha ⊢
  have key := h.rename (v := v) (i := d.a) (j := d.b) ht hr ha
  have hg : goodD d ↔ (0 ≤ d.a ∧ d.a ≤ 5) ∧ 0 ≤ d.b ∧ d.b ≤ 5 := by unfold goodD mostD; rw [k6]; simp [and_assoc]
  by_cases q : (0 ≤ d.a ∧ d.a ≤ 5) ∧ 0 ≤ d.b ∧ d.b ≤ 5
  ·rw [if_pos (hg.2 q)]; rw [if_pos q] at key; exact key
  ·rw [if_neg (fun z => q (hg.1 z))]; rw [if_neg q] at key; exact key
 by_cases k7 : d.k = 7
 ·simp only [k7, Int.reduceEq, reduceIte] at ha ⊢
  have key := h.mod (v := v) (i := d.a) (g := fun f => cutB f d.b) ht hr ha
  have hg : goodD d ↔ 0 ≤ d.a ∧ d.a ≤ 5 := by unfold goodD mostD; rw [k7]; simp
  by_cases q : 0 ≤ d.a ∧ d.a ≤ 5
  ·rw [if_pos (hg.2 q)]; rw [if_pos q] at key; exact key
  ·rw [if_neg (fun z => q (hg.1 z))]; rw [if_neg q] at key; exact key
 by_cases k8 : d.k = 8
 ·simp only [k8, Int.reduceEq, reduceIte] at ha ⊢
  have key := h.recv (v := v) (i := d.a) hv ht hr ha
  have hg : goodD d ↔ 0 ≤ d.a ∧ d.a ≤ 2 := by unfold goodD mostD; rw [k8]; simp
  by_cases q : 0 ≤ d.a ∧ d.a ≤ 2
  ·rw [if_pos (hg.2 q)]; rw [if_pos q] at key; exact key
  ·rw [if_neg (fun z => q (hg.1 z))]; rw [if_neg q] at key; exact key
 simp only [k0, k1, k2, k3, k4, k5, k6, k7, k8, reduceIte, ite_self]
 exact h
theorem doT_sub {d : Dee} : ∀ e ∈ t.rd, e ∈ (HQ.doT v t d).rd := by
 unfold HQ.doT
 split
 ·unfold loadT
  split
  ·exact fun _ h => h
  ·split
   ·exact fun _ h => h
   ·split <;> exact note_sub
 split
 ·unfold storeT; split <;> exact fun _ h => h
 split
 ·unfold readT; split <;> exact touch_sub
 have hm : ∀ g, ∀ e ∈ t.rd, e ∈ (modT v t d.a g).2.rd := fun g => by unfold modT; simp only; split <;> exact touch_sub
 split
 ·exact hm _
 split
 ·exact hm _
 split
 ·exact hm _
 split
 ·unfold renameT
  split
  ·exact fun _ h => h
  ·split
   ·simp only; split <;> exact fun e he => touch_sub e (touch_sub e he)
   ·exact touch_sub
 split
 ·exact hm _
 split
 ·unfold recvT
  split
  ·exact fun _ h => h
  ·split
   ·split <;> exact note_sub
   ·exact note_sub
 ·exact fun _ h => h
end
theorem dosT_sub {v : Vw} : ∀ {l : List Dee} {t : Tri}, ∀ e ∈ t.rd, e ∈ (dosT v t l).rd
 | [], _, _, h => h
 | d :: l, t, e, h => by
  show e ∈ (dosT v (doT v t d) l).rd
  exact dosT_sub e (doT_sub e h)
theorem IsTg.dos {v v' : Vw} (hv : VwP v) : ∀ {l : List Dee} {t : Tri} {s : Tg}, TOk v t → RdV v t → IsTg v' t s → Agr v v' (dosT v t l).rd → IsTg v' (dosT v t l) (doRs v.texts s l)
 | [], _, _, _, _, h, _ => h
 | d :: l, t, s, ht, hr, h, ha => by
  have ha' : Agr v v' (dosT v (HQ.doT v t d) l).rd := ha
  have h1 := h.doT hv ht hr (ha'.sub (fun e he => dosT_sub e he))
  have h2 := IsTg.dos hv (l := l) (ht.doT hv) hr.doT h1 ha'
  show IsTg v' (dosT v (HQ.doT v t d) l) _
  unfold doRs
  by_cases hg : goodD d
  ·rw [List.filter_cons_of_pos (by simpa using hg), List.foldl_cons]
   rw [if_pos hg] at h2
   exact h2
  ·rw [List.filter_cons_of_neg (by simpa using hg)]
   rw [if_neg hg] at h2
   exact h2
abbrev f2p (x : Fl) : List HV := [.bool x.1, .str (S x.2)]
theorem flat_lenP (l : List Fl) : ((l.map f2p).flatten).length = l.length * 2 := by
 induction l with
 | nil => rfl
 | cons a l ih => simp [ih]; omega
def shC (bs fs : List Fl) (wn : List Bool) : List HV := (bs.map f2p).flatten ++ ((fs.map f2p).flatten ++ wn.map .bool)
theorem shC_len {bs fs : List Fl} {wn : List Bool} (hb : bs.length = 6) (hf : fs.length = 6) (hw : wn.length = 6) : (shC bs fs wn).length = 30 := by
 unfold shC
 rw [List.length_append, List.length_append, flat_lenP, flat_lenP, List.length_map]; omega
theorem split_at {α : Type} {l : List α} {i : Nat} {x : α} (h : l[i]? = some x) : l = l.take i ++ x :: l.drop (i + 1) := by
 have hi := (List.getElem?_eq_some_iff.1 h).1
 have : l[i] = x := by rw [List.getElem?_eq_getElem hi] at h; exact Option.some.inj h
 rw [← this, ← List.drop_eq_getElem_cons hi, List.take_append_drop]
theorem shC_at {bs fs : List Fl} {wn : List Bool} {i : Nat} {f : Fl} (hb : bs.length = 6) (h : fs[i]? = some f) : ∃ A B : List HV, A.length = 12 + i * 2 ∧ shC bs fs wn = A ++ (f2p f ++ B) ∧ ∀ g, shC bs (fs.set i g) wn = A ++ (f2p g ++ B) := by
 have hi := (List.getElem?_eq_some_iff.1 h).1
 refine ⟨(bs.map f2p).flatten ++ ((fs.take i).map f2p).flatten, ((fs.drop (i + 1)).map f2p).flatten ++ wn.map .bool, ?_, ?_, fun g => ?_⟩
 ·rw [List.length_append, flat_lenP, flat_lenP, List.length_take]; omega
 ·unfold shC
  have e := split_at h
  have : (fs.map f2p).flatten = ((fs.take i).map f2p).flatten ++ (f2p f ++ ((fs.drop (i + 1)).map f2p).flatten) := by
   conv => lhs; rw [e]
   simp
  rw [this]; simp
 ·unfold shC
  have e : fs.set i g = fs.take i ++ g :: fs.drop (i + 1) := by
   rw [List.set_eq_take_append_cons_drop, if_pos hi]
  rw [e]; simp
theorem mid_ld {A X B : List HV} {o : Nat} (h : A.length = o) : ((A ++ (X ++ B)).drop o).take X.length = X := by
 subst h; rw [List.drop_left, List.take_left]
section
variable {H0 : Heap} {P F : List HP} {Q : HV → List HP → Prop} {D : DD} {b i j : Nat} {bs fs : List Fl} {wn : List Bool} {f g : Fl}
theorem ref14_put_v [fd : Fnd P rC b (shC bs fs wn) F] (hb : bs.length = 6) (hf : fs.length = 6) (hw : wn.length = 6) (hi : fs[i]? = some f)
  (h : ∀ wn' : List Bool, wn'.length = 6 → Q (.tup []) (own rC b (shC bs (fs.set i g) wn') :: F)) : Wp H0 P (f_ref14_Sheet_put D [.ptr (some (b, 0)), I i, .agg [.bool g.1, .str (S g.2)]]) Q := by
 refine Wp.cl ?_
 have hi6 := (List.getElem?_eq_some_iff.1 hi).1
 obtain ⟨A, B, hA, e1, e2⟩ := shC_at (wn := wn) hb hi
 have hl := shC_len hb hf hw
 unfold f_ref14_Sheet_put
 refine go ⟨by omega, by omega, ?_⟩
 refine Wp.ldN (vs := f2p f) (by rw [hl]; simp; omega) (by rw [e1]; exact mid_ld (X := f2p f) (by simp [hA])) ?_
 refine go ⟨fun _ => ⟨by omega, by omega, ?_⟩, fun c => ?_⟩
 ·have h24 : ((bs.map f2p).flatten ++ ((fs.set i g).map f2p).flatten).length = 24 := by rw [List.length_append, flat_lenP, flat_lenP, List.length_set]; omega
  have hl2 := shC_len (wn := wn) hb (show (fs.set i g).length = 6 by simp [hf]) hw
  refine Wp.stN (cs' := shC bs (fs.set i g) wn) (by rw [hl]; simp; omega) ?_ ?_
  ·rw [e1, e2, show 0 + 12 + ((i : Int)).toNat * 2 = A.length by rw [hA]; simp]
   exact putN_midM (X := f2p f) (Y := f2p g) rfl
  refine go ⟨by omega, by omega, ?_⟩
  refine Wp.stC (cs' := shC bs (fs.set i g) (wn.set i true)) (by rw [hl2]; simp <;> omega) ?_ rfl ?_
  ·unfold shC
   rw [← List.append_assoc, ← List.append_assoc, List.set_append_right _ _ (by rw [h24]; simp <;> omega), h24, List.map_set]
   congr 2
   simp <;> omega
  refine go ?_
  exact ⟨_, h _ (by simp [hw]), .refl⟩
 ·have e := fl_eq.1 c
  subst e
  have es : fs.set i f = fs := by
   refine List.ext_getElem? fun k => ?_
   rw [List.getElem?_set]
   split
   ·rename_i q
    subst q
    exact hi.symm
   ·rfl
  have := h wn hw
  rw [es] at this
  exact ⟨_, this, Ent.perm fd.p⟩
theorem ref14_Is_v {k : Int} (hk : 0 ≤ k ∧ k ≤ 5) (h : Q (.bool true) P) : Wp H0 P (f_ref14_Is D [I k]) Q := by
 unfold f_ref14_Is
 refine go ⟨fun _ => ?_, fun c => absurd hk.1 c⟩
 rw [decide_eq_true hk.2]; exact h
theorem ref14_Write_v {a : Int} {x : UInt8} [fd : Fnd P rC b (shC bs fs wn) F] (hb : bs.length = 6) (hf : fs.length = 6) (hw : wn.length = 6) (hi : fs[i]? = some f) (hg : f.2.length ≤ 1000)
  (h : ∀ wn' : List Bool, wn'.length = 6 → Q (.bool true) (own rC b (shC bs (fs.set i (putB f a x)) wn') :: F)) : Wp H0 P (f_ref14_Sheet_Write D [.ptr (some (b, 0)), I i, I a, .int .u8 (x.toNat : Int)]) Q := by
 have hi6 := (List.getElem?_eq_some_iff.1 hi).1
 obtain ⟨A, B, hA, e1, e2⟩ := shC_at (wn := wn) hb hi
 have hl := shC_len hb hf hw
 unfold f_ref14_Sheet_Write
 refine go (ref14_Is_v (by omega) ?_)
 refine go ⟨by omega, by omega, ?_⟩
 refine Wp.ldN (vs := f2p f) (by rw [hl]; simp; omega) (by rw [e1]; exact mid_ld (X := f2p f) (by simp [hA])) ?_
 refine go (ref09_Put_v hg ?_)
 refine go (ref14_put_v (g := putB f a x) hb hf hw hi fun wn' hw' => ?_)
 refine go (ref14_Is_v (by omega) ?_)
 exact go (h wn' hw')
theorem ref14_Create_v [fd : Fnd P rC b (shC bs fs wn) F] (hb : bs.length = 6) (hf : fs.length = 6) (hw : wn.length = 6) (hi : fs[i]? = some f)
  (h : ∀ wn' : List Bool, wn'.length = 6 → Q (.bool true) (own rC b (shC bs (fs.set i (true, f.2)) wn') :: F)) : Wp H0 P (f_ref14_Sheet_Create D [.ptr (some (b, 0)), I i]) Q := by
 have hi6 := (List.getElem?_eq_some_iff.1 hi).1
 obtain ⟨A, B, hA, e1, e2⟩ := shC_at (wn := wn) hb hi
 have hl := shC_len hb hf hw
 unfold f_ref14_Sheet_Create
 refine go (ref14_Is_v (by omega) ?_)
 refine go ⟨by omega, by omega, ?_⟩
 refine Wp.ldC (v := .str (S f.2)) ?_ ?_
 ·rw [e1, List.getElem?_append_right (by simp; omega), List.getElem?_append_left (by simp; omega)]
  rw [show 0 + 12 + ((i : Int)).toNat * 2 + 1 - A.length = 1 by simp; omega]; rfl
 refine go (ref14_put_v (g := (true, f.2)) hb hf hw hi fun wn' hw' => ?_)
 refine go (ref14_Is_v (by omega) ?_)
 exact go (h wn' hw')
theorem ref14_Remove_v [fd : Fnd P rC b (shC bs fs wn) F] (hb : bs.length = 6) (hf : fs.length = 6) (hw : wn.length = 6) (hi : fs[i]? = some f)
  (h : ∀ wn' : List Bool, wn'.length = 6 → Q (.bool true) (own rC b (shC bs (fs.set i noFl) wn') :: F)) : Wp H0 P (f_ref14_Sheet_Remove D [.ptr (some (b, 0)), I i]) Q := by
 have hi6 := (List.getElem?_eq_some_iff.1 hi).1
 unfold f_ref14_Sheet_Remove
 refine go (ref14_Is_v (by omega) ?_)
 refine go (ref14_put_v (g := noFl) hb hf hw hi fun wn' hw' => ?_)
 refine go (ref14_Is_v (by omega) ?_)
 exact go (h wn' hw')
theorem ref14_Cut_v {a : Int} [fd : Fnd P rC b (shC bs fs wn) F] (hb : bs.length = 6) (hf : fs.length = 6) (hw : wn.length = 6) (hi : fs[i]? = some f) (hg : f.2.length ≤ 1000)
  (h : ∀ wn' : List Bool, wn'.length = 6 → Q (.bool true) (own rC b (shC bs (fs.set i (cutB f a)) wn') :: F)) : Wp H0 P (f_ref14_Sheet_Cut D [.ptr (some (b, 0)), I i, I a]) Q := by
 have hi6 := (List.getElem?_eq_some_iff.1 hi).1
 obtain ⟨A, B, hA, e1, e2⟩ := shC_at (wn := wn) hb hi
 have hl := shC_len hb hf hw
 unfold f_ref14_Sheet_Cut
 refine go (ref14_Is_v (by omega) ?_)
 refine go ⟨by omega, by omega, ?_⟩
 refine Wp.ldN (vs := f2p f) (by rw [hl]; simp; omega) (by rw [e1]; exact mid_ld (X := f2p f) (by simp [hA])) ?_
 refine go (ref09_Cut_v hg ?_)
 refine go (ref14_put_v (g := cutB f a) hb hf hw hi fun wn' hw' => ?_)
 refine go (ref14_Is_v (by omega) ?_)
 exact go (h wn' hw')
theorem ref14_Rename_v [fd : Fnd P rC b (shC bs fs wn) F] (hb : bs.length = 6) (hf : fs.length = 6) (hw : wn.length = 6) (hi : fs[i]? = some f) (hj : j < 6)
  (h : ∀ wn' : List Bool, wn'.length = 6 → Q (.bool true) (own rC b (shC bs (if f.1 = false ∨ (i : Int) = j then fs else (fs.set j f).set i noFl) wn') :: F)) : Wp H0 P (f_ref14_Sheet_Rename D [.ptr (some (b, 0)), I i, I j]) Q := by
 refine Wp.cl ?_
 have hi6 := (List.getElem?_eq_some_iff.1 hi).1
 obtain ⟨A, B, hA, e1, e2⟩ := shC_at (wn := wn) hb hi
 have hl := shC_len hb hf hw
 unfold f_ref14_Sheet_Rename
 refine go (ref14_Is_v (by omega) ?_)
 refine go (ref14_Is_v (by omega) ?_)
 refine go ⟨by omega, by omega, ?_⟩
 refine Wp.ldC (v := .bool f.1) ?_ ?_
 ·rw [e1, List.getElem?_append_right (by simp; omega), List.getElem?_append_left (by simp; omega)]
  rw [show 0 + 12 + ((i : Int)).toNat * 2 - A.length = 0 by simp; omega]; rfl
 cases hf1 : f.1 with
 | false =>
  have := h wn hw
  rw [if_pos (.inl hf1)] at this
  refine go ?_
  exact ⟨_, this, Ent.perm fd.p⟩
 | true =>
  have hneg : ∀ c : (i : Int) ≠ j, ¬ (f.1 = false ∨ (i : Int) = j) := fun c q => by
   rcases q with q | q
   ·rw [hf1] at q; cases q
   ·exact c q
  refine go ⟨fun c => ⟨by omega, by omega, ?_⟩, fun c => ?_⟩
  ·obtain ⟨fj, hj2⟩ : ∃ x, fs[j]? = some x := ⟨_, List.getElem?_eq_getElem (by omega)⟩
   refine Wp.ldN (vs := f2p f) (by rw [hl]; simp; omega) (by rw [e1]; exact mid_ld (X := f2p f) (by simp [hA])) ?_
   refine go (ref14_put_v (i := j) (g := f) hb hf hw hj2 fun wn2 hw2 => ?_)
   refine go (ref14_put_v (i := i) (f := f) (g := noFl) hb (by simp [hf]) hw2 (by rw [List.getElem?_set, if_neg (by omega)]; exact hi) fun wn3 hw3 => ?_)
   have := h wn3 hw3
   rw [if_neg (hneg c)] at this
   exact go ⟨_, this, .refl⟩
  ·have := h wn hw
   rw [if_pos (.inr c)] at this
   exact ⟨_, this, Ent.perm fd.p⟩
end
def tgL (s : Tg) (fs : List Fl) : List HV := s.cells.map I ++ ((fs.map f2p).flatten ++ s.places.map I)
structure TgOk (s : Tg) : Prop where
 c : s.cells.length = 8
 f : s.files.length = 6
 p : s.places.length = 3
 g : ∀ f ∈ s.files, f.2.length ≤ 32
 q : ∀ x ∈ s.places, 0 ≤ x
section
variable {H0 : Heap} {P F : List HP} {Q : HV → List HP → Prop} {D : DD}
theorem ref20_Good_v {d : Dee} (h : Q (.bool (decide (goodD d))) P) : Wp H0 P (f_ref20_Good D [.agg (deC d)]) Q := by
 have key : ∀ b : Bool, (b = true ↔ goodD d) → Q (.bool b) P := fun b e => by
  have : b = decide (goodD d) := by
   cases b with
   | true => exact (decide_eq_true (e.1 rfl)).symm
   | false => exact (decide_eq_false (fun q => by have := e.2 q; cases this)).symm
  rw [this]; exact h
 unfold f_ref20_Good
 unfold goodD at key
 refine go ⟨fun c0 => ?_, fun c0 => ⟨fun c1 => ?_, fun c1 => ⟨fun c2 => ?_, fun c2 => ⟨by omega, by omega, ?_⟩⟩⟩⟩
 ·exact key false (by simp; omega)
 ·exact key false (by simp; omega)
 ·exact key false (by simp; omega)
 refine Wp.gx (v := I (mostD d.k)) ?_ ?_
 ·obtain ⟨k, hk⟩ : ∃ k : Nat, d.k = k := ⟨d.k.toNat, by omega⟩
  rw [hk]
  have : k < 9 := by omega
  match k, this with
  | 0, _ => rfl
  | 1, _ => rfl
  | 2, _ => rfl
  | 3, _ => rfl
  | 4, _ => rfl
  | 5, _ => rfl
  | 6, _ => rfl
  | 7, _ => rfl
  | 8, _ => rfl
 refine go ⟨fun c3 => ?_, fun c3 => ?_⟩
 ·exact key false (by simp at c3 ⊢; omega)
 exact ⟨fun c => key true (by simp at c3 ⊢; omega), fun c => ⟨fun c4 => key _ (by simp at c3 ⊢; omega), fun c4 => key false (by simp at c3 ⊢; omega)⟩⟩
theorem set_le {l : List Fl} {f : Fl} {i n : Nat} (h : ∀ x ∈ l, x.2.length ≤ n) (hf : f.2.length ≤ n) : ∀ x ∈ l.set i f, x.2.length ≤ n := fun x hx => by
 rcases List.mem_or_eq_of_mem_set hx with q | rfl
 ·exact h x q
 ·exact hf
theorem getD_le {l : List Fl} {i n : Nat} (h : ∀ x ∈ l, x.2.length ≤ n) : ((l[i]?).getD noFl).2.length ≤ n := by
 cases hx : l[i]? with
 | none => exact Nat.zero_le _
 | some f => exact h f (List.mem_of_getElem? hx)
theorem putB_le {f : Fl} {a : Int} {b : UInt8} (h : f.2.length ≤ 32) : (putB f a b).2.length ≤ 32 := by
 unfold putB
 split
 ·exact h
 ·simp; omega
theorem cutB_le {f : Fl} {a : Int} (h : f.2.length ≤ 32) : (cutB f a).2.length ≤ 32 := by
 unfold cutB
 split
 ·exact h
 ·simp; omega
theorem TgOk.doR {tx : List Bs} {s : Tg} {d : Dee} (h : TgOk s) : TgOk (doR tx s d) := by
 have hgd := getD_le (i := d.a.toNat) h.g
 unfold HQ.doR
 split
 ·exact ⟨by simp [h.c], h.f, h.p, h.g, h.q⟩
 split
 ·exact ⟨h.c, by simp [h.f], h.p, set_le h.g (putB_le hgd), h.q⟩
 split
 ·exact ⟨h.c, by simp [h.f], h.p, set_le h.g hgd, h.q⟩
 split
 ·exact ⟨h.c, by simp [h.f], h.p, set_le h.g (Nat.zero_le _), h.q⟩
 split
 ·split
  ·exact h
  ·exact ⟨h.c, by simp [h.f], h.p, set_le (set_le h.g hgd) (Nat.zero_le _), h.q⟩
 split
 ·exact ⟨h.c, by simp [h.f], h.p, set_le h.g (cutB_le hgd), h.q⟩
 split
 ·split
  ·refine ⟨h.c, h.f, by simp [h.p], h.g, fun x hx => ?_⟩
   rcases List.mem_or_eq_of_mem_set hx with q | rfl
   ·exact h.q x q
   ·cases hp : s.places[d.a.toNat]? with
    | none => simp
    | some y => have := h.q y (List.mem_of_getElem? hp); simp; omega
  ·exact h
 ·exact h
theorem TgOk.doRs {tx : List Bs} {l : List Dee} : ∀ {s : Tg}, TgOk s → TgOk (l.foldl (HQ.doR tx) s) := by
 induction l with
 | nil => exact fun h => h
 | cons d l ih => exact fun h => ih h.doR
theorem tgL_len {s : Tg} {fs : List Fl} (h : TgOk s) (hf : fs.length = 6) : (tgL s fs).length = 23 := by
 unfold tgL
 rw [List.length_append, List.length_append, flat_lenP, List.length_map, List.length_map, h.c, h.p]; omega
theorem tgL_c {s : Tg} {fs : List Fl} {i : Nat} {x : Int} (h : TgOk s) (hx : s.cells[i]? = some x) : (tgL s fs)[0 + i * 1]? = some (I x) := by
 have hi := (List.getElem?_eq_some_iff.1 hx).1
 unfold tgL
 rw [List.getElem?_append_left (by simp; omega), Nat.zero_add, Nat.mul_one, List.getElem?_map, hx]; rfl
theorem tgL_p {s : Tg} {fs : List Fl} {i : Nat} {x : Int} (h : TgOk s) (hf : fs.length = 6) (hx : s.places[i]? = some x) : (tgL s fs)[20 + i * 1]? = some (I x) := by
 unfold tgL
 rw [List.getElem?_append_right (by rw [List.length_map, h.c]; omega), List.length_map, h.c, List.getElem?_append_right (by rw [flat_lenP]; omega), flat_lenP, hf, show 20 + i * 1 - 8 - 6 * 2 = i by omega, List.getElem?_map, hx]; rfl
theorem ref20_Do_v {sl : Sl} {t : Tg} {gl : List Dee} {tx : List Bs} [fr : FndR P sl none Dee deC 4 gl F] (ok : TgOk t) (hg : ∀ d ∈ gl, goodD d) (hl : gl.length ≤ 1000) (htx : ∀ (k : Nat) (l : Bs), tx[k]? = some l → l = [])
  (h : ∀ x, Q (.tup [I x, .agg (tgL (gl.foldl (doR tx) t) (gl.foldl (doR tx) t).files)]) P) : Wp H0 P (f_ref20_Do D [.agg (tgL t t.files), .agg [.str (S []), .str (S []), .str (S [])], .sl sl]) Q := by
 refine Wp.cl ?_
 have htl := tgL_len ok ok.f
 have hfl : ((t.files.map f2p).flatten).length = 12 := by rw [flat_lenP, ok.f]
 have hdr : ((tgL t t.files).drop 8).take 12 = (t.files.map f2p).flatten := by
  unfold tgL
  rw [List.drop_append_of_le_length (by rw [List.length_map, ok.c]; omega), List.drop_eq_nil_of_le (by rw [List.length_map, ok.c]; omega), List.nil_append, List.take_append_of_le_length (by omega), List.take_of_length_le (by omega)]
 unfold f_ref20_Do
 refine go ?_
 refine Wp.gxN (vs := (t.files.map f2p).flatten) (by omega) hdr ?_
 refine Wp.gxN (vs := (t.files.map f2p).flatten) (by omega) hdr ?_
 refine go ⟨by rw [hfl]; rfl, by rw [hfl]; rfl, fun b17 => ?_⟩
 have eb : putN (putN ([] ++ ((List.replicate 6 zF).flatten ++ ((List.replicate 6 zF).flatten ++ List.replicate 6 (.bool false)))) 0 (t.files.map f2p).flatten) 12 (t.files.map f2p).flatten = shC t.files t.files (List.replicate 6 false) := by
  have e1 := putN_midM (A := []) (B := (List.replicate 6 zF).flatten ++ List.replicate 6 (HV.bool false)) (X := (List.replicate 6 zF).flatten) (Y := (t.files.map f2p).flatten) (by rw [hfl]; rfl)
  have e2 := putN_midM (A := (t.files.map f2p).flatten) (B := List.replicate 6 (HV.bool false)) (X := (List.replicate 6 zF).flatten) (Y := (t.files.map f2p).flatten) (by rw [hfl]; rfl)
  rw [hfl] at e2
  rw [show ([] : List HV).length = 0 from rfl] at e1
  rw [e1, List.nil_append, e2]; rfl
 refine Wp.ent (P' := own rC b17 (shC t.files t.files (List.replicate 6 false)) :: P) (.cons eb .refl) ?_
 refine Wp.row (s := sl) fun q => ?_
 have hsl := q.len
 refine Wp.forL (σ := Int × List Bool × List HV) gl.length (by omega) (by omega) (fun x i => [I x.1, I i, .agg x.2.2]) (out := fun x => [I x.1, .agg x.2.2]) (fun _ _ => rfl)
  (fun i x => x.2.2 = tgL ((gl.take i).foldl (doR tx) t) t.files ∧ x.2.1.length = 6) (fun i x => own rC b17 (shC t.files ((gl.take i).foldl (doR tx) t).files x.2.1) :: P) (0, List.replicate 6 false, tgL t t.files) rfl ⟨rfl, rfl⟩ .refl ?_ ?_
 ·rintro i ⟨x, wn, y⟩ hi ⟨hy, hwn⟩
  simp only at hy hwn
  subst hy
  obtain ⟨d, hd⟩ : ∃ d, gl[i]? = some d := ⟨_, List.getElem?_eq_getElem hi⟩
  have hsn : (gl.take (i + 1)).foldl (doR tx) t = doR tx ((gl.take i).foldl (doR tx) t) d := by
   rw [List.take_add_one, hd, List.foldl_append]; rfl
  have oks : TgOk ((gl.take i).foldl (doR tx) t) := ok.doRs
  generalize hs : (gl.take i).foldl (doR tx) t = s at oks hsn
  obtain ⟨z0, z1, z2, z3, z4⟩ := hg d (List.mem_of_getElem? hd)
  have hyl := tgL_len (fs := t.files) oks ok.f
  refine Wp.blk (Wp.mono (Q' := fun lf P' => ∃ (x' : Int) (wn' : List Bool), lf = .norm [I x', .agg (tgL (doR tx s d) t.files)] ∧ wn'.length = 6 ∧ P' = own rC b17 (shC t.files (doR tx s d).files wn') :: P) (Wp.cl ?_) ?_)
  ·refine Wp.ixN (s := sl) (x := d) (f := deC) rfl hd fun _ _ => ?_
   obtain ⟨m, hm⟩ : ∃ m : Nat, d.a = m := ⟨d.a.toNat, by omega⟩
   have hmt : d.a.toNat = m := by omega
   refine go ⟨fun k0 => ?_, fun k0 => ⟨fun k1 => ?_, fun k1 => ⟨fun k2 => ?_, fun k2 => ⟨fun k3 => ?_, fun k3 => ⟨fun k4 => ?_, fun k4 => ⟨fun k5 => ?_, fun k5 => ⟨fun k6 => ?_, fun k6 => ⟨fun k7 => ?_, fun k7 => ⟨fun k8 => ?_, fun k8 => ?_⟩⟩⟩⟩⟩⟩⟩⟩⟩
   ·rw [k0] at z3
    have z3 : d.a ≤ 7 := z3
    obtain ⟨cx, hcx⟩ : ∃ x, s.cells[m]? = some x := ⟨_, List.getElem?_eq_getElem (by rw [oks.c]; omega)⟩
    have ed : doR tx s d = s := by
     unfold HQ.doR
     simp only [k0, Int.reduceEq, reduceIte]
    rw [ed]
    refine ⟨by omega, by omega, ?_⟩
    refine Wp.gx (v := I cx) (by rw [hmt]; exact tgL_c oks hcx) ?_
    refine go ?_
    exact Wp.ret ⟨_, ⟨_, wn, rfl, hwn, rfl⟩, .refl⟩
   ·rw [k1] at z3
    have z3 : d.a ≤ 7 := z3
    have ed : doR tx s d = { s with cells := s.cells.set m d.b } := by
     unfold HQ.doR
     simp only [k1, Int.reduceEq, reduceIte, hmt]
    rw [ed]
    refine ⟨by omega, by omega, by rw [hyl]; omega, ?_⟩
    refine Wp.ret ⟨_, ⟨0, wn, ?_, hwn, rfl⟩, .refl⟩
    rw [hmt]
    have : (tgL s t.files).set (0 + m * 1) (I d.b) = tgL { s with cells := s.cells.set m d.b } t.files := by
     unfold tgL
     rw [List.set_append_left _ _ (by rw [List.length_map, oks.c]; omega), List.map_set, Nat.zero_add, Nat.mul_one]
    rw [this]
   ·rw [k2] at z3
    have z3 : d.a ≤ 5 := z3
    obtain ⟨fx, hfx⟩ : ∃ x, s.files[m]? = some x := ⟨_, List.getElem?_eq_getElem (by rw [oks.f]; omega)⟩
    obtain ⟨A, B, hA, e1, e2⟩ := shC_at (wn := wn) ok.f hfx
    have hl := shC_len ok.f oks.f hwn
    have hfg := oks.g fx (List.mem_of_getElem? hfx)
    have ed : doR tx s d = s := by
     unfold HQ.doR
     simp only [k2, Int.reduceEq, reduceIte]
    rw [ed]
    refine ⟨by omega, by omega, ?_⟩
    refine Wp.ldN (vs := f2p fx) (by rw [hl]; omega) (by rw [e1]; exact mid_ld (X := f2p fx) (by rw [hA, hmt])) ?_
    refine go (ref09_At_v (by omega) fun v => ?_)
    refine go ?_
    exact Wp.ret ⟨_, ⟨_, wn, rfl, hwn, rfl⟩, .refl⟩
   ·rw [k3] at z3
    have z3 : d.a ≤ 5 := z3
    obtain ⟨fx, hfx⟩ : ∃ x, s.files[m]? = some x := ⟨_, List.getElem?_eq_getElem (by rw [oks.f]; omega)⟩
    have hfg := oks.g fx (List.mem_of_getElem? hfx)
    have ed : doR tx s d = { s with files := s.files.set m (putB fx d.b d.c) } := by
     unfold HQ.doR
     simp only [k3, Int.reduceEq, reduceIte, hmt, hfx, Option.getD_some]
    rw [ed, hm]
    refine ref14_Write_v (i := m) (f := fx) ok.f oks.f hwn hfx (by omega) fun wn' hwn' => ?_
    refine go ?_
    exact Wp.ret ⟨_, ⟨_, wn', rfl, hwn', rfl⟩, .refl⟩
   ·rw [k4] at z3
    have z3 : d.a ≤ 5 := z3
    obtain ⟨fx, hfx⟩ : ∃ x, s.files[m]? = some x := ⟨_, List.getElem?_eq_getElem (by rw [oks.f]; omega)⟩
    have hfg := oks.g fx (List.mem_of_getElem? hfx)
    have ed : doR tx s d = { s with files := s.files.set m ((true, fx.2)) } := by
     unfold HQ.doR
     simp only [k4, Int.reduceEq, reduceIte, hmt, hfx, Option.getD_some]
    rw [ed, hm]
    refine ref14_Create_v (i := m) (f := fx) ok.f oks.f hwn hfx fun wn' hwn' => ?_
    refine go ?_
    exact Wp.ret ⟨_, ⟨_, wn', rfl, hwn', rfl⟩, .refl⟩
   ·rw [k5] at z3
    have z3 : d.a ≤ 5 := z3
    obtain ⟨fx, hfx⟩ : ∃ x, s.files[m]? = some x := ⟨_, List.getElem?_eq_getElem (by rw [oks.f]; omega)⟩
    have hfg := oks.g fx (List.mem_of_getElem? hfx)
    have ed : doR tx s d = { s with files := s.files.set m (noFl) } := by
     unfold HQ.doR
     simp only [k5, Int.reduceEq, reduceIte, hmt, hfx, Option.getD_some]
    rw [ed, hm]
    refine ref14_Remove_v (i := m) (f := fx) ok.f oks.f hwn hfx fun wn' hwn' => ?_
    refine go ?_
    exact Wp.ret ⟨_, ⟨_, wn', rfl, hwn', rfl⟩, .refl⟩
   ·rw [k6] at z3
    have z3 : d.a ≤ 5 := z3
    have z4 := z4 k6
    obtain ⟨q, hq⟩ : ∃ q : Nat, d.b = q := ⟨d.b.toNat, by omega⟩
    obtain ⟨fx, hfx⟩ : ∃ x, s.files[m]? = some x := ⟨_, List.getElem?_eq_getElem (by rw [oks.f]; omega)⟩
    have ed : doR tx s d = { s with files := if fx.1 = false ∨ (m : Int) = q then s.files else (s.files.set q fx).set m noFl } := by
     unfold HQ.doR
     simp only [k6, Int.reduceEq, reduceIte, hm, hq, Int.toNat_natCast, hfx, Option.getD_some]
     by_cases c : fx.1 = false ∨ (m : Int) = q
     ·rw [if_pos c, if_pos c]
     ·rw [if_neg c, if_neg c]
    rw [ed, hm, hq]
    refine ref14_Rename_v (i := m) (j := q) (f := fx) ok.f oks.f hwn hfx (by omega) fun wn' hwn' => ?_
    refine go ?_
    exact Wp.ret ⟨_, ⟨_, wn', rfl, hwn', rfl⟩, .refl⟩
   ·rw [k7] at z3
    have z3 : d.a ≤ 5 := z3
    obtain ⟨fx, hfx⟩ : ∃ x, s.files[m]? = some x := ⟨_, List.getElem?_eq_getElem (by rw [oks.f]; omega)⟩
    have hfg := oks.g fx (List.mem_of_getElem? hfx)
    have ed : doR tx s d = { s with files := s.files.set m (cutB fx d.b) } := by
     unfold HQ.doR
     simp only [k7, Int.reduceEq, reduceIte, hmt, hfx, Option.getD_some]
    rw [ed, hm]
    refine ref14_Cut_v (i := m) (f := fx) ok.f oks.f hwn hfx (by omega) fun wn' hwn' => ?_
    refine go ?_
    exact Wp.ret ⟨_, ⟨_, wn', rfl, hwn', rfl⟩, .refl⟩
   ·rw [k8] at z3
    have z3 : d.a ≤ 2 := z3
    obtain ⟨px, hpx⟩ : ∃ x, s.places[m]? = some x := ⟨_, List.getElem?_eq_getElem (by rw [oks.p]; omega)⟩
    have hp0 := oks.q px (List.mem_of_getElem? hpx)
    have ed : doR tx s d = s := by
     unfold HQ.doR
     have htm : (tx[m]?).getD [] = [] := by
      cases hx : tx[m]? with
      | none => rfl
      | some l => exact htx m l hx
     simp only [k8, Int.reduceEq, reduceIte, hmt, hpx, Option.getD_some, htm, List.length_nil]
     rw [if_neg (by simp; omega)]
    rw [ed]
    refine ⟨by omega, by omega, ?_⟩
    refine Wp.gx (v := I px) (by rw [hmt]; exact tgL_p oks ok.f hpx) ?_
    refine go ⟨by omega, by omega, ?_⟩
    refine Wp.gx (v := .str (S [])) ?_ ?_
    ·rw [hmt]
     have : m < 3 := by omega
     match m, this with
     | 0, _ => rfl
     | 1, _ => rfl
     | 2, _ => rfl
    refine go ⟨fun c => ?_, fun _ => ?_⟩
    ·have : (S []).size = 0 := rfl
     rw [this] at c
     omega
    exact Wp.ret ⟨_, ⟨_, wn, rfl, hwn, rfl⟩, .refl⟩
   ·omega
  rintro lf P' ⟨x', wn', rfl, hwn', rfl⟩
  refine go ?_
  refine ⟨(x', wn', tgL (doR tx s d) t.files), rfl, ⟨?_, hwn'⟩, ?_⟩
  ·show _ = tgL ((gl.take (i + 1)).foldl (doR tx) t) t.files
   rw [hsn]
  ·rw [hsn]; exact .refl
 ·rintro ⟨x, wn, y⟩ ⟨hy, hwn⟩
  simp only at hy hwn
  rw [List.take_length] at hy ⊢
  subst hy
  have oks : TgOk (gl.foldl (doR tx) t) := ok.doRs
  have h := h x
  generalize gl.foldl (doR tx) t = s at oks h
  have hyl := tgL_len (fs := t.files) oks ok.f
  have hsl : ((s.files.map f2p).flatten).length = 12 := by rw [flat_lenP, oks.f]
  have hl := shC_len ok.f oks.f hwn
  refine go ?_
  refine Wp.ldN (vs := (s.files.map f2p).flatten) (by rw [hl]; omega) ?_ ?_
  ·unfold shC
   have := mid_ld (o := 12) (A := (t.files.map f2p).flatten) (X := (s.files.map f2p).flatten) (B := wn.map .bool) hfl
   rw [hsl] at this
   exact this
  refine go ⟨by rw [hsl]; rfl, by rw [hsl, hyl]; rfl, ?_⟩
  have ep : putN (tgL s t.files) 8 (s.files.map f2p).flatten = tgL s s.files := by
   have := putN_midM (A := s.cells.map I) (B := s.places.map I) (X := (t.files.map f2p).flatten) (Y := (s.files.map f2p).flatten) (by rw [hfl, hsl])
   rw [List.length_map, oks.c] at this
   exact this
  rw [ep]
  have hzl := tgL_len (fs := s.files) oks oks.f
  refine Wp.gxN (vs := tgL s s.files) (by omega) (by rw [List.drop_zero, List.take_of_length_le (by omega)]) ?_
  refine go ⟨by rw [hzl]; rfl, by rw [hzl]; decide, ?_⟩
  refine Wp.gxN (vs := tgL s s.files) ?_ ?_ ?_
  ·unfold putN; simp [hzl]
  ·unfold putN
   rw [hzl]
   simp only [List.take_zero, List.nil_append, List.drop_zero, Nat.zero_add]
   rw [List.take_append_of_le_length (by omega), List.take_of_length_le (by omega)]
  refine go ?_
  exact ⟨_, h, .weak .refl⟩
end
structure VE (v : Vw) : Prop where
 e : VwE v
 n : 0 ≤ v.clock
 c : ∀ (i : Nat) (x : Int × Int), v.cells[i]? = some x → x.2 = 0 → x.1 = 0
 f : ∀ (i : Nat) (x : Fl × Int), v.files[i]? = some x → x.2 = 0 → x.1 = noFl
theorem VE.pl {v : Vw} (h : VE v) {i : Nat} {x : Int × Int} (hx : v.places[i]? = some x) : x.1 = 0 := by
 have hi : i < 3 := by have := (List.getElem?_eq_some_iff.1 hx).1; rw [h.e.p.ok.p] at this; exact this
 obtain ⟨l, hl⟩ : ∃ l, v.texts[i]? = some l := ⟨_, List.getElem?_eq_getElem (by rw [h.e.p.ok.t]; exact hi)⟩
 have h1 := h.e.p.pl i x l hx hl
 rw [h.e.t i l hl] at h1
 simp at h1; omega
theorem VE.new : VE vw0 := by
 refine ⟨.new, by decide, fun i x hx _ => ?_, fun i x hx _ => ?_⟩
 ·have hi := (List.getElem?_eq_some_iff.1 hx).1
  have : (List.replicate 8 ((0 : Int), (0 : Int)))[i]? = some x := hx
  rw [List.getElem?_replicate] at this
  split at this
  ·cases this; rfl
  ·cases this
 ·have : (List.replicate 6 (noFl, (0 : Int)))[i]? = some x := hx
  rw [List.getElem?_replicate] at this
  split at this
  ·cases this; rfl
  ·cases this
theorem landG_new {γ : Type} {cs : List (γ × Int)} {dc : List (Int × γ)} {n : Int} {j : Nat} {x : γ × Int} (hd : dc.Pairwise fun a b => a.1.toNat < b.1.toNat) (hl : ∀ e ∈ dc, e.1.toNat < cs.length) (hx : (landG cs dc n)[j]? = some x) : x.2 = n ∨ cs[j]? = some x := by
 by_cases c : ∃ e ∈ dc, e.1.toNat = j
 ·obtain ⟨e, he, rfl⟩ := c
  rw [landG_at hd he (hl e he)] at hx
  cases hx
  exact .inl rfl
 ·rw [landG_other (fun e he q => c ⟨e, he, q⟩)] at hx
  exact .inr hx
theorem VE.land {v : Vw} {T : Tri} (h : VE v) (hT : TE T) : VE (landT v T) := by
 have ht := hT.at h.e
 have hn := h.n
 refine ⟨h.e.land hT, by show 0 ≤ v.clock + 1; omega, fun i x hx h0 => ?_, fun i x hx h0 => ?_⟩
 ·rcases landG_new (ht.dc.r.toNat fun e he => (ht.dc.i e he).1) (fun e he => by have := ht.dc.i e he; rw [h.e.p.ok.c]; omega) (show (landG v.cells T.dc (v.clock + 1))[i]? = some x from hx) with q | q
  ·omega
  ·exact h.c i x q h0
 ·rcases landG_new (ht.df.r.toNat fun e he => (ht.df.i e he).1) (fun e he => by have := ht.df.i e he; have := ht.d6 e he; rw [h.e.p.ok.f]; omega) (show (landG v.files T.df (v.clock + 1))[i]? = some x from hx) with q | q
  ·omega
  ·exact h.f i x q h0
theorem ver0 {k i : Int} : verOf vw0 k i = 0 := by
 have h1 : ∀ n : Nat, (((List.replicate 8 ((0 : Int), (0 : Int)))[n]?).map Prod.snd).getD 0 = 0 := fun n => by
  rw [List.getElem?_replicate]; split <;> rfl
 have h2 : ∀ n : Nat, (((List.replicate 6 (noFl, (0 : Int)))[n]?).map Prod.snd).getD 0 = 0 := fun n => by
  rw [List.getElem?_replicate]; split <;> rfl
 have h3 : ∀ n : Nat, (((List.replicate 3 ((0 : Int), (0 : Int)))[n]?).map Prod.snd).getD 0 = 0 := fun n => by
  rw [List.getElem?_replicate]; split <;> rfl
 unfold verOf
 split
 ·exact h1 _
 ·split
  ·exact h2 _
  ·exact h3 _
theorem rep_at {α : Type} {n : Nat} {a : α} {l : List α} {i : Nat} (hl : l.length = n) : (List.replicate n a)[i]? = if i < l.length then some a else none := by
 rw [List.getElem?_replicate, hl]
theorem VE.agr {v : Vw} {T : Tri} (h : VE v) (hr : RdV vw0 T) (hb : validB v T.rd = true) : Agr vw0 v T.rd := by
 intro e he
 have h1 := hr e he
 rw [ver0] at h1
 have h2 := validB_iff.1 hb e he
 rw [← h1] at h2
 refine ⟨fun k => ?_, fun k => ?_, fun k => ?_⟩
 ·show ((List.replicate 8 ((0 : Int), (0 : Int)))[e.i.toNat]?).map Prod.fst = _
  rw [rep_at h.e.p.ok.c]
  unfold verOf at h2
  rw [if_pos k] at h2
  cases hx : v.cells[e.i.toNat]? with
  | none =>
   rw [if_neg (by have := List.getElem?_eq_none_iff.1 hx; omega)]
  | some x =>
   rw [if_pos (List.getElem?_eq_some_iff.1 hx).1]
   rw [hx] at h2
   have := h.c _ x hx h2
   simp [this]
 ·show ((List.replicate 6 (noFl, (0 : Int)))[e.i.toNat]?).map Prod.fst = _
  rw [rep_at h.e.p.ok.f]
  unfold verOf at h2
  rw [if_neg (by omega), if_pos k] at h2
  cases hx : v.files[e.i.toNat]? with
  | none =>
   rw [if_neg (by have := List.getElem?_eq_none_iff.1 hx; omega)]
  | some x =>
   rw [if_pos (List.getElem?_eq_some_iff.1 hx).1]
   rw [hx] at h2
   have := h.f _ x hx h2
   simp [this]
 ·show ((List.replicate 3 ((0 : Int), (0 : Int)))[e.i.toNat]?).map Prod.fst = _
  rw [rep_at h.e.p.ok.p]
  cases hx : v.places[e.i.toNat]? with
  | none =>
   rw [if_neg (by have := List.getElem?_eq_none_iff.1 hx; omega)]
  | some x =>
   rw [if_pos (List.getElem?_eq_some_iff.1 hx).1]
   have := h.pl hx
   simp [this]
theorem landG_val {γ : Type} {cs : List (γ × Int)} {dc : List (Int × γ)} {n : Int} {j : Nat} (hd : Rise dc) (h0 : ∀ e ∈ dc, 0 ≤ e.1) (hl : ∀ e ∈ dc, e.1.toNat < cs.length) :
  ((landG cs dc n)[j]?).map Prod.fst = match getD dc (j : Int) with | some x => some x | none => (cs[j]?).map Prod.fst := by
 cases hg : getD dc (j : Int) with
 | some x =>
  have hm := getD_some hg
  have := landG_at (n := n) (cs := cs) (hd.toNat h0) hm (hl _ hm)
  rw [show (((j : Int), x) : Int × γ).1.toNat = j by simp] at this
  rw [this]; rfl
 | none =>
  have hn := getD_none hg
  rw [landG_other (fun e he q => hn e he (by have := h0 e he; omega))]
theorem land_tg {v : Vw} {T : Tri} {s : Tg} (hv : VwP v) (ht : TOk v T) (h : IsTg v T s) : tgV (landT v T) = s := by
 have hlc := landC_len (cs := v.cells) (dc := T.dc) (n := v.clock + 1)
 have hlf := landF_len (fs := v.files) (df := T.df) (n := v.clock + 1)
 have hlp := landP_len (ps := v.places) (cu := T.cu) (n := v.clock + 1) (k := 3)
 obtain ⟨sc, sf, sp⟩ := s
 have ec : (landC v.cells T.dc (v.clock + 1)).map Prod.fst = sc := by
  refine List.ext_getElem? fun j => ?_
  rw [List.getElem?_map]
  by_cases hj : j < 8
  ·rw [h.ca j hj]
   have := landG_val (n := v.clock + 1) (cs := v.cells) (j := j) ht.dc.r (fun e he => (ht.dc.i e he).1) (fun e he => by have := ht.dc.i e he; rw [hv.ok.c]; omega)
   show ((landG v.cells T.dc (v.clock + 1))[j]?).map Prod.fst = _
   rw [this]
   cases getD T.dc (j : Int) with
   | some x => rfl
   | none =>
    obtain ⟨y, hy⟩ : ∃ y, v.cells[j]? = some y := ⟨_, List.getElem?_eq_getElem (by rw [hv.ok.c]; exact hj)⟩
    rw [hy]; rfl
  ·rw [List.getElem?_eq_none (by rw [hlc, hv.ok.c]; omega), List.getElem?_eq_none (by have := h.c; simp only at this; omega)]; rfl
 have ef : (landF v.files T.df (v.clock + 1)).map Prod.fst = sf := by
  refine List.ext_getElem? fun j => ?_
  rw [List.getElem?_map]
  by_cases hj : j < 6
  ·rw [h.fa j hj]
   have := landG_val (n := v.clock + 1) (cs := v.files) (j := j) ht.df.r (fun e he => (ht.df.i e he).1) (fun e he => by have := ht.df.i e he; have := ht.d6 e he; rw [hv.ok.f]; omega)
   show ((landG v.files T.df (v.clock + 1))[j]?).map Prod.fst = _
   rw [this]
   unfold shG
   cases getD T.df (j : Int) with
   | some x => rfl
   | none =>
    obtain ⟨y, hy⟩ : ∃ y, v.files[j]? = some y := ⟨_, List.getElem?_eq_getElem (by rw [hv.ok.f]; exact hj)⟩
    simp only
    rw [show ((j : Int)).toNat = j by simp, hy]; rfl
  ·rw [List.getElem?_eq_none (by rw [hlf, hv.ok.f]; omega), List.getElem?_eq_none (by have := h.f; simp only at this; omega)]; rfl
 have ep : (landP v.places T.cu (v.clock + 1) 3).map Prod.fst = sp := by
  refine List.ext_getElem? fun j => ?_
  rw [List.getElem?_map]
  by_cases hj : j < 3
  ·rw [h.pa j hj]
   obtain ⟨y, hy⟩ : ∃ y, v.places[j]? = some y := ⟨_, List.getElem?_eq_getElem (by rw [hv.ok.p]; exact hj)⟩
   obtain ⟨c, hc⟩ : ∃ y, T.cu[j]? = some y := ⟨_, List.getElem?_eq_getElem (by rw [ht.cu]; exact hj)⟩
   have hcr := ht.cr j c hc
   by_cases hpos : 0 < (T.cu[j]?).getD 0
   ·rw [landP_in hj (by rw [hv.ok.p]; decide) hpos]; rfl
   ·rw [landP_out hpos, hy, hc]
    rw [hc] at hpos
    simp at hpos ⊢
    omega
  ·rw [List.getElem?_eq_none (by rw [hlp, hv.ok.p]; omega), List.getElem?_eq_none (by have := h.p; simp only at this; omega)]; rfl
 show (⟨_, _, _⟩ : Tg) = _
 show (⟨(landC v.cells T.dc (v.clock + 1)).map Prod.fst, (landF v.files T.df (v.clock + 1)).map Prod.fst, (landP v.places T.cu (v.clock + 1) 3).map Prod.fst⟩ : Tg) = _
 rw [ec, ef, ep]
theorem VE.done {v : Vw} {l : List Dee} (h : VE v) (hb : validB v (dosT vw0 (tri0 vw0.clock (0, 0, 0, 0)) l).rd = true) : tgV (landT v (dosT vw0 (tri0 vw0.clock (0, 0, 0, 0)) l)) = doRs vw0.texts (tgV v) l := by
 have hT : TE (dosT vw0 (tri0 vw0.clock (0, 0, 0, 0)) l) := ⟨dosT_ok vw0P (tri0_ok vw0P)⟩
 have hr : RdV vw0 (dosT vw0 (tri0 vw0.clock (0, 0, 0, 0)) l) := dosT_rd tri0_rd
 exact land_tg h.e.p (hT.at h.e) (IsTg.dos vw0P (tri0_ok vw0P) tri0_rd (IsTg.of h.e.p.ok) (h.agr hr hb))
theorem thC_tgL (v : Vw) : thC v = tgL (tgV v) (tgV v).files := by
 unfold thC tgL tgV
 simp only [List.map_map]
 rfl
theorem VE.tgOk {v : Vw} (h : VE v) : TgOk (tgV v) := by
 refine ⟨by simp [tgV, h.e.p.ok.c], by simp [tgV, h.e.p.ok.f], by simp [tgV, h.e.p.ok.p], fun f hf => ?_, fun x hx => ?_⟩
 ·obtain ⟨y, hy, rfl⟩ := List.mem_map.1 hf
  exact (h.e.p.fl y hy).1
 ·obtain ⟨y, hy, rfl⟩ := List.mem_map.1 hx
  obtain ⟨i, hi⟩ := List.mem_iff_getElem?.1 hy
  rw [h.pl hi]; exact Int.le_refl 0
theorem thC_len {v : Vw} (ok : VOk v) : (thC v).length = 23 := by
 unfold thC
 rw [List.length_append, List.length_append, flat_len2, ok.f, List.length_map, List.length_map, ok.c, ok.p]
structure LI (ts : List (Nat × (TrS × Ac))) (C0 : List Nat) (s : CSt) (cms : List (Nat × (Int × Nat × Int))) (m : Nat) : Prop where
 mi : MI ts C0 s cms m
 ve : VE s.v
 f0 : s.f = 0
 lk : ∀ (j : Nat) (c : Nat) (i : Int) (a : Nat) (ph : Int) (t : Nat × (TrS × Ac)), cms[j]? = some (c, i, a, ph) → ts[j]? = some t → 1 ≤ ph → ph ≤ 3 → s.tk.c = j ∧ validB s.v t.2.1.t.rd = true
theorem Tk.free_c {t : Tk} {i : Int} (h : t.free i = true) : t.c = -1 ∨ t.c = i := by
 unfold Tk.free at h
 simp only [Bool.and_eq_true, Bool.or_eq_true, decide_eq_true_eq] at h
 exact h.2
theorem LI.step {ts : List (Nat × (TrS × Ac))} {C0 : List Nat} {s : CSt} {cms : List (Nat × (Int × Nat × Int))} {m j c a : Nat} {ph : Int} {y : TrS} {A : Ac} (h : LI ts C0 s cms m) (hj : cms[j]? = some (c, (j : Int), a, ph)) (ht : ts[j]? = some (a, y, A))
  (hT : TE y.t) (hA : A.o.length + A.l.length ≤ 2) (hn : ts.length ≤ 6) (hm : m ≤ 10000) : LI ts C0 (stepS y.t A j ph s).2.2 (cms.set j (c, (j : Int), a, (stepS y.t A j ph s).2.1)) (m + 1) := by
 have h1 := h.mi.step hj ht hT hA hn hm
 have hlk := h.lk j c j a ph _ hj ht
 have hph := (h.mi.e j _ _ _ _ _ hj ht).2.2
 have hjl := (List.getElem?_eq_some_iff.1 hj).1
 have key : ∀ (s2 : CSt) (ph2 : Int), (∀ t : Nat × (TrS × Ac), ts[j]? = some t → 1 ≤ ph2 → ph2 ≤ 3 → s2.tk.c = j ∧ validB s2.v t.2.1.t.rd = true) →
   (∀ (j' c' : Nat) (i' : Int) (a' : Nat) (ph' : Int) (t : Nat × (TrS × Ac)), j' ≠ j → cms[j']? = some (c', i', a', ph') → ts[j']? = some t → 1 ≤ ph' → ph' ≤ 3 → s2.tk.c = j' ∧ validB s2.v t.2.1.t.rd = true) →
   ∀ (j' : Nat) (c' : Nat) (i' : Int) (a' : Nat) (ph' : Int) (t : Nat × (TrS × Ac)), (cms.set j (c, (j : Int), a, ph2))[j']? = some (c', i', a', ph') → ts[j']? = some t → 1 ≤ ph' → ph' ≤ 3 → s2.tk.c = j' ∧ validB s2.v t.2.1.t.rd = true := by
  intro s2 ph2 k1 k2 j' c' i' a' ph' t e1 e2 e3 e4
  rw [List.getElem?_set] at e1
  split at e1
  ·rename_i q
   subst q
   first
    | (rw [if_pos hjl] at e1; cases e1)
    | cases e1
   exact k1 t e2 e3 e4
  ·rename_i q
   exact k2 j' c' i' a' ph' t (fun z => q z.symm) e1 e2 e3 e4
 obtain rfl | rfl | rfl | rfl | rfl : ph = 0 ∨ ph = 1 ∨ ph = 2 ∨ ph = 3 ∨ ph = 4 := by omega
 ·unfold stepS at h1 ⊢
  rw [if_pos rfl] at h1 ⊢
  by_cases q1 : s.tk.free j = false
  ·rw [if_pos q1] at h1 ⊢
   exact ⟨h1, h.ve, h.f0, key s 0 (fun _ _ z _ => by omega) fun j' c' i' a' ph' t _ e1 e2 e3 e4 => h.lk j' c' i' a' ph' t e1 e2 e3 e4⟩
  ·rw [if_neg q1] at h1 ⊢
   have q1 : s.tk.free j = true := by simpa using q1
   by_cases q2 : validB s.v y.t.rd = false
   ·rw [if_pos q2] at h1 ⊢
    exact ⟨h1, h.ve, h.f0, key s 0 (fun _ _ z _ => by omega) fun j' c' i' a' ph' t _ e1 e2 e3 e4 => h.lk j' c' i' a' ph' t e1 e2 e3 e4⟩
   ·rw [if_neg q2] at h1 ⊢
    have q2 : validB s.v y.t.rd = true := by simpa using q2
    refine ⟨h1, h.ve, h.f0, key { s with tk := s.tk.lock j } _ (fun t e2 _ _ => ?_) fun j' c' i' a' ph' t hne e1 e2 e3 e4 => ?_⟩
    ·rw [ht] at e2
     cases e2
     refine ⟨?_, q2⟩
     show (s.tk.lock j).c = j
     unfold Tk.lock
     rw [if_pos q1]
    ·have := (h.lk j' c' i' a' ph' t e1 e2 e3 e4).1
     have := Tk.free_c q1
     omega
 ·have hlk := hlk (by decide) (by decide)
  unfold stepS at h1 ⊢
  rw [if_neg (by decide), if_pos rfl, if_neg (by rw [h.f0]; decide)] at h1 ⊢
  refine ⟨h1, h.ve, h.f0, key { s with z := _, D := _ } 2 (fun t e2 _ _ => ?_) fun j' c' i' a' ph' t _ e1 e2 e3 e4 => h.lk j' c' i' a' ph' t e1 e2 e3 e4⟩
  rw [ht] at e2; cases e2; exact hlk
 ·have hlk := hlk (by decide) (by decide)
  unfold stepS at h1 ⊢
  rw [if_neg (by decide), if_neg (by decide), if_pos rfl] at h1 ⊢
  refine ⟨h1, h.ve, h.f0, key { s with D := _ } 3 (fun t e2 _ _ => ?_) fun j' c' i' a' ph' t _ e1 e2 e3 e4 => h.lk j' c' i' a' ph' t e1 e2 e3 e4⟩
  rw [ht] at e2; cases e2; exact hlk
 ·have hlk := hlk (by decide) (by decide)
  unfold stepS at h1 ⊢
  rw [if_neg (by decide), if_neg (by decide), if_neg (by decide), if_pos rfl] at h1 ⊢
  refine ⟨h1, ?_, h.f0, key { s with b := _, tk := _, v := _, wi := _ } 4 (fun _ _ _ z => by omega) fun j' c' i' a' ph' t hne e1 e2 e3 e4 => ?_⟩
  ·show VE (if validB s.v y.t.rd = true then landT s.v y.t else s.v)
   rw [if_pos hlk.2]
   exact h.ve.land hT
  ·have := (h.lk j' c' i' a' ph' t e1 e2 e3 e4).1
   have := hlk.1
   omega
 ·unfold stepS at h1 ⊢
  rw [if_neg (by decide), if_neg (by decide), if_neg (by decide), if_neg (by decide)] at h1 ⊢
  exact ⟨h1, h.ve, h.f0, key s 4 (fun _ _ _ z => by omega) fun j' c' i' a' ph' t _ e1 e2 e3 e4 => h.lk j' c' i' a' ph' t e1 e2 e3 e4⟩
section
variable {H0 : Heap} {P F : List HP} [Sea] [SeaOpen] [SeaOk] [SeaLand] [SeaUndo] [SeaRedo] {n : Nat}
set_option linter.unusedSectionVars false
theorem mphase_v {Q : HV → List HP → Prop} {D : DD} {F1 : List HP} {cms : List (Nat × (Int × Nat × Int))} {j c a : Nat} {i ph : Int} [f1 : Fnd P (rAll rCM) 0 cms F1] (hj : cms[j]? = some (c, i, a, ph))
  (h : Q (I ph) P) : Wp H0 P (f_commit_Commit_Phase D [.ptr (some (c, 0))]) Q := by
 refine Wp.cl ?_
 refine Wp.outC hj ?_
 refine commit_Phase_v (i := i) (a := a) (ph := ph) ?_
 exact ⟨_, h, Ent.trans (P' := own (rAll rCM) 0 cms :: F1) (Ent.backC hj (.cons rfl (.cons rfl .refl))) (Ent.perm f1.p.symm)⟩
end
end Go.Proofs.YtbphjihgbenkdaaGreat.HQ
