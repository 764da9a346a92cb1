/- Files, place by place; the document's sheet. Conditions: texts are short (lemmas). -/
import Derived.Test.YtijppadieomnjaaHMPc
namespace Go.Proofs.Ytijppadieomnjaa.HM
open Go

abbrev Fil := Bool × ByteArray
def atF (t : ByteArray) (i : Int) : Int := if 0 ≤ i ∧ i < (t.size : Int) then ((t.data[i.toNat]?.getD 0).toNat : Int) else -1
theorem byte_small (x : UInt8) : wr (x.toNat : Int) = (x.toNat : Int) := by
  have := x.toNat_lt
  exact wr_small (by omega) (by omega)
theorem strB_one (n : Int) : (strB [n]).size = 1 := rfl
theorem ref09_At_wp {D : HV → List HV → M HV} {H : Heap} {Q : HV → Heap → Prop} {f : Bool} {t : ByteArray} {i : Int} (hn : t.size ≤ 1000000) (h : Q (I (atF t i)) H) : wp (f_ref09_At D [.agg [.bool f, .str t], I i]) Q H := by
  unfold f_ref09_At
  with_reducible repeat' (first | refine wp_finF ?_ | refine wp_uA ?_ | refine wp_uI ?_ | refine wp_uB ?_ | refine wp_uL ?_ | refine wp_uS ?_ | refine wp_uP ?_ | refine wp_uc ?_ | refine wp_nl ?_ | refine wp_asB ?_ | refine wp_asI ?_ | refine wp_asSl ?_ | refine wp_asT ?_ | refine wp_asA ?_ | refine wp_asS ?_ | refine wp_asP ?_ | refine wp_nN ?_ | refine wp_rN ?_ | refine wp_xN ?_ | refine wp_nB ?_ | refine wp_rB ?_ | refine wp_xB rfl ?_ | refine wp_xB' rfl ?_ | refine wp_bB ?_ | refine wp_rX ?_ | refine wp_xX ?_ | refine wp_rE ?_ | refine wp_xE ?_ | refine wp_rR ?_ | refine wp_xR ?_ | refine wp_r0 ?_ | refine wp_x0 ?_ | refine wp_rF ?_ | refine wp_rF0 ?_ | refine wp_rF2 ?_ | refine wp_rF3 ?_ | refine wp_rF4 ?_ | refine wp_condT ?_ | refine wp_condF ?_ | refine wp_condNT ?_ | refine wp_condNF ?_)
  refine wp_loop0 t.size (by omega) rfl (fun _ => rfl) rfl (fun k => ∀ j : Nat, j < k → (j : Int) ≠ i) (fun j hj => by omega) ?_ ?_
  · intro k hk hp
    refine wp_condE (fun e => ?_) (fun e => wp_n0 fun j hj => ?_)
    · subst e
      refine wp_gdD (by omega) (wp_gdD (by omega) (wp_r0 (wp_rB (wp_rF ?_))))
      rw [byte_small]
      have : atF t k = ((t.data[(k : Int).toNat]?.getD 0).toNat : Int) := by unfold atF; rw [if_pos (by omega)]
      rw [this] at h
      exact h
    · by_cases hjk : j = k
      · subst hjk; exact e
      · exact hp j (by omega)
  · intro hp
    refine wp_nl (wp_rF ?_)
    have : atF t i = -1 := by
      unfold atF
      rw [if_neg]
      rintro ⟨h1, h2⟩
      exact hp i.toNat (by omega) (by omega)
    rw [this] at h
    exact h
def max0 (x : Int) : Int := bif decide (0 > x) then 0 else x
/-- with another byte at a place: so many bytes of it. -/
def putG (t : ByteArray) (at_ b : Int) : Nat → ByteArray
  | 0 => ByteArray.mk #[]
  | k + 1 => putG t at_ b k ++ strB [IntKind.wrap .u8 (if (k : Int) = at_ then wr b else max0 (atF t k))]
theorem putG_size (t : ByteArray) (at_ b : Int) : ∀ k, (putG t at_ b k).size = k
  | 0 => rfl
  | k + 1 => by simp only [putG, ByteArray.size_append, putG_size t at_ b k, strB_one]
def putF (f : Fil) (at_ b : Int) : Fil := if at_ < 0 ∨ at_ > 31 then f else (true, putG f.2 at_ b (max f.2.size (at_ + 1).toNat))
theorem ref09_Put_wp {D : HV → List HV → M HV} {H : Heap} {Q : HV → Heap → Prop} {f : Fil} {a b : Int} (hn : f.2.size ≤ 1000) (h : Q (.agg [.bool (putF f a b).1, .str (putF f a b).2]) H) : wp (f_ref09_Put D [.agg [.bool f.1, .str f.2], I a, .int .u8 b]) Q H := by
  unfold f_ref09_Put
  with_reducible repeat' (first | refine wp_finF ?_ | refine wp_uA ?_ | refine wp_uI ?_ | refine wp_uB ?_ | refine wp_uL ?_ | refine wp_uS ?_ | refine wp_uP ?_ | refine wp_uc ?_ | refine wp_nl ?_ | refine wp_asB ?_ | refine wp_asI ?_ | refine wp_asSl ?_ | refine wp_asT ?_ | refine wp_asA ?_ | refine wp_asS ?_ | refine wp_asP ?_ | refine wp_nN ?_ | refine wp_rN ?_ | refine wp_xN ?_ | refine wp_nB ?_ | refine wp_rB ?_ | refine wp_xB rfl ?_ | refine wp_xB' rfl ?_ | refine wp_bB ?_ | refine wp_rX ?_ | refine wp_xX ?_ | refine wp_rE ?_ | refine wp_xE ?_ | refine wp_rR ?_ | refine wp_xR ?_ | refine wp_r0 ?_ | refine wp_x0 ?_ | refine wp_rF ?_ | refine wp_rF0 ?_ | refine wp_rF2 ?_ | refine wp_rF3 ?_ | refine wp_rF4 ?_ | refine wp_condT ?_ | refine wp_condF ?_ | refine wp_condNT ?_ | refine wp_condNF ?_)
  refine wp_jnP (a < 0 ∨ a > 31) ?_ (fun c => ?_) (fun c => ?_)
  · refine wp_condD (fun c => wp_bB (by simp [c])) (fun c => wp_bB (by simp [c]))
  · with_reducible repeat' (first | refine wp_finF ?_ | refine wp_uA ?_ | refine wp_uI ?_ | refine wp_uB ?_ | refine wp_uL ?_ | refine wp_uS ?_ | refine wp_uP ?_ | refine wp_uc ?_ | refine wp_nl ?_ | refine wp_asB ?_ | refine wp_asI ?_ | refine wp_asSl ?_ | refine wp_asT ?_ | refine wp_asA ?_ | refine wp_asS ?_ | refine wp_asP ?_ | refine wp_nN ?_ | refine wp_rN ?_ | refine wp_xN ?_ | refine wp_nB ?_ | refine wp_rB ?_ | refine wp_xB rfl ?_ | refine wp_xB' rfl ?_ | refine wp_bB ?_ | refine wp_rX ?_ | refine wp_xX ?_ | refine wp_rE ?_ | refine wp_xE ?_ | refine wp_rR ?_ | refine wp_xR ?_ | refine wp_r0 ?_ | refine wp_x0 ?_ | refine wp_rF ?_ | refine wp_rF0 ?_ | refine wp_rF2 ?_ | refine wp_rF3 ?_ | refine wp_rF4 ?_ | refine wp_condT ?_ | refine wp_condF ?_ | refine wp_condNT ?_ | refine wp_condNF ?_)
    unfold putF at h
    rw [if_pos c] at h
    exact h
  · with_reducible repeat' (first | refine wp_finF ?_ | refine wp_uA ?_ | refine wp_uI ?_ | refine wp_uB ?_ | refine wp_uL ?_ | refine wp_uS ?_ | refine wp_uP ?_ | refine wp_uc ?_ | refine wp_nl ?_ | refine wp_asB ?_ | refine wp_asI ?_ | refine wp_asSl ?_ | refine wp_asT ?_ | refine wp_asA ?_ | refine wp_asS ?_ | refine wp_asP ?_ | refine wp_nN ?_ | refine wp_rN ?_ | refine wp_xN ?_ | refine wp_nB ?_ | refine wp_rB ?_ | refine wp_xB rfl ?_ | refine wp_xB' rfl ?_ | refine wp_bB ?_ | refine wp_rX ?_ | refine wp_xX ?_ | refine wp_rE ?_ | refine wp_xE ?_ | refine wp_rR ?_ | refine wp_xR ?_ | refine wp_r0 ?_ | refine wp_x0 ?_ | refine wp_rF ?_ | refine wp_rF0 ?_ | refine wp_rF2 ?_ | refine wp_rF3 ?_ | refine wp_rF4 ?_ | refine wp_condT ?_ | refine wp_condF ?_ | refine wp_condNT ?_ | refine wp_condNF ?_)
    unfold putF at h
    rw [if_neg c] at h
    refine wp_blk ?_
    refine wp_loop (fun m vs H' => H' = H ∧ ∃ k : Nat, m + k = max f.2.size (a + 1).toNat ∧ vs = [.str (putG f.2 a b k), I (k : Int)]) (max f.2.size (a + 1).toNat) ⟨rfl, 0, by omega, rfl⟩ ?_
    rintro m vs H' ⟨rfl, k, hk, rfl⟩
    refine wp_uS (wp_uI (wp_nl (wp_jnP ((k : Int) < f.2.size ∨ (k : Int) ≤ a) ?_ (fun c2 => ?_) (fun c2 => ?_))))
    · refine wp_condD (fun c => wp_bB (by simp [c])) (fun c => wp_bB (by simp [c]))
    · refine wp_uB (wp_nl (wp_condT (wp_bnd (ref09_At_wp (by omega) (wp_asI ?_)))))
      have hw : wr ((k : Int) + 1) = ((k + 1 : Nat) : Int) := by rw [wr_small (by omega) (by omega)]; rfl
      refine wp_jn (wp.mono (Q := fun lf H2 => H2 = H' ∧ lf = .norm [I (if (k : Int) = a then wr b else max0 (atF f.2 k))]) ?_ ?_)
      · refine wp_condE (fun e => wp_ret ⟨rfl, ?_⟩) (fun e => wp_ret ⟨rfl, ?_⟩)
        · rw [if_pos e]
        · rw [if_neg e]; rfl
      · rintro _ H2 ⟨rfl, rfl⟩
        show wp _ _ _
        refine wp_uI (wp_nl (wp_gdD (by rw [putG_size, strB_one]; omega) (wp_ret ?_)))
        rw [hw]
        exact ⟨m - 1, by omega, rfl, k + 1, by omega, rfl⟩
    · have : k = max f.2.size (a + 1).toNat := by omega
      rw [this]
      refine wp_uB (wp_nl (wp_condF (wp_ret ?_)))
      show wp _ _ _
      refine wp_uS (wp_nl (wp_rF ?_))
      exact h
/-- with so many bytes. -/
def cutG (t : ByteArray) : Nat → ByteArray
  | 0 => ByteArray.mk #[]
  | k + 1 => cutG t k ++ strB [IntKind.wrap .u8 (max0 (atF t k))]
theorem cutG_size (t : ByteArray) : ∀ k, (cutG t k).size = k
  | 0 => rfl
  | k + 1 => by simp only [cutG, ByteArray.size_append, cutG_size t k, strB_one]
def cutF (f : Fil) (n : Int) : Fil := if f.1 = false ∨ n < 0 ∨ n > 32 then f else (true, cutG f.2 n.toNat)
theorem ref09_Cut_wp {D : HV → List HV → M HV} {H : Heap} {Q : HV → Heap → Prop} {f : Fil} {a : Int} (hn : f.2.size ≤ 1000) (h : Q (.agg [.bool (cutF f a).1, .str (cutF f a).2]) H) : wp (f_ref09_Cut D [.agg [.bool f.1, .str f.2], I a]) Q H := by
  unfold f_ref09_Cut
  with_reducible repeat' (first | refine wp_finF ?_ | refine wp_uA ?_ | refine wp_uI ?_ | refine wp_uB ?_ | refine wp_uL ?_ | refine wp_uS ?_ | refine wp_uP ?_ | refine wp_uc ?_ | refine wp_nl ?_ | refine wp_asB ?_ | refine wp_asI ?_ | refine wp_asSl ?_ | refine wp_asT ?_ | refine wp_asA ?_ | refine wp_asS ?_ | refine wp_asP ?_ | refine wp_nN ?_ | refine wp_rN ?_ | refine wp_xN ?_ | refine wp_nB ?_ | refine wp_rB ?_ | refine wp_xB rfl ?_ | refine wp_xB' rfl ?_ | refine wp_bB ?_ | refine wp_rX ?_ | refine wp_xX ?_ | refine wp_rE ?_ | refine wp_xE ?_ | refine wp_rR ?_ | refine wp_xR ?_ | refine wp_r0 ?_ | refine wp_x0 ?_ | refine wp_rF ?_ | refine wp_rF0 ?_ | refine wp_rF2 ?_ | refine wp_rF3 ?_ | refine wp_rF4 ?_ | refine wp_condT ?_ | refine wp_condF ?_ | refine wp_condNT ?_ | refine wp_condNF ?_)
  refine wp_jnP (f.1 = false ∨ a < 0 ∨ a > 32) ?_ (fun c => ?_) (fun c => ?_)
  · refine wp_condN (fun c => wp_bB (by simp [c])) (fun c1 => wp_condD (fun c => wp_bB (by simp [c])) (fun c => wp_bB (by simp [c, c1])))
  · with_reducible repeat' (first | refine wp_finF ?_ | refine wp_uA ?_ | refine wp_uI ?_ | refine wp_uB ?_ | refine wp_uL ?_ | refine wp_uS ?_ | refine wp_uP ?_ | refine wp_uc ?_ | refine wp_nl ?_ | refine wp_asB ?_ | refine wp_asI ?_ | refine wp_asSl ?_ | refine wp_asT ?_ | refine wp_asA ?_ | refine wp_asS ?_ | refine wp_asP ?_ | refine wp_nN ?_ | refine wp_rN ?_ | refine wp_xN ?_ | refine wp_nB ?_ | refine wp_rB ?_ | refine wp_xB rfl ?_ | refine wp_xB' rfl ?_ | refine wp_bB ?_ | refine wp_rX ?_ | refine wp_xX ?_ | refine wp_rE ?_ | refine wp_xE ?_ | refine wp_rR ?_ | refine wp_xR ?_ | refine wp_r0 ?_ | refine wp_x0 ?_ | refine wp_rF ?_ | refine wp_rF0 ?_ | refine wp_rF2 ?_ | refine wp_rF3 ?_ | refine wp_rF4 ?_ | refine wp_condT ?_ | refine wp_condF ?_ | refine wp_condNT ?_ | refine wp_condNF ?_)
    unfold cutF at h
    rw [if_pos c] at h
    exact h
  · with_reducible repeat' (first | refine wp_finF ?_ | refine wp_uA ?_ | refine wp_uI ?_ | refine wp_uB ?_ | refine wp_uL ?_ | refine wp_uS ?_ | refine wp_uP ?_ | refine wp_uc ?_ | refine wp_nl ?_ | refine wp_asB ?_ | refine wp_asI ?_ | refine wp_asSl ?_ | refine wp_asT ?_ | refine wp_asA ?_ | refine wp_asS ?_ | refine wp_asP ?_ | refine wp_nN ?_ | refine wp_rN ?_ | refine wp_xN ?_ | refine wp_nB ?_ | refine wp_rB ?_ | refine wp_xB rfl ?_ | refine wp_xB' rfl ?_ | refine wp_bB ?_ | refine wp_rX ?_ | refine wp_xX ?_ | refine wp_rE ?_ | refine wp_xE ?_ | refine wp_rR ?_ | refine wp_xR ?_ | refine wp_r0 ?_ | refine wp_x0 ?_ | refine wp_rF ?_ | refine wp_rF0 ?_ | refine wp_rF2 ?_ | refine wp_rF3 ?_ | refine wp_rF4 ?_ | refine wp_condT ?_ | refine wp_condF ?_ | refine wp_condNT ?_ | refine wp_condNF ?_)
    unfold cutF at h
    rw [if_neg c] at h
    refine wp_blk ?_
    refine wp_loop (fun m vs H' => H' = H ∧ ∃ k : Nat, m + k = a.toNat ∧ vs = [.str (cutG f.2 k), I (k : Int)]) a.toNat ⟨rfl, 0, by omega, rfl⟩ ?_
    rintro m vs H' ⟨rfl, k, hk, rfl⟩
    refine wp_uS (wp_uI (wp_nl (wp_condD (fun c2 => ?_) (fun c2 => ?_))))
    · have hw : wr ((k : Int) + 1) = ((k + 1 : Nat) : Int) := by rw [wr_small (by omega) (by omega)]; rfl
      refine wp_bnd (ref09_At_wp (by omega) (wp_asI ?_))
      refine wp_gdD (by rw [cutG_size, strB_one]; omega) (wp_ret ?_)
      rw [hw]
      exact ⟨m - 1, by omega, rfl, k + 1, by omega, rfl⟩
    · have : k = a.toNat := by omega
      rw [this]
      refine wp_ret ?_
      show wp _ _ _
      refine wp_uS (wp_nl (wp_rF ?_))
      exact h

theorem ref14_Is_wp {D : HV → List HV → M HV} {H : Heap} {Q : HV → Heap → Prop} {i : Int} (hi : 0 ≤ i ∧ i ≤ 5) (h : Q (.bool true) H) : wp (f_ref14_Is D [I i]) Q H := by
  unfold f_ref14_Is
  with_reducible repeat' (first | refine wp_finF ?_ | refine wp_uA ?_ | refine wp_uI ?_ | refine wp_uB ?_ | refine wp_uL ?_ | refine wp_uS ?_ | refine wp_uP ?_ | refine wp_uc ?_ | refine wp_nl ?_ | refine wp_asB ?_ | refine wp_asI ?_ | refine wp_asSl ?_ | refine wp_asT ?_ | refine wp_asA ?_ | refine wp_asS ?_ | refine wp_asP ?_ | refine wp_nN ?_ | refine wp_rN ?_ | refine wp_xN ?_ | refine wp_nB ?_ | refine wp_rB ?_ | refine wp_xB rfl ?_ | refine wp_xB' rfl ?_ | refine wp_bB ?_ | refine wp_rX ?_ | refine wp_xX ?_ | refine wp_rE ?_ | refine wp_xE ?_ | refine wp_rR ?_ | refine wp_xR ?_ | refine wp_r0 ?_ | refine wp_x0 ?_ | refine wp_rF ?_ | refine wp_rF0 ?_ | refine wp_rF2 ?_ | refine wp_rF3 ?_ | refine wp_rF4 ?_ | refine wp_condT ?_ | refine wp_condF ?_ | refine wp_condNT ?_ | refine wp_condNF ?_)
  refine wp_jnP True ?_ (fun _ => ?_) (fun c => absurd trivial c)
  · refine wp_condD (fun _ => wp_bB (by simp; omega)) (fun c => by omega)
  · with_reducible repeat' (first | refine wp_finF ?_ | refine wp_uA ?_ | refine wp_uI ?_ | refine wp_uB ?_ | refine wp_uL ?_ | refine wp_uS ?_ | refine wp_uP ?_ | refine wp_uc ?_ | refine wp_nl ?_ | refine wp_asB ?_ | refine wp_asI ?_ | refine wp_asSl ?_ | refine wp_asT ?_ | refine wp_asA ?_ | refine wp_asS ?_ | refine wp_asP ?_ | refine wp_nN ?_ | refine wp_rN ?_ | refine wp_xN ?_ | refine wp_nB ?_ | refine wp_rB ?_ | refine wp_xB rfl ?_ | refine wp_xB' rfl ?_ | refine wp_bB ?_ | refine wp_rX ?_ | refine wp_xX ?_ | refine wp_rE ?_ | refine wp_xE ?_ | refine wp_rR ?_ | refine wp_xR ?_ | refine wp_r0 ?_ | refine wp_x0 ?_ | refine wp_rF ?_ | refine wp_rF0 ?_ | refine wp_rF2 ?_ | refine wp_rF3 ?_ | refine wp_rF4 ?_ | refine wp_condT ?_ | refine wp_condF ?_ | refine wp_condNT ?_ | refine wp_condNF ?_)
    exact h
theorem putN_getW {cs vs : List HV} {o i : Nat} (h : o + vs.length ≤ cs.length) : (putN cs o vs)[i]? = if o ≤ i ∧ i < o + vs.length then vs[i - o]? else cs[i]? := by
  unfold putN
  rw [List.append_assoc]
  by_cases h1 : i < o
  · rw [List.getElem?_append_left (by simp; omega), if_neg (by omega), List.getElem?_take, if_pos h1]
  · rw [List.getElem?_append_right (by simp; omega)]
    simp only [List.length_take, Nat.min_eq_left (show o ≤ cs.length by omega)]
    by_cases h2 : i < o + vs.length
    · rw [List.getElem?_append_left (by omega), if_pos (by omega)]
    · rw [List.getElem?_append_right (by omega), if_neg (by omega), List.getElem?_drop]
      congr 1; omega
theorem putN_lenW {cs vs : List HV} {o : Nat} (h : o + vs.length ≤ cs.length) : (putN cs o vs).length = cs.length := by
  simp [putN]; omega
theorem wp_gxNm {α : Type} {Q : α → Heap → Prop} {H : Heap} {cs : List HV} {o m : Nat} {f : List HV → M α} (hm : o + m ≤ cs.length) (h : wp (f ((cs.drop o).take m)) Q H) : wp (gxN cs o m f) Q H := by
  unfold gxN
  exact wp_gd (by simpa using hm) h
/-- a sheet in memory: its files. -/
structure Shee (H : Heap) (b : Nat) (fs : Nat → Fil) : Prop where
  lt : b < H.n
  mem : ∃ cs, H.get b = .cells cs false ∧ cs.length = 30 ∧ ∀ i, i < 6 → cs[12 + i * 2]? = some (.bool (fs i).1) ∧ cs[12 + i * 2 + 1]? = some (.str (fs i).2)
theorem Shee.keeps {H H' : Heap} {b : Nat} {fs : Nat → Fil} (h : Shee H b fs) (k : Keeps H H') : Shee H' b fs := by
  obtain ⟨h1, cs, h2, h3⟩ := h
  exact ⟨Nat.lt_of_lt_of_le h1 k.n, cs, by rw [k.get b h1]; exact h2, h3⟩
def updF (fs : Nat → Fil) (i : Nat) (f : Fil) : Nat → Fil := fun j => if j = i then f else fs j
theorem drop_take_succ' {α : Type} {l : List α} {o m : Nat} (h : o < l.length) : (l.drop o).take (m + 1) = l[o] :: (l.drop (o + 1)).take m := by rw [List.drop_eq_getElem_cons h, List.take_succ_cons]
section
variable {α : Type} {Q : α → Heap → Prop} {H : Heap}
theorem two_of {cs : List HV} {o : Nat} {x y : HV} (h1 : cs[o]? = some x) (h2 : cs[o + 1]? = some y) : (cs.drop o).take 2 = [x, y] ∧ o + 2 ≤ cs.length := by
  obtain ⟨a1, a2⟩ := List.getElem?_eq_some_iff.1 h1
  obtain ⟨b1, b2⟩ := List.getElem?_eq_some_iff.1 h2
  rw [drop_take_succ' a1, drop_take_succ' b1, List.take_zero, a2, b2]
  exact ⟨rfl, by omega⟩
theorem wp_file {b : Nat} {fs : Nat → Fil} (h : Shee H b fs) {i : Nat} (hi : i < 6) {g : List HV → M α} (hg : wp (g [.bool (fs i).1, .str (fs i).2]) Q H) : wp (ldN b (0 + 12 + (i : Int).toNat * 2) 2 g) Q H := by
  obtain ⟨_, cs, h2, h3, h4⟩ := h
  obtain ⟨q1, q2⟩ := h4 i hi
  obtain ⟨r1, r2⟩ := two_of q1 q2
  rw [show 0 + 12 + (i : Int).toNat * 2 = 12 + i * 2 by omega]
  refine wp_ldNo h2 (by omega) ?_
  rw [r1]; exact hg
end
theorem ref14_put_wp {D : HV → List HV → M HV} {H : Heap} {Q : HV → Heap → Prop} {b i : Nat} {fs : Nat → Fil} {f : Fil} (hs : Shee H b fs) (hi : i < 6) (h : ∀ H', But (fun x => x = b) H H' → Shee H' b (updF fs i f) → Q (.tup []) H') :
    wp (f_ref14_Sheet_put D [.ptr (some (b, 0)), I i, .agg [.bool f.1, .str f.2]]) Q H := by
  unfold f_ref14_Sheet_put
  with_reducible repeat' (first | refine wp_finF ?_ | refine wp_uA ?_ | refine wp_uI ?_ | refine wp_uB ?_ | refine wp_uL ?_ | refine wp_uS ?_ | refine wp_uP ?_ | refine wp_uc ?_ | refine wp_nl ?_ | refine wp_asB ?_ | refine wp_asI ?_ | refine wp_asSl ?_ | refine wp_asT ?_ | refine wp_asA ?_ | refine wp_asS ?_ | refine wp_asP ?_ | refine wp_nN ?_ | refine wp_rN ?_ | refine wp_xN ?_ | refine wp_nB ?_ | refine wp_rB ?_ | refine wp_xB rfl ?_ | refine wp_xB' rfl ?_ | refine wp_bB ?_ | refine wp_rX ?_ | refine wp_xX ?_ | refine wp_rE ?_ | refine wp_xE ?_ | refine wp_rR ?_ | refine wp_xR ?_ | refine wp_r0 ?_ | refine wp_x0 ?_ | refine wp_rF ?_ | refine wp_rF0 ?_ | refine wp_rF2 ?_ | refine wp_rF3 ?_ | refine wp_rF4 ?_ | refine wp_condT ?_ | refine wp_condF ?_ | refine wp_condNT ?_ | refine wp_condNF ?_)
  show wp (mP (some (b, 0)) _) _ _
  rw [mP_eq']
  refine wp_gdD (by omega) (wp_gdD (by omega) (wp_file hs hi ?_))
  with_reducible repeat' (first | refine wp_finF ?_ | refine wp_uA ?_ | refine wp_uI ?_ | refine wp_uB ?_ | refine wp_uL ?_ | refine wp_uS ?_ | refine wp_uP ?_ | refine wp_uc ?_ | refine wp_nl ?_ | refine wp_asB ?_ | refine wp_asI ?_ | refine wp_asSl ?_ | refine wp_asT ?_ | refine wp_asA ?_ | refine wp_asS ?_ | refine wp_asP ?_ | refine wp_nN ?_ | refine wp_rN ?_ | refine wp_xN ?_ | refine wp_nB ?_ | refine wp_rB ?_ | refine wp_xB rfl ?_ | refine wp_xB' rfl ?_ | refine wp_bB ?_ | refine wp_rX ?_ | refine wp_xX ?_ | refine wp_rE ?_ | refine wp_xE ?_ | refine wp_rR ?_ | refine wp_xR ?_ | refine wp_r0 ?_ | refine wp_x0 ?_ | refine wp_rF ?_ | refine wp_rF0 ?_ | refine wp_rF2 ?_ | refine wp_rF3 ?_ | refine wp_rF4 ?_ | refine wp_condT ?_ | refine wp_condF ?_ | refine wp_condNT ?_ | refine wp_condNF ?_)
  obtain ⟨hlt, cs, h2, h3, h4⟩ := hs
  refine wp_cond (fun c => ?_) (fun c => ?_)
  · show wp (mP (some (b, 0)) _) _ _
    rw [mP_eq']
    refine wp_gdD (by omega) (wp_gdD (by omega) ?_)
    rw [show 0 + 12 + (i : Int).toNat * 2 = 12 + i * 2 by omega]
    refine wp_stNo h2 (by simp; omega) ?_
    have hput : 12 + i * 2 + ([.bool f.1, .str f.2] : List HV).length ≤ cs.length := by simp; omega
    have hl : (putN cs (12 + i * 2) [.bool f.1, .str f.2]).length = 30 := by rw [putN_lenW hput]; exact h3
    show wp (mP (some (b, 0)) _) _ _
    rw [mP_eq']
    refine wp_gdD (by omega) (wp_gdD (by omega) ?_)
    refine wp_stC (cs := putN cs (12 + i * 2) [.bool f.1, .str f.2]) (by simp [Heap.set]) (by rw [hl]; omega) rfl (wp_rF0 ?_)
    refine h _ (((But.refl (fun x => x = b) H).set (b := b) rfl _).set (b := b) rfl _) ⟨hlt, (putN cs (12 + i * 2) [.bool f.1, .str f.2]).set (0 + 24 + (i : Int).toNat * 1) (.bool true), by simp [Heap.set], by rw [List.length_set]; exact hl, fun j hj => ?_⟩
    rw [List.getElem?_set_ne (by omega), List.getElem?_set_ne (by omega), putN_getW hput, putN_getW hput]
    simp only [List.length_cons, List.length_nil, updF]
    by_cases e : j = i
    · subst e
      rw [if_pos rfl, if_pos (by omega), if_pos (by omega), show 12 + j * 2 - (12 + j * 2) = 0 by omega, show 12 + j * 2 + 1 - (12 + j * 2) = 1 by omega]
      exact ⟨rfl, rfl⟩
    · rw [if_neg e, if_neg (by omega), if_neg (by omega)]
      exact h4 j hj
  · refine wp_rF0 (h _ (But.refl _ H) ⟨hlt, cs, h2, h3, fun j hj => ?_⟩)
    unfold updF
    by_cases e : j = i
    · subst e
      rw [if_pos rfl]
      have c1 : (fs j).1 = f.1 ∧ (fs j).2.toList = f.2.toList := by
        cases h1 : (fs j).1 == f.1 <;> cases h2 : (fs j).2.toList == f.2.toList <;> simp [h1, h2] at c
        exact ⟨by simpa using h1, by simpa using h2⟩
      have c2 : (fs j).2 = f.2 := by
        have := c1.2
        rw [ByteArray.toList_eq, ByteArray.toList_eq] at this
        have e2 : (fs j).2.data = f.2.data := Array.ext' this
        cases hh : (fs j).2; cases hh2 : f.2
        rw [hh, hh2] at e2
        cases e2; rfl
      rw [← c1.1, ← c2]
      exact h4 j hj
    · rw [if_neg e]; exact h4 j hj
end Go.Proofs.Ytijppadieomnjaa.HM
namespace Go.Proofs.Ytijppadieomnjaa.HM
open Go

/-- all files are short. -/
def Short (fs : Nat → Fil) (n : Nat) : Prop := ∀ i, i < 6 → (fs i).2.size ≤ n
theorem ref14_Write_wp {D : HV → List HV → M HV} {H : Heap} {Q : HV → Heap → Prop} {b i : Nat} {fs : Nat → Fil} {a x : Int} (hs : Shee H b fs) (hi : i < 6) (hn : Short fs 1000) (h : ∀ H', But (fun x => x = b) H H' → Shee H' b (updF fs i (putF (fs i) a x)) → Q (.bool true) H') :
    wp (f_ref14_Sheet_Write D [.ptr (some (b, 0)), I i, I a, .int .u8 x]) Q H := by
  unfold f_ref14_Sheet_Write
  with_reducible repeat' (first | refine wp_finF ?_ | refine wp_uA ?_ | refine wp_uI ?_ | refine wp_uB ?_ | refine wp_uL ?_ | refine wp_uS ?_ | refine wp_uP ?_ | refine wp_uc ?_ | refine wp_nl ?_ | refine wp_asB ?_ | refine wp_asI ?_ | refine wp_asSl ?_ | refine wp_asT ?_ | refine wp_asA ?_ | refine wp_asS ?_ | refine wp_asP ?_ | refine wp_nN ?_ | refine wp_rN ?_ | refine wp_xN ?_ | refine wp_nB ?_ | refine wp_rB ?_ | refine wp_xB rfl ?_ | refine wp_xB' rfl ?_ | refine wp_bB ?_ | refine wp_rX ?_ | refine wp_xX ?_ | refine wp_rE ?_ | refine wp_xE ?_ | refine wp_rR ?_ | refine wp_xR ?_ | refine wp_r0 ?_ | refine wp_x0 ?_ | refine wp_rF ?_ | refine wp_rF0 ?_ | refine wp_rF2 ?_ | refine wp_rF3 ?_ | refine wp_rF4 ?_ | refine wp_condT ?_ | refine wp_condF ?_ | refine wp_condNT ?_ | refine wp_condNF ?_)
  refine wp_bnd (ref14_Is_wp (by omega) (wp_asB (wp_jn (wp_condT ?_))))
  show wp (mP (some (b, 0)) _) _ _
  rw [mP_eq']
  refine wp_gdD (by omega) (wp_gdD (by omega) (wp_file hs hi ?_))
  with_reducible repeat' (first | refine wp_finF ?_ | refine wp_uA ?_ | refine wp_uI ?_ | refine wp_uB ?_ | refine wp_uL ?_ | refine wp_uS ?_ | refine wp_uP ?_ | refine wp_uc ?_ | refine wp_nl ?_ | refine wp_asB ?_ | refine wp_asI ?_ | refine wp_asSl ?_ | refine wp_asT ?_ | refine wp_asA ?_ | refine wp_asS ?_ | refine wp_asP ?_ | refine wp_nN ?_ | refine wp_rN ?_ | refine wp_xN ?_ | refine wp_nB ?_ | refine wp_rB ?_ | refine wp_xB rfl ?_ | refine wp_xB' rfl ?_ | refine wp_bB ?_ | refine wp_rX ?_ | refine wp_xX ?_ | refine wp_rE ?_ | refine wp_xE ?_ | refine wp_rR ?_ | refine wp_xR ?_ | refine wp_r0 ?_ | refine wp_x0 ?_ | refine wp_rF ?_ | refine wp_rF0 ?_ | refine wp_rF2 ?_ | refine wp_rF3 ?_ | refine wp_rF4 ?_ | refine wp_condT ?_ | refine wp_condF ?_ | refine wp_condNT ?_ | refine wp_condNF ?_)
  refine wp_bnd (ref09_Put_wp (f := fs i) (hn i hi) (wp_asA (wp_uB (wp_uS (wp_nl ?_)))))
  refine wp_bnd (ref14_put_wp (f := putF (fs i) a x) hs hi fun H1 hb1 hs1 => wp_asT (wp_nl (wp_ret ?_)))
  show wp _ _ _
  exact wp_nl (wp_bnd (ref14_Is_wp (by omega) (wp_asB (wp_rF (h H1 hb1 hs1)))))
theorem ref14_SCut_wp {D : HV → List HV → M HV} {H : Heap} {Q : HV → Heap → Prop} {b i : Nat} {fs : Nat → Fil} {a : Int} (hs : Shee H b fs) (hi : i < 6) (hn : Short fs 1000) (h : ∀ H', But (fun x => x = b) H H' → Shee H' b (updF fs i (cutF (fs i) a)) → Q (.bool true) H') :
    wp (f_ref14_Sheet_Cut D [.ptr (some (b, 0)), I i, I a]) Q H := by
  unfold f_ref14_Sheet_Cut
  with_reducible repeat' (first | refine wp_finF ?_ | refine wp_uA ?_ | refine wp_uI ?_ | refine wp_uB ?_ | refine wp_uL ?_ | refine wp_uS ?_ | refine wp_uP ?_ | refine wp_uc ?_ | refine wp_nl ?_ | refine wp_asB ?_ | refine wp_asI ?_ | refine wp_asSl ?_ | refine wp_asT ?_ | refine wp_asA ?_ | refine wp_asS ?_ | refine wp_asP ?_ | refine wp_nN ?_ | refine wp_rN ?_ | refine wp_xN ?_ | refine wp_nB ?_ | refine wp_rB ?_ | refine wp_xB rfl ?_ | refine wp_xB' rfl ?_ | refine wp_bB ?_ | refine wp_rX ?_ | refine wp_xX ?_ | refine wp_rE ?_ | refine wp_xE ?_ | refine wp_rR ?_ | refine wp_xR ?_ | refine wp_r0 ?_ | refine wp_x0 ?_ | refine wp_rF ?_ | refine wp_rF0 ?_ | refine wp_rF2 ?_ | refine wp_rF3 ?_ | refine wp_rF4 ?_ | refine wp_condT ?_ | refine wp_condF ?_ | refine wp_condNT ?_ | refine wp_condNF ?_)
  refine wp_bnd (ref14_Is_wp (by omega) (wp_asB (wp_jn (wp_condT ?_))))
  show wp (mP (some (b, 0)) _) _ _
  rw [mP_eq']
  refine wp_gdD (by omega) (wp_gdD (by omega) (wp_file hs hi ?_))
  with_reducible repeat' (first | refine wp_finF ?_ | refine wp_uA ?_ | refine wp_uI ?_ | refine wp_uB ?_ | refine wp_uL ?_ | refine wp_uS ?_ | refine wp_uP ?_ | refine wp_uc ?_ | refine wp_nl ?_ | refine wp_asB ?_ | refine wp_asI ?_ | refine wp_asSl ?_ | refine wp_asT ?_ | refine wp_asA ?_ | refine wp_asS ?_ | refine wp_asP ?_ | refine wp_nN ?_ | refine wp_rN ?_ | refine wp_xN ?_ | refine wp_nB ?_ | refine wp_rB ?_ | refine wp_xB rfl ?_ | refine wp_xB' rfl ?_ | refine wp_bB ?_ | refine wp_rX ?_ | refine wp_xX ?_ | refine wp_rE ?_ | refine wp_xE ?_ | refine wp_rR ?_ | refine wp_xR ?_ | refine wp_r0 ?_ | refine wp_x0 ?_ | refine wp_rF ?_ | refine wp_rF0 ?_ | refine wp_rF2 ?_ | refine wp_rF3 ?_ | refine wp_rF4 ?_ | refine wp_condT ?_ | refine wp_condF ?_ | refine wp_condNT ?_ | refine wp_condNF ?_)
  refine wp_bnd (ref09_Cut_wp (f := fs i) (hn i hi) (wp_asA (wp_uB (wp_uS (wp_nl ?_)))))
  refine wp_bnd (ref14_put_wp (f := cutF (fs i) a) hs hi fun H1 hb1 hs1 => wp_asT (wp_nl (wp_ret ?_)))
  show wp _ _ _
  exact wp_nl (wp_bnd (ref14_Is_wp (by omega) (wp_asB (wp_rF (h H1 hb1 hs1)))))
theorem wp_file' {α : Type} {Q : α → Heap → Prop} {H : Heap} {b : Nat} {fs : Nat → Fil} (h : Shee H b fs) {o i : Nat} (hi : i < 6) (ho : o = 12 + i * 2) {g : List HV → M α} (hg : wp (g [.bool (fs i).1, .str (fs i).2]) Q H) : wp (ldN b o 2 g) Q H := by
  have := wp_file h hi hg
  rw [show 0 + 12 + (i : Int).toNat * 2 = o by omega] at this
  exact this
theorem wp_fileS {α : Type} {Q : α → Heap → Prop} {H : Heap} {b : Nat} {fs : Nat → Fil} (h : Shee H b fs) {i : Nat} (hi : i < 6) {g : HV → M α} (hg : wp (g (.str (fs i).2)) Q H) : wp (ldC b (0 + 12 + (i : Int).toNat * 2 + 1) g) Q H := by
  obtain ⟨_, cs, h2, h3, h4⟩ := h
  rw [show 0 + 12 + (i : Int).toNat * 2 + 1 = 12 + i * 2 + 1 by omega]
  exact wp_ldCg h2 (h4 i hi).2 hg
theorem wp_fileB {α : Type} {Q : α → Heap → Prop} {H : Heap} {b : Nat} {fs : Nat → Fil} (h : Shee H b fs) {i : Nat} (hi : i < 6) {g : HV → M α} (hg : wp (g (.bool (fs i).1)) Q H) : wp (ldC b (0 + 12 + (i : Int).toNat * 2) g) Q H := by
  obtain ⟨_, cs, h2, h3, h4⟩ := h
  rw [show 0 + 12 + (i : Int).toNat * 2 = 12 + i * 2 by omega]
  exact wp_ldCg h2 (h4 i hi).1 hg
theorem ref14_Create_wp {D : HV → List HV → M HV} {H : Heap} {Q : HV → Heap → Prop} {b i : Nat} {fs : Nat → Fil} (hs : Shee H b fs) (hi : i < 6) (h : ∀ H', But (fun x => x = b) H H' → Shee H' b (updF fs i (true, (fs i).2)) → Q (.bool true) H') :
    wp (f_ref14_Sheet_Create D [.ptr (some (b, 0)), I i]) Q H := by
  unfold f_ref14_Sheet_Create
  with_reducible repeat' (first | refine wp_finF ?_ | refine wp_uA ?_ | refine wp_uI ?_ | refine wp_uB ?_ | refine wp_uL ?_ | refine wp_uS ?_ | refine wp_uP ?_ | refine wp_uc ?_ | refine wp_nl ?_ | refine wp_asB ?_ | refine wp_asI ?_ | refine wp_asSl ?_ | refine wp_asT ?_ | refine wp_asA ?_ | refine wp_asS ?_ | refine wp_asP ?_ | refine wp_nN ?_ | refine wp_rN ?_ | refine wp_xN ?_ | refine wp_nB ?_ | refine wp_rB ?_ | refine wp_xB rfl ?_ | refine wp_xB' rfl ?_ | refine wp_bB ?_ | refine wp_rX ?_ | refine wp_xX ?_ | refine wp_rE ?_ | refine wp_xE ?_ | refine wp_rR ?_ | refine wp_xR ?_ | refine wp_r0 ?_ | refine wp_x0 ?_ | refine wp_rF ?_ | refine wp_rF0 ?_ | refine wp_rF2 ?_ | refine wp_rF3 ?_ | refine wp_rF4 ?_ | refine wp_condT ?_ | refine wp_condF ?_ | refine wp_condNT ?_ | refine wp_condNF ?_)
  refine wp_bnd (ref14_Is_wp (by omega) (wp_asB (wp_jn (wp_condT ?_))))
  show wp (mP (some (b, 0)) _) _ _
  rw [mP_eq']
  refine wp_gdD (by omega) (wp_gdD (by omega) (wp_fileS hs hi (wp_asS ?_)))
  refine wp_bnd (ref14_put_wp (f := (true, (fs i).2)) hs hi fun H1 hb1 hs1 => wp_asT (wp_nl (wp_ret ?_)))
  show wp _ _ _
  exact wp_nl (wp_bnd (ref14_Is_wp (by omega) (wp_asB (wp_rF (h H1 hb1 hs1)))))
abbrev noFile : Fil := (false, ByteArray.mk #[])
theorem ref14_Remove_wp {D : HV → List HV → M HV} {H : Heap} {Q : HV → Heap → Prop} {b i : Nat} {fs : Nat → Fil} (hs : Shee H b fs) (hi : i < 6) (h : ∀ H', But (fun x => x = b) H H' → Shee H' b (updF fs i noFile) → Q (.bool true) H') :
    wp (f_ref14_Sheet_Remove D [.ptr (some (b, 0)), I i]) Q H := by
  unfold f_ref14_Sheet_Remove
  with_reducible repeat' (first | refine wp_finF ?_ | refine wp_uA ?_ | refine wp_uI ?_ | refine wp_uB ?_ | refine wp_uL ?_ | refine wp_uS ?_ | refine wp_uP ?_ | refine wp_uc ?_ | refine wp_nl ?_ | refine wp_asB ?_ | refine wp_asI ?_ | refine wp_asSl ?_ | refine wp_asT ?_ | refine wp_asA ?_ | refine wp_asS ?_ | refine wp_asP ?_ | refine wp_nN ?_ | refine wp_rN ?_ | refine wp_xN ?_ | refine wp_nB ?_ | refine wp_rB ?_ | refine wp_xB rfl ?_ | refine wp_xB' rfl ?_ | refine wp_bB ?_ | refine wp_rX ?_ | refine wp_xX ?_ | refine wp_rE ?_ | refine wp_xE ?_ | refine wp_rR ?_ | refine wp_xR ?_ | refine wp_r0 ?_ | refine wp_x0 ?_ | refine wp_rF ?_ | refine wp_rF0 ?_ | refine wp_rF2 ?_ | refine wp_rF3 ?_ | refine wp_rF4 ?_ | refine wp_condT ?_ | refine wp_condF ?_ | refine wp_condNT ?_ | refine wp_condNF ?_)
  refine wp_bnd (ref14_Is_wp (by omega) (wp_asB (wp_jn (wp_condT ?_))))
  refine wp_bnd (ref14_put_wp (f := noFile) hs hi fun H1 hb1 hs1 => wp_asT (wp_nl (wp_ret ?_)))
  show wp _ _ _
  exact wp_nl (wp_bnd (ref14_Is_wp (by omega) (wp_asB (wp_rF (h H1 hb1 hs1)))))
def renF (fs : Nat → Fil) (i j : Nat) : Nat → Fil := if (fs i).1 = true ∧ i ≠ j then updF (updF fs j (fs i)) i noFile else fs
theorem ref14_Rename_wp {D : HV → List HV → M HV} {H : Heap} {Q : HV → Heap → Prop} {b i j : Nat} {fs : Nat → Fil} (hs : Shee H b fs) (hi : i < 6) (hj : j < 6) (h : ∀ H', But (fun x => x = b) H H' → Shee H' b (renF fs i j) → Q (.bool true) H') :
    wp (f_ref14_Sheet_Rename D [.ptr (some (b, 0)), I i, I j]) Q H := by
  unfold f_ref14_Sheet_Rename
  with_reducible repeat' (first | refine wp_finF ?_ | refine wp_uA ?_ | refine wp_uI ?_ | refine wp_uB ?_ | refine wp_uL ?_ | refine wp_uS ?_ | refine wp_uP ?_ | refine wp_uc ?_ | refine wp_nl ?_ | refine wp_asB ?_ | refine wp_asI ?_ | refine wp_asSl ?_ | refine wp_asT ?_ | refine wp_asA ?_ | refine wp_asS ?_ | refine wp_asP ?_ | refine wp_nN ?_ | refine wp_rN ?_ | refine wp_xN ?_ | refine wp_nB ?_ | refine wp_rB ?_ | refine wp_xB rfl ?_ | refine wp_xB' rfl ?_ | refine wp_bB ?_ | refine wp_rX ?_ | refine wp_xX ?_ | refine wp_rE ?_ | refine wp_xE ?_ | refine wp_rR ?_ | refine wp_xR ?_ | refine wp_r0 ?_ | refine wp_x0 ?_ | refine wp_rF ?_ | refine wp_rF0 ?_ | refine wp_rF2 ?_ | refine wp_rF3 ?_ | refine wp_rF4 ?_ | refine wp_condT ?_ | refine wp_condF ?_ | refine wp_condNT ?_ | refine wp_condNF ?_)
  refine wp_jnP False ?_ (fun c => c.elim) (fun _ => ?_)
  · refine wp_bnd (ref14_Is_wp (by omega) (wp_asB (wp_condNT ?_)))
    exact wp_bnd (ref14_Is_wp (by omega) (wp_asB (wp_bB (by simp))))
  refine wp_uB (wp_nl (wp_condF ?_))
  refine wp_jnP ((fs i).1 = true ∧ i ≠ j) ?_ (fun c => ?_) (fun c => ?_)
  · show wp (mP (some (b, 0)) _) _ _
    rw [mP_eq']
    refine wp_gdD (by omega) (wp_gdD (by omega) (wp_fileB hs hi (wp_asB ?_)))
    refine wp_cond (fun c => wp_bB ?_) (fun c => wp_bB ?_)
    · simp [c]; omega
    · simp [c]
  · unfold renF at h
    rw [if_pos c] at h
    refine wp_uB (wp_nl (wp_jn (wp_condT ?_)))
    show wp (mP (some (b, 0)) _) _ _
    rw [mP_eq']
    refine wp_gdD (by omega) (wp_gdD (by omega) (wp_file hs hi ?_))
    with_reducible repeat' (first | refine wp_finF ?_ | refine wp_uA ?_ | refine wp_uI ?_ | refine wp_uB ?_ | refine wp_uL ?_ | refine wp_uS ?_ | refine wp_uP ?_ | refine wp_uc ?_ | refine wp_nl ?_ | refine wp_asB ?_ | refine wp_asI ?_ | refine wp_asSl ?_ | refine wp_asT ?_ | refine wp_asA ?_ | refine wp_asS ?_ | refine wp_asP ?_ | refine wp_nN ?_ | refine wp_rN ?_ | refine wp_xN ?_ | refine wp_nB ?_ | refine wp_rB ?_ | refine wp_xB rfl ?_ | refine wp_xB' rfl ?_ | refine wp_bB ?_ | refine wp_rX ?_ | refine wp_xX ?_ | refine wp_rE ?_ | refine wp_xE ?_ | refine wp_rR ?_ | refine wp_xR ?_ | refine wp_r0 ?_ | refine wp_x0 ?_ | refine wp_rF ?_ | refine wp_rF0 ?_ | refine wp_rF2 ?_ | refine wp_rF3 ?_ | refine wp_rF4 ?_ | refine wp_condT ?_ | refine wp_condF ?_ | refine wp_condNT ?_ | refine wp_condNF ?_)
    refine wp_bnd (ref14_put_wp (f := fs i) hs hj fun H1 hb1 hs1 => wp_asT (wp_nl ?_))
    refine wp_bnd (ref14_put_wp (f := noFile) hs1 hi fun H2 hb2 hs2 => wp_asT (wp_nl (wp_ret ?_)))
    show wp _ _ _
    exact wp_nl (wp_rF (h H2 (hb1.trans hb2) hs2))
  · unfold renF at h
    rw [if_neg c] at h
    refine wp_uB (wp_nl (wp_jn (wp_condF (wp_ret ?_))))
    show wp _ _ _
    exact wp_nl (wp_rF (h H (But.refl _ H) hs))

/-- cells, files, places. -/
structure Th where
  c : Nat → Int
  f : Nat → Fil
  p : Nat → Int
structure ThL (y : List HV) (t : Th) : Prop where
  len : y.length = 23
  c : ∀ i, i < 8 → y[i]? = some (I (t.c i))
  f : ∀ i, i < 6 → y[8 + i * 2]? = some (.bool (t.f i).1) ∧ y[8 + i * 2 + 1]? = some (.str (t.f i).2)
  p : ∀ i, i < 3 → y[20 + i]? = some (I (t.p i))
def updI (c : Nat → Int) (i : Nat) (v : Int) : Nat → Int := fun j => if j = i then v else c j
theorem ThL.setC {y : List HV} {t : Th} (h : ThL y t) {i : Nat} (hi : i < 8) (v : Int) : ThL (y.set i (I v)) { t with c := updI t.c i v } := by
  have hl := h.len
  refine ⟨by rw [List.length_set]; exact hl, fun j hj => ?_, fun j hj => ?_, fun j hj => ?_⟩
  · simp only [updI]
    by_cases e : j = i
    · subst e; rw [List.getElem?_set_self (by omega), if_pos rfl]
    · rw [List.getElem?_set_ne (Ne.symm e), if_neg e]; exact h.c j hj
  · rw [List.getElem?_set_ne (by omega), List.getElem?_set_ne (by omega)]; exact h.f j hj
  · rw [List.getElem?_set_ne (by omega)]; exact h.p j hj
theorem ThL.setP {y : List HV} {t : Th} (h : ThL y t) {i : Nat} (hi : i < 3) (v : Int) : ThL (y.set (20 + i) (I v)) { t with p := updI t.p i v } := by
  have hl := h.len
  refine ⟨by rw [List.length_set]; exact hl, fun j hj => ?_, fun j hj => ?_, fun j hj => ?_⟩
  · rw [List.getElem?_set_ne (by omega)]; exact h.c j hj
  · rw [List.getElem?_set_ne (by omega), List.getElem?_set_ne (by omega)]; exact h.f j hj
  · simp only [updI]
    by_cases e : j = i
    · subst e; rw [List.getElem?_set_self (by omega), if_pos rfl]
    · rw [List.getElem?_set_ne (by omega), if_neg e]; exact h.p j hj
theorem ThL.files {y z : List HV} {t : Th} {fs : Nat → Fil} (h : ThL y t) (hz : z.length = 12) (hf : ∀ i, i < 6 → z[i * 2]? = some (.bool (fs i).1) ∧ z[i * 2 + 1]? = some (.str (fs i).2)) : ThL (putN y 8 z) { t with f := fs } := by
  have hl := h.len
  have hput : 8 + z.length ≤ y.length := by omega
  refine ⟨by rw [putN_lenW hput]; exact hl, fun j hj => ?_, fun j hj => ?_, fun j hj => ?_⟩
  · rw [putN_getW hput, if_neg (by omega)]; exact h.c j hj
  · rw [putN_getW hput, putN_getW hput, if_pos (by omega), if_pos (by omega), show 8 + j * 2 - 8 = j * 2 by omega, show 8 + j * 2 + 1 - 8 = j * 2 + 1 by omega]
    exact hf j hj
  · rw [putN_getW hput, if_neg (by omega)]; exact h.p j hj
/-- the lists of the same things are one. -/
theorem ThL.only {y y' : List HV} {t : Th} (h : ThL y t) (h' : ThL y' t) : y = y' := by
  refine List.ext_getElem? fun i => ?_
  by_cases h23 : i < 23
  · by_cases h8 : i < 8
    · rw [h.c i h8, h'.c i h8]
    · by_cases h20 : i < 20
      · by_cases he : i % 2 = 0
        · have e : i = 8 + ((i - 8) / 2) * 2 := by omega
          rw [e, (h.f _ (by omega)).1, (h'.f _ (by omega)).1]
        · have e : i = 8 + ((i - 8) / 2) * 2 + 1 := by omega
          rw [e, (h.f _ (by omega)).2, (h'.f _ (by omega)).2]
      · have e : i = 20 + (i - 20) := by omega
        rw [e, h.p _ (by omega), h'.p _ (by omega)]
  · rw [List.getElem?_eq_none (by have := h.len; omega), List.getElem?_eq_none (by have := h'.len; omega)]
/-- a deed. -/
structure De where
  k : Int
  a : Int
  b : Int
  c : Int
abbrev De.cs (d : De) : List HV := [I d.k, I d.a, I d.b, .int .u8 d.c]
/-- what it names is there. -/
structure De.ok (d : De) : Prop where
  k : 0 ≤ d.k ∧ d.k ≤ 8
  c : d.k ≤ 1 → 0 ≤ d.a ∧ d.a < 8
  f : 2 ≤ d.k ∧ d.k ≤ 7 → 0 ≤ d.a ∧ d.a < 6
  r : d.k = 6 → 0 ≤ d.b ∧ d.b < 6
  s : d.k = 8 → 0 ≤ d.a ∧ d.a < 3
def doF (t : Th) (tx : Nat → ByteArray) (d : De) : Int × Th :=
  let i := d.a.toNat
  if d.k = 0 then (t.c i, t)
  else if d.k = 1 then (0, { t with c := updI t.c i d.b })
  else if d.k = 2 then (atF (t.f i).2 d.b, t)
  else if d.k = 3 then (0, { t with f := updF t.f i (putF (t.f i) d.b d.c) })
  else if d.k = 4 then (0, { t with f := updF t.f i (true, (t.f i).2) })
  else if d.k = 5 then (0, { t with f := updF t.f i noFile })
  else if d.k = 6 then (0, { t with f := renF t.f i d.b.toNat })
  else if d.k = 7 then (0, { t with f := updF t.f i (cutF (t.f i) d.b) })
  else if t.p i < ((tx i).size : Int) then ((((tx i).data[(t.p i).toNat]?.getD 0).toNat : Int), { t with p := updI t.p i (wr (t.p i + 1)) })
  else (-1, t)
theorem ThL.slice {y : List HV} {t : Th} (h : ThL y t) : ((y.drop 8).take 12).length = 12 ∧ ∀ i, i < 6 → ((y.drop 8).take 12)[i * 2]? = some (.bool (t.f i).1) ∧ ((y.drop 8).take 12)[i * 2 + 1]? = some (.str (t.f i).2) := by
  have hl := h.len
  refine ⟨by simp; omega, fun i hi => ?_⟩
  rw [List.getElem?_take, if_pos (by omega), List.getElem?_drop, List.getElem?_take, if_pos (by omega), List.getElem?_drop, show 8 + (i * 2 + 1) = 8 + i * 2 + 1 by omega]
  exact h.f i hi
theorem ref20_Do_wp {D : HV → List HV → M HV} {H : Heap} {Q : HV → Heap → Prop} {y : List HV} {t : Th} {tx : Nat → ByteArray} {s : Sl} {d : De} (hy : ThL y t) (hsl : Rows De.cs 4 H s [d]) (hd : d.ok) (hn : Short t.f 1000) (hp : ∀ i, i < 3 → 0 ≤ t.p i) (htx : ∀ i, i < 3 → (tx i).size ≤ 1000)
    (h : ∀ H' y', Keeps H H' → ThL y' (doF t tx d).2 → Q (.tup [I (doF t tx d).1, .agg y']) H') : wp (f_ref20_Do D [.agg y, .agg [.str (tx 0), .str (tx 1), .str (tx 2)], .sl s]) Q H := by
  unfold f_ref20_Do
  have hyl := hy.len
  have hlen := hsl.lenI
  with_reducible repeat' (first | refine wp_finF ?_ | refine wp_uA ?_ | refine wp_uI ?_ | refine wp_uB ?_ | refine wp_uL ?_ | refine wp_uS ?_ | refine wp_uP ?_ | refine wp_uc ?_ | refine wp_nl ?_ | refine wp_asB ?_ | refine wp_asI ?_ | refine wp_asSl ?_ | refine wp_asT ?_ | refine wp_asA ?_ | refine wp_asS ?_ | refine wp_asP ?_ | refine wp_nN ?_ | refine wp_rN ?_ | refine wp_xN ?_ | refine wp_nB ?_ | refine wp_rB ?_ | refine wp_xB rfl ?_ | refine wp_xB' rfl ?_ | refine wp_bB ?_ | refine wp_rX ?_ | refine wp_xX ?_ | refine wp_rE ?_ | refine wp_xE ?_ | refine wp_rR ?_ | refine wp_xR ?_ | refine wp_r0 ?_ | refine wp_x0 ?_ | refine wp_rF ?_ | refine wp_rF0 ?_ | refine wp_rF2 ?_ | refine wp_rF3 ?_ | refine wp_rF4 ?_ | refine wp_condT ?_ | refine wp_condF ?_ | refine wp_condNT ?_ | refine wp_condNF ?_)
  obtain ⟨z1, z2⟩ := hy.slice
  refine wp_gxNm (by omega) (wp_gxNm (by omega) (wp_gd (by rw [z1]; rfl) (wp_gd (by rw [z1]; rfl) (wp_nw ?_))))
  generalize hz : (y.drop 8).take 12 = z at z1 z2
  -- the sheet
  have hk0 := fun cs => Keeps.push H (.cells cs false)
  have hsh : Shee (H.push (.cells (putN (putN [.bool false, .str (ByteArray.mk #[]), .bool false, .str (ByteArray.mk #[]), .bool false, .str (ByteArray.mk #[]), .bool false, .str (ByteArray.mk #[]), .bool false, .str (ByteArray.mk #[]), .bool false, .str (ByteArray.mk #[]), .bool false, .str (ByteArray.mk #[]), .bool false, .str (ByteArray.mk #[]), .bool false, .str (ByteArray.mk #[]), .bool false, .str (ByteArray.mk #[]), .bool false, .str (ByteArray.mk #[]), .bool false, .str (ByteArray.mk #[]), .bool false, .bool false, .bool false, .bool false, .bool false, .bool false] 0 z) 12 z) false)) H.n t.f := by
    refine ⟨by simp [Heap.push], _, if_pos rfl, ?_, fun i hi => ?_⟩
    · rw [putN_lenW (by rw [putN_lenW (by simp; omega)]; simp; omega), putN_lenW (by simp; omega)]; rfl
    · have hput : 12 + z.length ≤ (putN [.bool false, .str (ByteArray.mk #[]), .bool false, .str (ByteArray.mk #[]), .bool false, .str (ByteArray.mk #[]), .bool false, .str (ByteArray.mk #[]), .bool false, .str (ByteArray.mk #[]), .bool false, .str (ByteArray.mk #[]), .bool false, .str (ByteArray.mk #[]), .bool false, .str (ByteArray.mk #[]), .bool false, .str (ByteArray.mk #[]), .bool false, .str (ByteArray.mk #[]), .bool false, .str (ByteArray.mk #[]), .bool false, .str (ByteArray.mk #[]), .bool false, .bool false, .bool false, .bool false, .bool false, .bool false] 0 z).length := by
        rw [putN_lenW (by simp; omega)]; simp; omega
      rw [putN_getW hput, putN_getW hput, if_pos (by omega), if_pos (by omega), show 12 + i * 2 - 12 = i * 2 by omega, show 12 + i * 2 + 1 - 12 = i * 2 + 1 by omega]
      exact z2 i hi
  have hkp : Keeps H (H.push (.cells (putN (putN [.bool false, .str (ByteArray.mk #[]), .bool false, .str (ByteArray.mk #[]), .bool false, .str (ByteArray.mk #[]), .bool false, .str (ByteArray.mk #[]), .bool false, .str (ByteArray.mk #[]), .bool false, .str (ByteArray.mk #[]), .bool false, .str (ByteArray.mk #[]), .bool false, .str (ByteArray.mk #[]), .bool false, .str (ByteArray.mk #[]), .bool false, .str (ByteArray.mk #[]), .bool false, .str (ByteArray.mk #[]), .bool false, .str (ByteArray.mk #[]), .bool false, .bool false, .bool false, .bool false, .bool false, .bool false] 0 z) 12 z) false)) := hk0 _
  generalize H.push (.cells (putN (putN [.bool false, .str (ByteArray.mk #[]), .bool false, .str (ByteArray.mk #[]), .bool false, .str (ByteArray.mk #[]), .bool false, .str (ByteArray.mk #[]), .bool false, .str (ByteArray.mk #[]), .bool false, .str (ByteArray.mk #[]), .bool false, .str (ByteArray.mk #[]), .bool false, .str (ByteArray.mk #[]), .bool false, .str (ByteArray.mk #[]), .bool false, .str (ByteArray.mk #[]), .bool false, .str (ByteArray.mk #[]), .bool false, .str (ByteArray.mk #[]), .bool false, .bool false, .bool false, .bool false, .bool false, .bool false] 0 z) 12 z) false) = H1 at hsh hkp
  clear hk0
  have hsl1 := hsl.keeps hkp
  generalize hB : H.n = B at hsh
  refine wp_blk (wp.mono (Q := fun lf H' => ∃ y' fs, lf = .exit 0 [I (doF t tx d).1, .agg y'] ∧ Keeps H H' ∧ Shee H' B fs ∧ ThL y' { (doF t tx d).2 with f := t.f } ∧ fs = (doF t tx d).2.f) ?_ ?_)
  · refine wp_loop (fun m vs H' => (m = 1 ∧ vs = [I 0, I 0, .agg y] ∧ H' = H1) ∨ (m = 0 ∧ ∃ y' fs, vs = [I (doF t tx d).1, I 1, .agg y'] ∧ Keeps H H' ∧ Shee H' B fs ∧ ThL y' { (doF t tx d).2 with f := t.f } ∧ fs = (doF t tx d).2.f)) 1 (.inl ⟨rfl, rfl, rfl⟩) ?_
    rintro m vs H' (⟨rfl, rfl, rfl⟩ | ⟨rfl, y', fs, rfl, k1, k2, k3, k4⟩)
    · refine wp_uI (wp_uI (wp_uA (wp_nl (wp_condD (fun _ => ?_) (fun c => by rw [hlen] at c; simp at c)))))
      refine wp_blk (wp.mono (Q := fun lf H2 => ∃ y' fs, lf = .norm [I (doF t tx d).1, .agg y'] ∧ Keeps H H2 ∧ Shee H2 B fs ∧ ThL y' { (doF t tx d).2 with f := t.f } ∧ fs = (doF t tx d).2.f) ?_ ?_)
      · obtain ⟨k, a, b, c⟩ := d
        obtain ⟨⟨k0, k8⟩, dc, df, dr, ds⟩ := hd
        simp only at k0 k8 dc df dr ds
        refine wp_at' hsl1 (i := 0) rfl (by simp) fun _ _ => ?_
        show wp (uI .i64 [I k, I a, I b, .int .u8 c] _) _ _
        refine wp_uI (wp_uI (wp_uI (wp_uI (wp_nl ?_))))
        have nat : ∀ {x : Int}, 0 ≤ x → ∃ n : Nat, x = n := fun {x} hx => ⟨x.toNat, by omega⟩
        have keepB : ∀ {H2 : Heap}, But (fun x => x = B) H' H2 → Keeps H H2 := fun {H2} hb => ⟨Nat.le_trans hkp.n hb.n, fun x hx => by rw [hb.get x (Nat.lt_of_lt_of_le hx hkp.n) (by omega)]; exact hkp.get x hx⟩
        refine wp_condE (fun e => ?_) (fun e0 => ?_)
        · subst e
          obtain ⟨q1, q2⟩ := dc (by omega)
          obtain ⟨n, rfl⟩ := nat q1
          refine wp_gdD (by omega) (wp_gdD (by omega) (wp_gxg (v := I (t.c n)) (by rw [show 0 + (n : Int).toNat * 1 = n by omega]; exact hy.c n (by omega)) (wp_asI (wp_ret ?_))))
          exact ⟨y, t.f, rfl, hkp, hsh, hy, rfl⟩
        refine wp_condE (fun e => ?_) (fun e1 => ?_)
        · subst e
          obtain ⟨q1, q2⟩ := dc (by omega)
          obtain ⟨n, rfl⟩ := nat q1
          refine wp_gdD (by omega) (wp_gdD (by omega) (wp_gdD (by rw [hyl]; omega) (wp_ret ?_)))
          rw [show 0 + (n : Int).toNat * 1 = n by omega]
          exact ⟨_, t.f, rfl, hkp, hsh, hy.setC (by omega) b, rfl⟩
        refine wp_condE (fun e => ?_) (fun e2 => ?_)
        · subst e
          obtain ⟨q1, q2⟩ := df (by omega)
          obtain ⟨n, rfl⟩ := nat q1
          refine wp_gdD (by omega) (wp_gdD (by omega) ?_)
          refine wp_file' hsh (i := n) (by omega) (by omega) ?_
          with_reducible repeat' (first | refine wp_finF ?_ | refine wp_uA ?_ | refine wp_uI ?_ | refine wp_uB ?_ | refine wp_uL ?_ | refine wp_uS ?_ | refine wp_uP ?_ | refine wp_uc ?_ | refine wp_nl ?_ | refine wp_asB ?_ | refine wp_asI ?_ | refine wp_asSl ?_ | refine wp_asT ?_ | refine wp_asA ?_ | refine wp_asS ?_ | refine wp_asP ?_ | refine wp_nN ?_ | refine wp_rN ?_ | refine wp_xN ?_ | refine wp_nB ?_ | refine wp_rB ?_ | refine wp_xB rfl ?_ | refine wp_xB' rfl ?_ | refine wp_bB ?_ | refine wp_rX ?_ | refine wp_xX ?_ | refine wp_rE ?_ | refine wp_xE ?_ | refine wp_rR ?_ | refine wp_xR ?_ | refine wp_r0 ?_ | refine wp_x0 ?_ | refine wp_rF ?_ | refine wp_rF0 ?_ | refine wp_rF2 ?_ | refine wp_rF3 ?_ | refine wp_rF4 ?_ | refine wp_condT ?_ | refine wp_condF ?_ | refine wp_condNT ?_ | refine wp_condNF ?_)
          refine wp_bnd (ref09_At_wp (Nat.le_trans (hn n (by omega)) (by omega)) (wp_asI (wp_ret ?_)))
          exact ⟨y, t.f, rfl, hkp, hsh, hy, rfl⟩
        refine wp_condE (fun e => ?_) (fun e3 => ?_)
        · subst e
          obtain ⟨q1, q2⟩ := df (by omega)
          obtain ⟨n, rfl⟩ := nat q1
          refine wp_bnd (ref14_Write_wp hsh (by omega) hn fun H2 hb hs2 => wp_asB (wp_ret ?_))
          exact ⟨y, _, rfl, keepB hb, hs2, hy, rfl⟩
        refine wp_condE (fun e => ?_) (fun e4 => ?_)
        · subst e
          obtain ⟨q1, q2⟩ := df (by omega)
          obtain ⟨n, rfl⟩ := nat q1
          refine wp_bnd (ref14_Create_wp hsh (by omega) fun H2 hb hs2 => wp_asB (wp_ret ?_))
          exact ⟨y, _, rfl, keepB hb, hs2, hy, rfl⟩
        refine wp_condE (fun e => ?_) (fun e5 => ?_)
        · subst e
          obtain ⟨q1, q2⟩ := df (by omega)
          obtain ⟨n, rfl⟩ := nat q1
          refine wp_bnd (ref14_Remove_wp hsh (by omega) fun H2 hb hs2 => wp_asB (wp_ret ?_))
          exact ⟨y, _, rfl, keepB hb, hs2, hy, rfl⟩
        refine wp_condE (fun e => ?_) (fun e6 => ?_)
        · subst e
          obtain ⟨q1, q2⟩ := df (by omega)
          obtain ⟨r1, r2⟩ := dr rfl
          obtain ⟨n, rfl⟩ := nat q1
          obtain ⟨m, rfl⟩ := nat r1
          refine wp_bnd (ref14_Rename_wp hsh (i := n) (j := m) (by omega) (by omega) fun H2 hb hs2 => wp_asB (wp_ret ?_))
          exact ⟨y, _, rfl, keepB hb, hs2, hy, rfl⟩
        refine wp_condE (fun e => ?_) (fun e7 => ?_)
        · subst e
          obtain ⟨q1, q2⟩ := df (by omega)
          obtain ⟨n, rfl⟩ := nat q1
          refine wp_bnd (ref14_SCut_wp hsh (by omega) hn fun H2 hb hs2 => wp_asB (wp_ret ?_))
          exact ⟨y, _, rfl, keepB hb, hs2, hy, rfl⟩
        refine wp_condE (fun e => ?_) (fun e8 => by omega)
        subst e
        obtain ⟨q1, q2⟩ := ds rfl
        obtain ⟨n, rfl⟩ := nat q1
        have hpn := hp n (by omega)
        have htn := htx n (by omega)
        have txg : ([.str (tx 0), .str (tx 1), .str (tx 2)] : List HV)[0 + (n : Int).toNat * 1]? = some (.str (tx n)) := by
          rw [show 0 + (n : Int).toNat * 1 = n by omega]
          rcases lt3 (k := n) (by omega) with rfl | rfl | rfl <;> rfl
        have py : y[20 + (n : Int).toNat * 1]? = some (I (t.p n)) := by rw [show 20 + (n : Int).toNat * 1 = 20 + n by omega]; exact hy.p n (by omega)
        refine wp_gdD (by omega) (wp_gdD (by omega) (wp_gxg py (wp_asI (wp_gdD (by omega) (wp_gdD (by omega) (wp_gxg txg (wp_asS ?_)))))))
        have ed : doF t tx ⟨8, n, b, c⟩ = if t.p n < ((tx n).size : Int) then ((((tx n).data[(t.p n).toNat]?.getD 0).toNat : Int), { t with p := updI t.p n (wr (t.p n + 1)) }) else (-1, t) := by
          simp [doF]
        rw [ed]
        refine wp_condD (fun c => ?_) (fun c => ?_)
        · refine wp_gdD (by omega) (wp_gdD (by omega) (wp_gxg txg (wp_asS (wp_gdD (by omega) (wp_gdD (by omega) (wp_gxg py (wp_asI ?_)))))))
          refine wp_gdD (by omega) (wp_gdD (by omega) (wp_gdD (by omega) (wp_gdD (by omega) (wp_gxg py (wp_asI (wp_gdD (by omega) (wp_gdD (by omega) (wp_gdD (by rw [hyl]; omega) (wp_ret ?_)))))))))
          rw [if_pos c, byte_small, show 20 + (n : Int).toNat * 1 = 20 + n by omega]
          exact ⟨_, t.f, rfl, hkp, hsh, hy.setP (by omega) _, rfl⟩
        · rw [if_neg c]
          exact wp_ret ⟨y, t.f, rfl, hkp, hsh, hy, rfl⟩
      · rintro _ H2 ⟨y', fs, rfl, k1, k2, k3, k4⟩
        show wp _ _ _
        exact wp_uI (wp_uA (wp_nl (wp_ret ⟨0, by omega, .inr ⟨rfl, y', fs, rfl, k1, k2, k3, k4⟩⟩)))
    · refine wp_uI (wp_uI (wp_uA (wp_nl (wp_condD (fun c => by rw [hlen] at c; simp at c) (fun _ => wp_ret ⟨y', fs, rfl, k1, k2, k3, k4⟩)))))
  · rintro _ H2 ⟨y', fs, rfl, k1, ⟨hlt, cs, c1, c2, c3⟩, k3, rfl⟩
    show wp _ _ _
    refine wp_uI (wp_uA (wp_nl ?_))
    refine wp_ldNo c1 (by omega) ?_
    have zl : ((cs.drop 12).take 12).length = 12 := by simp; omega
    have yl := k3.len
    refine wp_gd (by rw [zl]; rfl) (wp_gd (by rw [zl, yl]; rfl) ?_)
    have hT := k3.files (fs := (doF t tx d).2.f) zl (fun i hi => by
      rw [List.getElem?_take, if_pos (by omega), List.getElem?_drop, List.getElem?_take, if_pos (by omega), List.getElem?_drop, show 12 + (i * 2 + 1) = 12 + i * 2 + 1 by omega]
      exact c3 i hi)
    have tl := hT.len
    refine wp_gxAll tl (wp_gd (by rw [tl]; rfl) (wp_gd (by rw [tl]; rfl) ?_))
    rw [putN_full (by rw [tl]; rfl)]
    exact wp_gxAll tl (wp_rF2 (h _ _ k1 hT))
end Go.Proofs.Ytijppadieomnjaa.HM
namespace Go.Proofs.Ytijppadieomnjaa.HM
open Go

def sumI (x y : Int) : Int := wr (IntKind.wrap .u64 (IntKind.wrap .u64 x + IntKind.wrap .u64 y))
theorem ref23_sum_wp {D : HV → List HV → M HV} {H : Heap} {Q : HV → Heap → Prop} {x y : Int} (h : Q (I (sumI x y)) H) : wp (f_ref23_sum D [I x, I y]) Q H := by
  unfold f_ref23_sum
  with_reducible repeat' (first | refine wp_finF ?_ | refine wp_uA ?_ | refine wp_uI ?_ | refine wp_uB ?_ | refine wp_uL ?_ | refine wp_uS ?_ | refine wp_uP ?_ | refine wp_uc ?_ | refine wp_nl ?_ | refine wp_asB ?_ | refine wp_asI ?_ | refine wp_asSl ?_ | refine wp_asT ?_ | refine wp_asA ?_ | refine wp_asS ?_ | refine wp_asP ?_ | refine wp_nN ?_ | refine wp_rN ?_ | refine wp_xN ?_ | refine wp_nB ?_ | refine wp_rB ?_ | refine wp_xB rfl ?_ | refine wp_xB' rfl ?_ | refine wp_bB ?_ | refine wp_rX ?_ | refine wp_xX ?_ | refine wp_rE ?_ | refine wp_xE ?_ | refine wp_rR ?_ | refine wp_xR ?_ | refine wp_r0 ?_ | refine wp_x0 ?_ | refine wp_rF ?_ | refine wp_rF0 ?_ | refine wp_rF2 ?_ | refine wp_rF3 ?_ | refine wp_rF4 ?_ | refine wp_condT ?_ | refine wp_condF ?_ | refine wp_condNT ?_ | refine wp_condNF ?_)
  exact h
/-- what the numbers of an instruction may be. -/
structure RngB (c : Ins) : Prop where
  h1 : c.op = 1 → 0 ≤ c.a ∧ c.a < 4
  h2 : c.op = 2 → 0 ≤ c.a ∧ c.a < 4 ∧ 0 ≤ c.b ∧ c.b < 4
  h3 : c.op = 3 → 0 ≤ c.b ∧ c.b < 4
  h6 : c.op = 6 → 0 ≤ c.a ∧ c.a < 4 ∧ 0 ≤ c.b ∧ c.b < 8
  h7 : c.op = 7 → 0 ≤ c.a ∧ c.a < 8 ∧ 0 ≤ c.b ∧ c.b < 4
  h8 : c.op = 8 → 0 ≤ c.a ∧ c.a < 4 ∧ 0 ≤ c.b ∧ c.b < 6
  h9 : c.op = 9 → 0 ≤ c.a ∧ c.a < 6 ∧ 0 ≤ c.c ∧ c.c < 4
  h10 : c.op = 10 ∨ c.op = 11 ∨ c.op = 13 → 0 ≤ c.a ∧ c.a < 6
  h12 : c.op = 12 → 0 ≤ c.a ∧ c.a < 6 ∧ 0 ≤ c.b ∧ c.b < 6
  h14 : c.op = 14 → 0 ≤ c.a ∧ c.a < 4 ∧ 0 ≤ c.b ∧ c.b < 3
  h15 : c.op = 15 → 0 ≤ c.a ∧ c.a < 3 ∧ 0 ≤ c.b ∧ c.b < 4
  h16 : c.op = 16 → 0 ≤ c.a ∧ c.a < 3
  h18 : c.op = 18 → 0 ≤ c.a ∧ c.a < 4
theorem Fits.rngB {c : Ins} (h : Fits c) : RngB c := by
  obtain ⟨⟨l, h1, h2⟩, h3⟩ := h
  have key : ∀ {o : Int} {a0 a1 b0 b1 c0 c1 : Int}, c.op = o → lims o = some [a0, a1, b0, b1, c0, c1] → a0 ≤ c.a ∧ c.a ≤ a1 ∧ b0 ≤ c.b ∧ c.b ≤ b1 ∧ c0 ≤ c.c ∧ c.c ≤ c1 := by
    intro o a0 a1 b0 b1 c0 c1 ho hl
    rw [ho, hl] at h1
    cases h1
    exact h2
  refine ⟨fun e => ?_, fun e => ?_, fun e => ?_, fun e => ?_, fun e => ?_, fun e => ?_, fun e => ?_, fun e => ?_, fun e => ?_, fun e => ?_, fun e => ?_, fun e => ?_, fun e => ?_⟩
  all_goals first
    | (have := key e rfl; omega)
    | (rcases e with e | e | e <;> (have := key e rfl; omega))

abbrev regL (r : Nat → Int) : List HV := [I (r 0), I (r 1), I (r 2), I (r 3)]
theorem lt4 {k : Nat} (h : k < 4) : k = 0 ∨ k = 1 ∨ k = 2 ∨ k = 3 := by omega
theorem regL_get {r : Nat → Int} {n : Nat} (h : n < 4) : (regL r)[0 + (n : Int).toNat * 1]? = some (I (r n)) := by
  rw [show 0 + (n : Int).toNat * 1 = n by omega]
  rcases lt4 h with rfl | rfl | rfl | rfl <;> rfl
theorem regL_set {r : Nat → Int} {n : Nat} (h : n < 4) (v : Int) : List.set (regL r) (0 + (n : Int).toNat * 1) (I v) = regL (updI r n v) := by
  rw [show 0 + (n : Int).toNat * 1 = n by omega]
  rcases lt4 h with rfl | rfl | rfl | rfl <;> simp [regL, updI]
def goes (c : Ins) (r : Nat → Int) : Prop := c.c = 2 ∨ (c.c = 0 ∧ r c.b.toNat = 0) ∨ (c.c = 1 ∧ r c.b.toNat ≠ 0)
instance decGoes (c : Ins) (r : Nat → Int) : Decidable (goes c r) := by unfold goes; infer_instance
/-- an instruction on registers. -/
def plainF (c : Ins) (pl : Int) (r : Nat → Int) : Option (Int × (Nat → Int)) :=
  if c.op = 1 then some (wr (pl + 1), updI r c.a.toNat c.b)
  else if c.op = 2 then some (wr (pl + 1), updI r c.a.toNat (sumI (r c.a.toNat) (r c.b.toNat)))
  else if c.op = 3 then (if goes c r then some (c.a, r) else some (wr (pl + 1), r))
  else none
theorem ref23_Plain_wp {D : HV → List HV → M HV} {H : Heap} {Q : HV → Heap → Prop} {c : Ins} {pl : Int} {r : Nat → Int} (hr : RngB c)
    (h1 : ∀ pl' r', plainF c pl r = some (pl', r') → Q (.tup [I pl', .agg (regL r'), .bool true]) H) (h2 : plainF c pl r = none → Q (.tup [I pl, .agg (regL r), .bool false]) H) :
    wp (f_ref23_Plain D [.agg c.cs, I pl, .agg (regL r)]) Q H := by
  obtain ⟨o, a, b, c⟩ := c
  obtain ⟨k1, k2, k3, _, _, _, _, _, _, _, _, _, _⟩ := hr
  simp only at k1 k2 k3
  unfold f_ref23_Plain
  show wp (fin (uA [.agg [I o, I a, I b, I c], I pl, .agg [I (r 0), I (r 1), I (r 2), I (r 3)]] _)) _ _
  with_reducible repeat' (first | refine wp_finF ?_ | refine wp_uA ?_ | refine wp_uI ?_ | refine wp_uB ?_ | refine wp_uL ?_ | refine wp_uS ?_ | refine wp_uP ?_ | refine wp_uc ?_ | refine wp_nl ?_ | refine wp_asB ?_ | refine wp_asI ?_ | refine wp_asSl ?_ | refine wp_asT ?_ | refine wp_asA ?_ | refine wp_asS ?_ | refine wp_asP ?_ | refine wp_nN ?_ | refine wp_rN ?_ | refine wp_xN ?_ | refine wp_nB ?_ | refine wp_rB ?_ | refine wp_xB rfl ?_ | refine wp_xB' rfl ?_ | refine wp_bB ?_ | refine wp_rX ?_ | refine wp_xX ?_ | refine wp_rE ?_ | refine wp_xE ?_ | refine wp_rR ?_ | refine wp_xR ?_ | refine wp_r0 ?_ | refine wp_x0 ?_ | refine wp_rF ?_ | refine wp_rF0 ?_ | refine wp_rF2 ?_ | refine wp_rF3 ?_ | refine wp_rF4 ?_ | refine wp_condT ?_ | refine wp_condF ?_ | refine wp_condNT ?_ | refine wp_condNF ?_)
  have nat : ∀ {x : Int}, 0 ≤ x → ∃ n : Nat, x = n := fun {x} hx => ⟨x.toNat, by omega⟩
  have tail : ∀ r' : Nat → Int, plainF ⟨o, a, b, c⟩ pl r = some (wr (pl + 1), r') → wp (uA [.agg (regL r')] fun y5 r_13 => nl r_13 (gxN y5 0 4 fun x68l => uI .i64 x68l fun x68c0 r_14 => uI .i64 r_14 fun x68c1 r_15 => uI .i64 r_15 fun x68c2 r_16 => uI .i64 r_16 fun x68c3 r_17 => nl r_17 (ret (Leaf.ret [I (wr (pl + 1)), .agg [I x68c0, I x68c1, I x68c2, I x68c3], .bool true])))) (PFin Q) H := by
    intro r' hr'
    refine wp_uA (wp_nl (wp_gxNm (by simp) ?_))
    show wp (uI .i64 [I (r' 0), I (r' 1), I (r' 2), I (r' 3)] _) _ _
    with_reducible repeat' (first | refine wp_finF ?_ | refine wp_uA ?_ | refine wp_uI ?_ | refine wp_uB ?_ | refine wp_uL ?_ | refine wp_uS ?_ | refine wp_uP ?_ | refine wp_uc ?_ | refine wp_nl ?_ | refine wp_asB ?_ | refine wp_asI ?_ | refine wp_asSl ?_ | refine wp_asT ?_ | refine wp_asA ?_ | refine wp_asS ?_ | refine wp_asP ?_ | refine wp_nN ?_ | refine wp_rN ?_ | refine wp_xN ?_ | refine wp_nB ?_ | refine wp_rB ?_ | refine wp_xB rfl ?_ | refine wp_xB' rfl ?_ | refine wp_bB ?_ | refine wp_rX ?_ | refine wp_xX ?_ | refine wp_rE ?_ | refine wp_xE ?_ | refine wp_rR ?_ | refine wp_xR ?_ | refine wp_r0 ?_ | refine wp_x0 ?_ | refine wp_rF ?_ | refine wp_rF0 ?_ | refine wp_rF2 ?_ | refine wp_rF3 ?_ | refine wp_rF4 ?_ | refine wp_condT ?_ | refine wp_condF ?_ | refine wp_condNT ?_ | refine wp_condNF ?_)
    exact h1 _ _ hr'
  refine wp_blk ?_
  refine wp_condE (fun e => ?_) (fun e1 => ?_)
  · subst e
    obtain ⟨q1, q2⟩ := k1 rfl
    obtain ⟨n, rfl⟩ := nat q1
    refine wp_gdD (by omega) (wp_gdD (by omega) (wp_gdD (by simp; omega) (wp_ret ?_)))
    show wp _ _ _
    have := regL_set (r := r) (n := n) (by omega) b
    rw [show List.set ([I (r 0), I (r 1), I (r 2), I (r 3)] : List HV) (0 + (n : Int).toNat * 1) (I b) = regL (updI r n b) from this]
    exact tail _ (by simp [plainF])
  refine wp_condE (fun e => ?_) (fun e2 => ?_)
  · subst e
    obtain ⟨q1, q2, q3, q4⟩ := k2 rfl
    obtain ⟨n, rfl⟩ := nat q1
    obtain ⟨m, rfl⟩ := nat q3
    refine wp_gdD (by omega) (wp_gdD (by omega) (wp_gxg (v := I (r n)) (regL_get (by omega)) (wp_asI ?_)))
    refine wp_gdD (by omega) (wp_gdD (by omega) (wp_gxg (v := I (r m)) (regL_get (by omega)) (wp_asI ?_)))
    refine wp_bnd (ref23_sum_wp (wp_asI ?_))
    refine wp_gdD (by omega) (wp_gdD (by omega) (wp_gdD (by simp; omega) (wp_ret ?_)))
    show wp _ _ _
    have := regL_set (r := r) (n := n) (by omega) (sumI (r n) (r m))
    rw [show List.set ([I (r 0), I (r 1), I (r 2), I (r 3)] : List HV) (0 + (n : Int).toNat * 1) (I (sumI (r n) (r m))) = regL (updI r n (sumI (r n) (r m))) from this]
    exact tail _ (by simp [plainF])
  refine wp_condE (fun e => ?_) (fun e3 => ?_)
  · subst e
    obtain ⟨q1, q2⟩ := k3 rfl
    obtain ⟨n, rfl⟩ := nat q1
    refine wp_jnP (goes ⟨3, a, n, c⟩ r) ?_ (fun hg => ?_) (fun hg => ?_)
    · unfold goes
      simp only [Int.toNat_natCast]
      refine wp_condE (fun c2 => wp_bB (by simp [c2])) (fun c2 => ?_)
      refine wp_condE (fun c0 => ?_) (fun c0 => ?_)
      · refine wp_gdD (by omega) (wp_gdD (by omega) (wp_gxg (v := I (r n)) (regL_get (by omega)) (wp_asI ?_)))
        refine wp_condE (fun z => wp_bB (by simp [c0, z])) (fun z => ?_)
        refine wp_condE (fun c1 => by omega) (fun c1 => wp_bB ?_)
        simp [c0, z]
      · refine wp_condE (fun c1 => ?_) (fun c1 => wp_bB (by simp [c0, c1, c2]))
        refine wp_gdD (by omega) (wp_gdD (by omega) (wp_gxg (v := I (r n)) (regL_get (by omega)) (wp_asI (wp_bB ?_))))
        simp [c1]
    · refine wp_uB (wp_nl (wp_condT ?_))
      refine wp_rB (wp_ret ?_)
      exact h1 a r (by simp [plainF, hg])
    · refine wp_uB (wp_nl (wp_condF (wp_ret ?_)))
      show wp _ _ _
      exact tail r (by simp [plainF, hg])
  · refine wp_rB (wp_ret ?_)
    exact h2 (by simp [plainF, e1, e2, e3])
/-- an instruction that is a deed; and whether its answer is a register's. -/
def deedF (c : Ins) (r : Nat → Int) : De × Bool × Bool :=
  if c.op = 6 then (⟨0, c.b, 0, 0⟩, true, true)
  else if c.op = 7 then (⟨1, c.a, r c.b.toNat, 0⟩, true, false)
  else if c.op = 8 then (⟨2, c.b, c.c, 0⟩, true, true)
  else if c.op = 9 then (⟨3, c.a, c.b, IntKind.wrap .u8 (r c.c.toNat)⟩, true, false)
  else if c.op = 10 then (⟨4, c.a, 0, 0⟩, true, false)
  else if c.op = 11 then (⟨5, c.a, 0, 0⟩, true, false)
  else if c.op = 12 then (⟨6, c.a, c.b, 0⟩, true, false)
  else if c.op = 13 then (⟨7, c.a, c.b, 0⟩, true, false)
  else if c.op = 14 then (⟨8, c.b, 0, 0⟩, true, true)
  else (⟨0, 0, 0, 0⟩, false, false)
theorem ref23_deed_wp {D : HV → List HV → M HV} {H : Heap} {Q : HV → Heap → Prop} {c : Ins} {r : Nat → Int} (hr : RngB c)
    (h : Q (.tup [.agg (deedF c r).1.cs, .bool (deedF c r).2.1, .bool (deedF c r).2.2]) H) : wp (f_ref23_deed D [.agg c.cs, .agg (regL r)]) Q H := by
  obtain ⟨o, a, b, c⟩ := c
  obtain ⟨_, _, _, _, k7, _, k9, _, _, _, _, _, _⟩ := hr
  simp only at k7 k9
  unfold f_ref23_deed
  show wp (fin (uA [.agg [I o, I a, I b, I c], .agg [I (r 0), I (r 1), I (r 2), I (r 3)]] _)) _ _
  with_reducible repeat' (first | refine wp_finF ?_ | refine wp_uA ?_ | refine wp_uI ?_ | refine wp_uB ?_ | refine wp_uL ?_ | refine wp_uS ?_ | refine wp_uP ?_ | refine wp_uc ?_ | refine wp_nl ?_ | refine wp_asB ?_ | refine wp_asI ?_ | refine wp_asSl ?_ | refine wp_asT ?_ | refine wp_asA ?_ | refine wp_asS ?_ | refine wp_asP ?_ | refine wp_nN ?_ | refine wp_rN ?_ | refine wp_xN ?_ | refine wp_nB ?_ | refine wp_rB ?_ | refine wp_xB rfl ?_ | refine wp_xB' rfl ?_ | refine wp_bB ?_ | refine wp_rX ?_ | refine wp_xX ?_ | refine wp_rE ?_ | refine wp_xE ?_ | refine wp_rR ?_ | refine wp_xR ?_ | refine wp_r0 ?_ | refine wp_x0 ?_ | refine wp_rF ?_ | refine wp_rF0 ?_ | refine wp_rF2 ?_ | refine wp_rF3 ?_ | refine wp_rF4 ?_ | refine wp_condT ?_ | refine wp_condF ?_ | refine wp_condNT ?_ | refine wp_condNF ?_)
  have nat : ∀ {x : Int}, 0 ≤ x → ∃ n : Nat, x = n := fun {x} hx => ⟨x.toNat, by omega⟩
  refine wp_condE (fun e => wp_rF3 (by subst e; simpa [deedF] using h)) (fun e6 => ?_)
  refine wp_condE (fun e => ?_) (fun e7 => ?_)
  · subst e
    obtain ⟨_, _, q3, q4⟩ := k7 rfl
    obtain ⟨m, rfl⟩ := nat q3
    refine wp_gdD (by omega) (wp_gdD (by omega) (wp_gxg (v := I (r m)) (regL_get (by omega)) (wp_asI (wp_rF3 ?_))))
    simpa [deedF] using h
  refine wp_condE (fun e => wp_rF3 (by subst e; simpa [deedF] using h)) (fun e8 => ?_)
  refine wp_condE (fun e => ?_) (fun e9 => ?_)
  · subst e
    obtain ⟨_, _, q3, q4⟩ := k9 rfl
    obtain ⟨m, rfl⟩ := nat q3
    refine wp_gdD (by omega) (wp_gdD (by omega) (wp_gxg (v := I (r m)) (regL_get (by omega)) (wp_asI (wp_rF3 ?_))))
    simpa [deedF] using h
  refine wp_condE (fun e => wp_rF3 (by subst e; simpa [deedF] using h)) (fun e10 => ?_)
  refine wp_condE (fun e => wp_rF3 (by subst e; simpa [deedF] using h)) (fun e11 => ?_)
  refine wp_condE (fun e => wp_rF3 (by subst e; simpa [deedF] using h)) (fun e12 => ?_)
  refine wp_condE (fun e => wp_rF3 (by subst e; simpa [deedF] using h)) (fun e13 => ?_)
  refine wp_condE (fun e => wp_rF3 (by subst e; simpa [deedF] using h)) (fun e14 => ?_)
  refine wp_rF3 ?_
  simpa [deedF, e6, e7, e8, e9, e10, e11, e12, e13, e14] using h
theorem deedF_ok {c : Ins} (hr : RngB c) (r : Nat → Int) : (deedF c r).2.1 = true → (deedF c r).1.ok := by
  obtain ⟨o, a, b, c⟩ := c
  obtain ⟨_, _, _, k6, k7, k8, k9, k10, k12, k14, _, _, _⟩ := hr
  simp only at k6 k7 k8 k9 k10 k12 k14
  unfold deedF
  simp only
  intro h
  split at h <;> rename_i e <;> (try rw [if_pos e])
  · have := k6 e; exact ⟨by simp, by simp; omega, by simp, by simp, by simp⟩
  rw [if_neg e]
  split at h <;> rename_i e <;> (try rw [if_pos e])
  · have := k7 e; exact ⟨by simp, by simp; omega, by simp, by simp, by simp⟩
  rw [if_neg e]
  split at h <;> rename_i e <;> (try rw [if_pos e])
  · have := k8 e; exact ⟨by simp, by simp, by simp; omega, by simp, by simp⟩
  rw [if_neg e]
  split at h <;> rename_i e <;> (try rw [if_pos e])
  · have := k9 e; exact ⟨by simp, by simp, by simp; omega, by simp, by simp⟩
  rw [if_neg e]
  split at h <;> rename_i e <;> (try rw [if_pos e])
  · have := k10 (.inl e); exact ⟨by simp, by simp, by simp; omega, by simp, by simp⟩
  rw [if_neg e]
  split at h <;> rename_i e <;> (try rw [if_pos e])
  · have := k10 (.inr (.inl e)); exact ⟨by simp, by simp, by simp; omega, by simp, by simp⟩
  rw [if_neg e]
  split at h <;> rename_i e <;> (try rw [if_pos e])
  · have := k12 e; exact ⟨by simp, by simp, by simp; omega, by simp; omega, by simp⟩
  rw [if_neg e]
  split at h <;> rename_i e <;> (try rw [if_pos e])
  · have := k10 (.inr (.inr e)); exact ⟨by simp, by simp, by simp; omega, by simp, by simp⟩
  rw [if_neg e]
  split at h <;> rename_i e <;> (try rw [if_pos e])
  · have := k14 e; exact ⟨by simp, by simp, by simp, by simp, by simp; omega⟩
  · cases h
end Go.Proofs.Ytijppadieomnjaa.HM
