/- law26: same: walked. Conditions: none. -/
import Derived.Test.YtmfmcegpoiinjaaDoorHMR7
namespace Go.Proofs.YtmfmcegpoiinjaaDoor.HM
open Go
set_option maxRecDepth 100000

section
variable {D : HV → List HV → M HV} {H : Heap} {Q : HV → Heap → Prop}
theorem same_wp {s r : Sl} {p q : List Ins} (hs : RProg H s p) (hr : RProg H r q) (h : ∀ b : Bool, (b = true ↔ p = q) → Q (.bool b) H) : wp (f_law26_same D [.sl s, .sl r]) Q H := by
  unfold f_law26_same
  have hl1 := hs.lenI
  have hl2 := hr.lenI
  have hlt := hs.lt
  refine step ⟨fun c => ?_, fun c => ?_⟩
  · exact h _ ⟨fun hh => (by cases hh), fun hh => by subst hh; omega⟩
  · have hpq : p.length = q.length := by omega
    refine wp_loop0 p.length hlt hl1 (fun _ => rfl) rfl (fun i => p.take i = q.take i) (by simp) ?_ ?_
    · intro i hi hp
      have hi2 : i < q.length := by omega
      have t1 := List.take_succ_eq_append_getElem hi
      have t2 := List.take_succ_eq_append_getElem hi2
      refine wp_at hs hi fun b o => ?_
      have ne : p[i] ≠ q[i] → Q (.bool false) H := fun hh => h _ ⟨fun h3 => (by cases h3), fun h3 => absurd (by subst h3; rfl) hh⟩
      generalize p[i] = x at *
      show wp (uI .i64 (Ins.cs x) _) _ _
      refine step ?_
      refine wp_at hr hi2 fun b2 o2 => ?_
      generalize q[i] = y at *
      show wp (uI .i64 (Ins.cs y) _) _ _
      have hb : (!(cond (x.op == y.op) (cond (x.a == y.a) (cond (x.b == y.b) (cond (x.c == y.c) true false) false) false) false)) = !decide (x = y) := by
        obtain ⟨a1, a2, a3, a4⟩ := x
        obtain ⟨b1, b2, b3, b4⟩ := y
        simp only [Ins.mk.injEq]
        by_cases e1 : a1 = b1 <;> by_cases e2 : a2 = b2 <;> by_cases e3 : a3 = b3 <;> by_cases e4 : a4 = b4 <;> simp [e1, e2, e3, e4]
      refine step ⟨fun c1 => ?_, fun c1 => ?_⟩
      · have hne : decide (x = y) = false := by
          rw [← Bool.not_inj hb]; exact c1
        exact ne (of_decide_eq_false hne)
      · have hee : decide (x = y) = true := by
          rw [← Bool.not_inj hb]; exact c1
        rw [t1, t2, hp, of_decide_eq_true hee]
    · intro hp
      have : p = q := by rw [List.take_length, hpq, List.take_length] at hp; exact hp
      exact step (h _ ⟨fun _ => this, fun _ => rfl⟩)
end
end Go.Proofs.YtmfmcegpoiinjaaDoor.HM
namespace Go.Proofs.YtmfmcegpoiinjaaDoor.HM
open Go
set_option maxRecDepth 100000

section
variable {D : HV → List HV → M HV} {H : Heap} {Q : HV → Heap → Prop}
theorem ROp_wp {w : Bs} (h1 : ∀ (k : Nat) H', words[k]? = some w → Kp H H' → Q (I k) H') (h2 : ∀ H', (∀ k : Nat, words[k]? ≠ some w) → Kp H H' → Q (I (-1)) H') : wp (f_ref25_Op D [.str (S w)]) Q H := by
  unfold f_ref25_Op
  refine step (wp_bnd (Pieces_wp (l := wordsL) (c := 32) (by decide) fun H1 s k1 hs => step ?_))
  rw [cut_words] at hs
  have hwl : words.length = 22 := rfl
  refine wp_loop0 22 (by omega) hs.lenI (fun _ => rfl) rfl (fun i => ∀ j : Nat, j < i → words[j]? ≠ some w) (fun j hj => by omega) ?_ ?_
  · intro i hi hp
    have hwi : i < words.length := hi
    refine wp_atS hs hwi fun b o => ?_
    refine step ⟨fun c => ?_, fun c => ?_⟩
    · rw [beq_iff_eq, toList_S, toList_S] at c
      exact h1 i H1 (by rw [List.getElem?_eq_getElem hwi, c]) k1
    · rw [beq_eq_false_iff_ne, toList_S, toList_S] at c
      intro j hj
      rcases Nat.lt_or_ge j i with h3 | h3
      · exact hp j h3
      · have : j = i := by omega
        subst this; rw [List.getElem?_eq_getElem hwi]; intro hh; cases hh; exact c rfl
  · intro hp
    refine step (h2 H1 (fun k hk => ?_) k1)
    have : k < 22 := (List.getElem?_eq_some_iff.1 hk).1
    exact hp k this hk
theorem RName_wp {l : Bs} (hl : l.length ≤ 9223372036854775807) (h : ∀ b : Bool, (b = true ↔ nameOk l) → Q (.bool b) H) : wp (f_ref26_Name D [.str (S l)]) Q H := by
  unfold f_ref26_Name
  have hsz := S_size l
  refine step ?_
  refine wp_loop0 l.length hl (by rw [hsz]) (fun _ => rfl) rfl (fun i => ∀ (j : Nat) (c : UInt8), j < i → l[j]? = some c → okAt j c) (fun j c hj => by omega) ?_ ?_
  · intro i hi hp
    have hat := at_S hi
    have hge : l[i]? = some l[i] := List.getElem?_eq_getElem hi
    refine wp_blk (wp_jnP (okAt i l[i]) ?_ (fun h3 => step ?_) (fun h3 => step ?_))
    · rw [hat]
      unfold okAt
      generalize l[i] = x at *
      refine step ?_
      simp only [decide_eq_true_eq, true_iff, Bool.false_eq_true, false_iff]
      repeat' (first | apply And.intro | intro _)
      all_goals omega
    · intro j c hj hc
      rcases Nat.lt_or_ge j i with h1 | h1
      · exact hp j c h1 hc
      · have : j = i := by omega
        subst this; rw [hge] at hc; cases hc; exact h3
    · exact h _ ⟨fun hh => (by cases hh), fun hh => absurd (hh.2.2 i _ hge) h3⟩
  · intro hp
    have hall : ∀ (j : Nat) (c : UInt8), l[j]? = some c → okAt j c := fun j c hc => hp j c (List.getElem?_eq_some_iff.1 hc).1 hc
    refine step ?_
    refine wp_jnP (nameOk l) ?_ (fun h3 => step (h _ ⟨fun _ => h3, fun _ => rfl⟩)) (fun h3 => step (h _ ⟨fun hh => (by cases hh), fun hh => absurd hh h3⟩))
    refine step ⟨fun c1 => ?_, fun c1 => ?_⟩
    · rw [decide_eq_true_eq]
      exact ⟨fun h5 => ⟨by omega, by omega, hall⟩, fun h5 => by have := h5.2.1; omega⟩
    · exact ⟨fun hh => (by cases hh), fun hh => by have := hh.1; omega⟩
end
end Go.Proofs.YtmfmcegpoiinjaaDoor.HM
namespace Go.Proofs.YtmfmcegpoiinjaaDoor.HM
open Go
set_option maxRecDepth 100000

theorem w64 (n : Int) : IntKind.wrap .u64 n = n % 18446744073709551616 := by simp [IntKind.wrap, IntKind.bits, IntKind.signed]
theorem wi64 (n : Int) : wr n = if n % 18446744073709551616 < 9223372036854775808 then n % 18446744073709551616 else n % 18446744073709551616 - 18446744073709551616 := by
  simp [wr, IntKind.wrap, IntKind.bits, IntKind.signed]; omega
theorem head_at {l : Bs} (h : 0 < l.length) : (S l).data[(0 : Int).toNat]?.getD 0 = l[0] := by simp [h]
theorem head_iff' {l : Bs} (h : 0 < l.length) (c : UInt8) : l.head? = some c ↔ l[0] = c := by
  cases l with
  | nil => simp at h
  | cons x r => simp
section
variable {D : HV → List HV → M HV} {H : Heap} {Q : HV → Heap → Prop}
theorem RNum_wp {l : Bs} (hl : l.length ≤ 9223372036854775807) (h1 : ∀ n, refNum l = some n → Q (.tup [I n, .bool true]) H) (h2 : refNum l = none → Q (.tup [I 0, .bool false]) H) : wp (f_ref25_Num D [.str (S l)]) Q H := by
  unfold f_ref25_Num
  have hsz := S_size l
  refine step ?_
  refine wp_jnV [.bool (refM l)] ?_ (step ?_)
  · refine step ⟨fun c => ⟨by omega, by omega, ?_⟩, fun c => ?_⟩
    · have h0 : 0 < l.length := by omega
      rw [head_at h0]
      have : ((l[0].toNat : Int) == 45) = refM l := by
        unfold refM
        rw [Bool.eq_iff_iff, beq_iff_eq, beq_iff_eq, head_iff' h0]
        exact ⟨fun hh => UInt8.toNat_inj.1 (by simpa using (by omega : l[0].toNat = 45)), fun hh => by rw [hh]; rfl⟩
      rw [this]
    · have : l = [] := List.length_eq_zero_iff.1 (by omega)
      subst this; rfl
  refine wp_jnV [.str (S (refD l))] ?_ (step ?_)
  · refine step ⟨fun c => ⟨by omega, ?_, by omega, ?_⟩, fun c => ?_⟩
    · cases l with
      | nil => cases c
      | cons x r => simp at hsz; omega
    · rw [S_ext]
      unfold refD; rw [if_pos c]
      have : List.take (((S l).size : Int).toNat - (1 : Int).toNat) (List.drop (1 : Int).toNat l) = l.drop 1 := by
        rw [hsz]; exact List.take_of_length_le (by simp)
      rw [this]
    · unfold refD; rw [if_neg (by rw [c]; simp)]
  have hds := S_size (refD l)
  refine wp_jnP (refBad l) ?_ (fun h3 => step (h2 (by unfold refNum; rw [if_pos h3]))) (fun h3 => step ?_)
  · unfold refBad
    have e0 : ((S (refD l)).toList == (ByteArray.mk #[48]).toList) = true ↔ refD l = [48] := by
      rw [beq_iff_eq, toList_S, show ByteArray.mk #[48] = S [48] from rfl, toList_S]
    have eh : 1 < (refD l).length → ((((S (refD l)).data[(0 : Int).toNat]?.getD 0).toNat : Int) = 48 ↔ (refD l).head? = some 48) := fun hh => by
      have h0 : 0 < (refD l).length := by omega
      rw [head_at h0, head_iff' h0]
      exact ⟨fun hh => UInt8.toNat_inj.1 (by simpa using (by omega : (refD l)[0].toNat = 48)), fun hh => by rw [hh]; rfl⟩
    have el : refD l = [48] → (refD l).length = 1 := fun hh => by rw [hh]; rfl
    generalize refD l = m at *
    generalize refM l = b at *
    refine step ?_
    rw [e0]
    simp only [decide_eq_true_eq, true_iff, Bool.false_eq_true, false_iff]
    refine ⟨fun c => ?_, fun c => ⟨fun c2 => ?_, fun c2 => ⟨fun c3 => ⟨by omega, by omega, fun c4 => ?_, fun c4 => ⟨fun c5 => ?_, fun c5 => ?_⟩⟩, fun c3 => ⟨fun c5 => ?_, fun c5 => ?_⟩⟩⟩⟩
    · left; omega
    · right; left; omega
    · exact .inr (.inr (.inl ⟨by omega, (eh (by omega)).1 c4⟩))
    · exact ⟨fun hh => .inr (.inr (.inr ⟨c5, hh⟩)), fun hh => by
        rcases hh with hh | hh | hh | hh
        · omega
        · omega
        · exact absurd ((eh (by omega)).2 hh.2) c4
        · exact hh.2⟩
    · rintro (hh | hh | hh | hh)
      · omega
      · omega
      · exact absurd ((eh (by omega)).2 hh.2) c4
      · rw [c5] at hh; cases hh.1
    · exact ⟨fun hh => .inr (.inr (.inr ⟨c5, hh⟩)), fun hh => by
        rcases hh with hh | hh | hh | hh
        · omega
        · omega
        · omega
        · exact hh.2⟩
    · rintro (hh | hh | hh | hh)
      · omega
      · omega
      · omega
      · rw [c5] at hh; cases hh.1
  · have hb19 : 1 ≤ (refD l).length ∧ (refD l).length ≤ 19 := by
      unfold refBad at h3; omega
    have hrn : refNum l = if ∀ c ∈ refD l, Dig c then (if refM l = true then (if 9223372036854775808 < valA 0 (refD l) then none else some (-(valA 0 (refD l) : Int))) else (if 9223372036854775807 < valA 0 (refD l) then none else some (valA 0 (refD l) : Int))) else none := by
      unfold refNum; rw [if_neg h3]
    generalize refD l = m at *
    generalize refM l = b at *
    refine wp_for (σ := Nat) m.length (by omega) (by rw [hds]) (fun x i => [.int .u64 (x : Int), I i]) (out := fun x => [.int .u64 (x : Int)]) (fun _ _ => rfl) rfl
      (fun i x H' => H' = H ∧ (∀ c ∈ m.take i, Dig c) ∧ x = valA 0 (m.take i)) 0 rfl ⟨rfl, by simp, rfl⟩ ?_ ?_
    · rintro i x H' hi ⟨rfl, hd, hx⟩
      have hat := at_S hi
      have ht := List.take_succ_eq_append_getElem hi
      have hmem := List.getElem_mem hi
      have hlt := valA_lt (m.take i) 0 hd
      rw [← hx] at hlt
      have hpi : 10 ^ (m.take i).length ≤ 10 ^ 18 := Nat.pow_le_pow_right (by omega) (by rw [List.length_take]; omega)
      rw [hat]
      generalize m[i] = y at *
      refine wp_jnP (¬ Dig y) ?_ (fun h4 => step (h2 (by rw [hrn, if_neg (fun hh => h4 (hh y hmem))]))) (fun h4 => step ⟨by omega, by omega, ?_⟩)
      · unfold Dig
        refine step ⟨by omega, by omega, fun c1 => ?_, fun c1 => ⟨by omega, by omega, ?_⟩⟩
        · simp only [true_iff]; omega
        · rw [decide_eq_true_eq]; omega
      · have hD : Dig y := Classical.byContradiction h4
        have hy := hD
        unfold Dig at hy
        refine ⟨x * 10 + (y.toNat - 48), ?_, rfl, fun c hc => ?_, ?_⟩
        · have e1 : IntKind.wrap .u8 ((y.toNat : Int) - 48) = (y.toNat : Int) - 48 := by rw [IntKind.wrap_u8]; omega
          have e2 : IntKind.wrap .u64 ((y.toNat : Int) - 48) = (y.toNat : Int) - 48 := by rw [w64]; omega
          have e3 : IntKind.wrap .u64 (10 * (x : Int)) = 10 * (x : Int) := by rw [w64]; omega
          have e4 : IntKind.wrap .u64 (10 * (x : Int) + ((y.toNat : Int) - 48)) = ((x * 10 + (y.toNat - 48) : Nat) : Int) := by rw [w64]; omega
          rw [e1, e2, e3, e4]
        · rw [ht] at hc
          rcases List.mem_append.1 hc with hc | hc
          · exact hd c hc
          · have : c = y := by simpa using hc
            rw [this]; exact hD
        · rw [ht, valA_app, ← hx]; rfl
    · rintro x H' ⟨rfl, hd, hx⟩
      rw [List.take_length] at hd hx
      rw [if_pos hd, ← hx] at hrn
      have hlt := valA_lt m 0 hd
      rw [← hx] at hlt
      have hp19 : 10 ^ m.length ≤ 10 ^ 19 := Nat.pow_le_pow_right (by omega) hb19.2
      refine step ⟨fun c1 => ⟨fun c2 => ?_, fun c2 => ?_⟩, fun c1 => ⟨fun c2 => ?_, fun c2 => ?_⟩⟩
      · exact h2 (by rw [hrn, if_pos c1, if_pos (by omega)])
      · have e : (wr ((wr (0 - (wr (IntKind.wrap .u64 ((x : Int) - 1))))) - 1)) = -(x : Int) := by
          rw [w64, wi64, wi64, wi64]; omega
        rw [e]
        exact h1 _ (by rw [hrn, if_pos c1, if_neg (by omega)])
      · exact h2 (by rw [hrn, if_neg (by rw [c1]; simp), if_pos (by omega)])
      · rw [wr_small (by omega) (by omega)]
        exact h1 _ (by rw [hrn, if_neg (by rw [c1]; simp), if_neg (by omega)])
end
end Go.Proofs.YtmfmcegpoiinjaaDoor.HM
namespace Go.Proofs.YtmfmcegpoiinjaaDoor.HM
open Go

section
variable {D : HV → List HV → M HV} {H : Heap} {Q : HV → Heap → Prop}
/-- the restatement's list of marks: names and places. -/
abbrev RMk := Rows (fun x : Bs × Int => [HV.str (S x.1), I x.2]) 2
theorem RAt_wp {s : Sl} {l : List (Bs × Int)} (hs : RMk H s l) {w : Bs} (h1 : ∀ x, (l.find? fun x => decide (x.1 = w)) = some x → Q (I x.2) H) (h2 : (l.find? fun x => decide (x.1 = w)) = none → Q (I (-1)) H) : wp (f_ref26_At D [.sl s, .str (S w)]) Q H := by
  unfold f_ref26_At
  refine step ?_
  refine wp_loop0 l.length hs.lt hs.lenI (fun _ => rfl) rfl (fun i => (l.find? fun x => decide (x.1 = w)) = ((l.drop i).find? fun x => decide (x.1 = w))) (by simp) ?_ ?_
  · intro i hi hp
    rw [List.drop_eq_getElem_cons hi] at hp
    refine wp_at hs hi fun b o => ?_
    generalize l[i] = x at *
    refine step ⟨fun c => ?_, fun c => ?_⟩
    · rw [beq_iff_eq, toList_S, toList_S] at c
      exact h1 x (by rw [hp, List.find?_cons_of_pos (by simpa using c)])
    · rw [beq_eq_false_iff_ne, toList_S, toList_S] at c
      rw [hp, List.find?_cons_of_neg (by simpa using c)]
  · intro hp
    rw [List.drop_eq_nil_of_le (Nat.le_refl _)] at hp
    exact step (h2 hp)
end
end Go.Proofs.YtmfmcegpoiinjaaDoor.HM
