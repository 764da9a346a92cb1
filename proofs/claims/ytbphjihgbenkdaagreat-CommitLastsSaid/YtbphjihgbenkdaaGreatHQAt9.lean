/- Lemmas for the row. Conditions: none. -/
import Derived.Test.YtbphjihgbenkdaaGreatHQAt5
namespace Go.Proofs.YtbphjihgbenkdaaGreat.HQ
set_option linter.unusedVariables false
set_option linter.unusedSectionVars false
set_option linter.unusedSimpArgs false
open Go
def noteS (v : Vw) (x : List Rd × Int) (k i : Int) : Bool × (List Rd × Int) := match x.1.find? (fun e => decide (e.k = k) && decide (e.i = i)) with
 | some e => (decide (e.v = verOf v k i), x)
 | none => if verOf v k i > x.2 then (if validB v x.1 = true then (true, (x.1 ++ [⟨k, i, verOf v k i⟩], v.clock)) else (false, x)) else (true, (x.1 ++ [⟨k, i, verOf v k i⟩], x.2))
theorem PlaceP.find {rd : List Rd} {k i r : Int} (h : PlaceP rd k i r) : (∃ j e, r = (j : Nat) ∧ rd[j]? = some e ∧ rd.find? (fun e => decide (e.k = k) && decide (e.i = i)) = some e) ∨ (r = -1 ∧ rd.find? (fun e => decide (e.k = k) && decide (e.i = i)) = none) := by
 rcases h.h with ⟨j, e, h1, h2, h3, h4, h5⟩ | ⟨h1, h2⟩
 ·refine .inl ⟨j, e, h1, h2, ?_⟩
  obtain ⟨hj, hje⟩ := List.getElem?_eq_some_iff.1 h2
  rw [← List.take_append_drop j rd, List.find?_append]
  have : (rd.take j).find? (fun e => decide (e.k = k) && decide (e.i = i)) = none := by
   rw [List.find?_eq_none]; intro x hx; simpa using fun a => (fun b => h5 x hx ⟨a, b⟩)
  rw [this, List.drop_eq_getElem_cons hj, hje, List.find?_cons_of_pos (by simp [h3, h4])]; rfl
 ·refine .inr ⟨h1, ?_⟩
  rw [List.find?_eq_none]; intro x hx; simpa using fun a => (fun b => h2 x hx ⟨a, b⟩)
section
variable {H0 : Heap} {P F : List HP} {Q : HV → List HP → Prop} [Sea] {n : Nat}
theorem reads_Set_Note_v {p : Nat} {v : Vw} {rd : List Rd} {st k i : Int} [fd : Fnd P rSet p (rd, st) F] (hc : lkA Sea.cl n_reads_Set_place_1 = some f_reads_Set_place_1) (ok : RdsOk rd) (hk : KOk k i) (hl : rd.length ≤ 1000000)
  (h : Q (.bool (noteS v (rd, st) k i).1) (own rSet p (noteS v (rd, st) k i).2 :: F)) : Wp H0 P (f_reads_Set_Note (lv (n + 1)) [.ptr (some (p, 0)), .agg ((nowV v).map fun n => I n), I k, I i]) Q := by
 refine Wp.cl ?_
 unfold f_reads_Set_Note
 have hroom : room = 140737488355328 := rfl
 have hnl : ((nowV v).map fun n => I n).length = 25 := by rw [List.length_map, nowV_len]
 have htk : (((nowV v).map fun n => I n).drop 0).take 25 = (nowV v).map fun n => I n := by rw [List.drop_zero, ← hnl, List.take_length]
 refine go ?_
 refine Wp.gxN (vs := (nowV v).map fun n => I n) (by rw [hnl]; decide) htk ?_
 refine go (reads_Now_Of_v hk.k hk.i ?_)
 refine go (reads_Set_place_v hc fun r hr => ?_)
 rcases hr.find with ⟨j, e, rfl, h2, h3⟩ | ⟨rfl, h3⟩
 ·refine Wp.open rSet p fun s _ => ?_
  refine go ⟨fun _ => ?_, fun c => by omega⟩
  refine Wp.ixC (j := j) (by omega) h2 rfl fun _ _ => ?_
  refine go ?_
  have e1 : noteS v (rd, st) k i = (decide (e.v = verOf v k i), (rd, st)) := by unfold noteS; simp only [h3]
  rw [e1] at h
  exact ⟨_, h, .fold s trivial .refl⟩
 ·refine go ⟨fun c => by omega, fun _ => ?_⟩
  refine Wp.open rSet p fun s _ => ?_
  refine go ⟨fun c => ?_, fun c => ?_⟩
  ·refine Wp.gxN (vs := (nowV v).map fun n => I n) (by rw [hnl]; decide) htk ?_
   refine go (Wp.ent (P' := own rSet p (rd, st) :: F) (.fold s trivial .refl) ?_)
   refine reads_Set_Valid_v ok ?_
   refine go ⟨fun c2 => ?_, fun c2 => ?_⟩
   ·have e1 : noteS v (rd, st) k i = (false, (rd, st)) := by unfold noteS; simp only [h3]; rw [if_pos c, if_neg (by simp [c2])]
    rw [e1] at h
    exact ⟨_, h, .refl⟩
   ·have e1 : noteS v (rd, st) k i = (true, (rd ++ [⟨k, i, verOf v k i⟩], v.clock)) := by unfold noteS; simp only [h3]; rw [if_pos c, if_pos c2]
    rw [e1] at h
    refine Wp.gx (v := I v.clock) (map_I_at (by rw [nowV_at v (by decide)]; rfl)) ?_
    refine Wp.open rSet p fun s _ => ?_
    refine go ?_
    refine Wp.apd (x := ⟨k, i, verOf v k i⟩) rfl rfl (by simp only; omega) (by simp only; omega) fun s' => ?_
    refine go ?_
    exact ⟨_, h, .fold s' trivial .refl⟩
  ·have e1 : noteS v (rd, st) k i = (true, (rd ++ [⟨k, i, verOf v k i⟩], st)) := by unfold noteS; simp only [h3]; rw [if_neg c]
   rw [e1] at h
   refine Wp.apd (x := ⟨k, i, verOf v k i⟩) rfl rfl (by simp only; omega) (by simp only; omega) fun s' => ?_
   refine go ?_
   exact ⟨_, h, .fold s' trivial .refl⟩
end
/-! a loop that ends -/
def SLoop (Inv : Nat → List HV → List HP → Prop) (k : Nat) (Q : Leaf → List HP → Prop) : Leaf → List HP → Prop := fun l P => match l with
 | .norm vs => ∃ k', k' < k ∧ Inv k' vs P
 | l => Q l P
section
variable {H0 : Heap} {P : List HP} {Q : Leaf → List HP → Prop}
theorem Wp.loop {f : List HV → M Leaf} (Inv : Nat → List HV → List HP → Prop) (k : Nat) {vs : List HV} (h0 : Inv k vs P) (hs : ∀ k vs P, Inv k vs P → Wp H0 P (f vs) (SLoop Inv k Q)) : Wp H0 P (loopD f vs) Q := fun H hH => by
 refine wp_loop (fun k vs H => ∃ P, Inv k vs P ∧ Ho H0 H P) k ⟨P, h0, hH⟩ ?_
 rintro k vs H' ⟨P', hi, ho⟩
 refine (hs k vs P' hi H' ho).mono ?_
 rintro l H2 ⟨P2, q, ho2⟩
 cases l with
 | norm vs => obtain ⟨k', h1, h2⟩ := q; exact ⟨k', h1, P2, h2, ho2⟩
 | exit j vs => exact ⟨P2, q, ho2⟩
 | ret vs => exact ⟨P2, q, ho2⟩
instance vi_nL {Inv : Nat → List HV → List HP → Prop} {k : Nat} {vs : List HV} : V1 H0 P (ret (.norm vs)) (SLoop Inv k Q) (∃ k', k' < k ∧ Inv k' vs P) := ⟨fun q => .ret q⟩
instance vi_rL {Inv : Nat → List HV → List HP → Prop} {k : Nat} {vs : List HV} {R : Prop} [h : V H0 P (ret (.ret vs)) Q R] : V1 H0 P (ret (.ret vs)) (SLoop Inv k Q) R := ⟨fun q H hH => wp_ret ((h.w q).retI H hH)⟩
instance vi_xL {Inv : Nat → List HV → List HP → Prop} {k i : Nat} {vs : List HV} {R : Prop} [h : V H0 P (ret (.exit i vs)) Q R] : V1 H0 P (ret (.exit i vs)) (SLoop Inv k Q) R := ⟨fun q H hH => wp_ret ((h.w q).retI H hH)⟩
end
theorem mid_eq {a b : Nat} (h : a + b ≤ 9223372036854775807) : wr (Int.fdiv (IntKind.wrap .u64 (wr ((a : Int) + (b : Int)))) (2 ^ 1)) = ((a + b) / 2 : Nat) := by
 have e0 : wr ((a : Int) + (b : Int)) = (a : Int) + (b : Int) := wr_small (by omega) (by omega)
 have e : IntKind.wrap .u64 ((a : Int) + (b : Int)) = (a : Int) + (b : Int) := by
  have hb : (2 : Int) ^ IntKind.u64.bits = 18446744073709551616 := by decide
  have hs : IntKind.u64.signed = false := rfl
  simp only [IntKind.wrap, hb, hs, Bool.false_and, Bool.false_eq_true, if_false]
  omega
 rw [e0, e, Int.fdiv_eq_ediv_of_nonneg _ (by decide)]
 have e2 : ((a : Int) + (b : Int)) / 2 ^ 1 = (((a + b) / 2 : Nat) : Int) := by omega
 rw [e2, wr_small (by omega) (by omega)]
theorem countP_cut {γ : Type} {p : γ → Bool} : ∀ {l : List γ} {k : Nat}, k ≤ l.length → (∀ x ∈ l.take k, p x = true) → (∀ x ∈ l.drop k, p x = false) → l.countP p = k := by
 intro l k hk h1 h2
 rw [← List.take_append_drop k l, List.countP_append, List.countP_eq_length.2 h1, List.countP_eq_zero.2 (by simpa using h2)]
 simp [hk]
theorem Rise.lt {γ : Type} {l : List (Int × γ)} (h : Rise l) {i j : Nat} {x y : Int × γ} (hx : l[i]? = some x) (hy : l[j]? = some y) (hij : i < j) : x.1 < y.1 := by
 obtain ⟨h1, e1⟩ := List.getElem?_eq_some_iff.1 hx
 obtain ⟨h2, e2⟩ := List.getElem?_eq_some_iff.1 hy
 have := List.pairwise_iff_getElem.1 h i j h1 h2 hij
 rw [e1, e2] at this; exact this
structure FindP {γ : Type} (l : List (Int × γ)) (i : Int) (k : Nat) (b : Bool) : Prop where
 pos : k = posD l i
 le : k ≤ l.length
 get : b = true → ∃ x, l[k]? = some (i, x) ∧ getD l i = some x
 no : b = false → getD l i = none
theorem FindP.of {γ : Type} {l : List (Int × γ)} {i : Int} {k : Nat} (hr : Rise l) (hk : k ≤ l.length) (h1 : ∀ j x, j < k → l[j]? = some x → x.1 < i) (h2 : ∀ j x, k ≤ j → l[j]? = some x → ¬ x.1 < i) {b : Bool} (hb : b = true ↔ ∃ x, l[k]? = some x ∧ x.1 = i) : FindP l i k b := by
 have hpos : posD l i = k := by
  unfold posD
  refine countP_cut hk (fun x hx => ?_) (fun x hx => ?_)
  ·obtain ⟨j, hj⟩ := List.mem_iff_getElem?.1 hx
   rw [List.getElem?_take] at hj
   split at hj
   ·exact decide_eq_true (h1 j x (by assumption) hj)
   ·cases hj
  ·obtain ⟨j, hj⟩ := List.mem_iff_getElem?.1 hx
   rw [List.getElem?_drop] at hj
   exact decide_eq_false (h2 (k + j) x (by omega) hj)
 refine ⟨hpos.symm, hk, fun e => ?_, fun e => ?_⟩
 ·obtain ⟨⟨a, x⟩, hx, rfl⟩ := hb.1 e
  refine ⟨x, hx, ?_⟩
  obtain ⟨hkl, hke⟩ := List.getElem?_eq_some_iff.1 hx
  unfold HQ.getD
  rw [← List.take_append_drop k l, List.find?_append]
  have : (l.take k).find? (fun y => decide (y.1 = a)) = none := by
   rw [List.find?_eq_none]; intro y hy
   obtain ⟨j, hj⟩ := List.mem_iff_getElem?.1 hy
   rw [List.getElem?_take] at hj
   split at hj
   ·have := h1 j y (by assumption) hj; simp only at this; simp; omega
   ·cases hj
  rw [this, List.drop_eq_getElem_cons hkl, hke, List.find?_cons_of_pos (by simp)]; rfl
 ·unfold HQ.getD
  rw [Option.map_eq_none_iff, List.find?_eq_none]
  intro y hy
  obtain ⟨j, hj⟩ := List.mem_iff_getElem?.1 hy
  simp only [decide_eq_true_eq]
  intro hy2
  rcases Nat.lt_trichotomy j k with g | rfl | g
  ·have := h1 j y g hj; omega
  ·rw [hb.2 ⟨y, hj, hy2⟩] at e; cases e
  ·obtain ⟨z, hz⟩ : ∃ z, l[k]? = some z := ⟨_, List.getElem?_eq_getElem (by have := (List.getElem?_eq_some_iff.1 hj).1; omega)⟩
   have g1 := hr.lt hz hj g
   have g2 := h2 k z (Nat.le_refl _) hz
   omega
def DrS (sz : Nat) (s : Sl) : Prop := s = ⟨none, 0, 0, none⟩ ∨ (s.cap = s.len ∧ s.opn = some sz)
def rDraft {γ : Type} (E : Nat) (f : Int × γ → List HV) (sz : Nat) (p : Nat) (l : List (Int × γ)) : HP := fun h => ∃ s, DrS sz s ∧ Al [own rC p [.sl s], own (rRt (some (E, none)) f sz) s l] h
instance {γ : Type} {E : Nat} {f : Int × γ → List HV} {sz p : Nat} {l : List (Int × γ)} : Opn (rDraft E f sz) p l Sl (fun s => DrS sz s) (fun s F => own rC p [.sl s] :: own (rRt (some (E, none)) f sz) s l :: F) :=
 ⟨fun _ => Iff.rfl, fun _ _ => rfl⟩
section
variable {H0 H : Heap} {P F F' : List HP} {γ : Type} {f : γ → List HV} {sz : Nat} {s : Sl} {l : List γ}
theorem Ho.ne {τ : Option (Nat × Option Nat)} {b c : Nat} {cs ds : List HV} (h : Ho H0 H (own (HQ.rCt τ) b cs :: F)) [fv : Fnd F HQ.rC c ds F'] : b ≠ c := by
 obtain ⟨k, m, ⟨a, r, h1, rfl, ⟨t, _, rfl⟩, h4⟩, h2⟩ := h
 obtain ⟨a2, r2, d2, e2, ⟨t2, q2⟩, _⟩ := h4.perm fv.p
 subst e2; subst q2
 intro e
 subst e
 rcases h1 b with g | g
 ·unfold Pc.one at g; rw [if_pos rfl] at g; cases g
 ·rw [Pc.un_none] at g
  have := g.1
  unfold Pc.one at this; rw [if_pos rfl] at this; cases this
theorem insT_v {Q : HV → List HP → Prop} {E by_ k vb : Nat} {x : γ} [fd : FndR P s (some (E, none)) γ f sz l F] [fv : Fnd F rC vb (f x) F'] (hd : DrS sz s) (hk : k ≤ l.length) (hx : (f x).length = sz) (h1 : (l.length + 1) * by_ ≤ room) (h2 : l.length + 1 ≤ room)
  (h : ∀ s', DrS sz s' → Q (.sl s') (own (rRt (some (E, none)) f sz) s' (l.take k ++ x :: l.drop k) :: F)) : Wp H0 P (insT E sz by_ [.sl s, I k, .sl ⟨some (vb, 0), 1, 1, none⟩]) Q := fun H hH => by
 have hH := hH.perm fd.p
 have q := hH.rRf
 have hlen := q.len
 have hroom : room = 140737488355328 := rfl
 have hvb := (hH.tail.perm fv.p).rC.2.2
 have hszs : ∀ y ∈ l.take k ++ x :: l.drop k, (f y).length = sz := fun y hy => by
  rcases List.mem_append.1 hy with hy | hy
  ·exact q.szs y (List.mem_of_mem_take hy)
  ·rcases List.mem_cons.1 hy with rfl | hy
   ·exact hx
   ·exact q.szs y (List.mem_of_mem_drop hy)
 have hnl : (l.take k ++ x :: l.drop k).length = l.length + 1 := by simp; omega
 have hnf : ((l.take k ++ x :: l.drop k).map f).flatten = ((l.take k).map f).flatten ++ f x ++ ((l.drop k).map f).flatten := by simp
 have hof : ((l.map f).flatten) = ((l.take k).map f).flatten ++ ((l.drop k).map f).flatten := by rw [← List.flatten_append, ← List.map_append, List.take_append_drop]
 have htl : (((l.take k).map f).flatten).length = k * sz := by rw [flat_len (fun y hy => q.szs y (List.mem_of_mem_take hy)), List.length_take, Nat.min_eq_left hk]
 have ht : ((l.map f).flatten).take (k * sz) = ((l.take k).map f).flatten := by rw [hof, ← htl, List.take_left]
 have hdr : ((l.map f).flatten).drop (k * sz) = ((l.drop k).map f).flatten := by rw [hof, ← htl, List.drop_left]
 -- behind the new block
 have fin : ∀ {H1 : Heap}, Ho H0 H1 F → wp (HQ.nwT (E, none) (((l.take k ++ x :: l.drop k).map f).flatten) fun b' => HQ.ret (.sl ⟨some (b', 0), l.length + 1, l.length + 1, some sz⟩)) (fun a H' => ∃ P', Q a P' ∧ Ho H0 H' P') H1 := by
  intro H1 ho
  refine wp_nwT' (wp_ret ⟨_, h _ (.inr ⟨rfl, rfl⟩), ?_⟩)
  have := ho.new (A := own (HQ.rCt (some (E, none))) H1.n (((l.take k ++ x :: l.drop k).map f).flatten)) (some (E, none)) (.cells (((l.take k ++ x :: l.drop k).map f).flatten) false) ⟨some (E, none), fun _ e => e, rfl⟩
  refine Ho.rRo (ext := []) ⟨hszs, q.pos, by simp [hnl], Nat.le_refl _, by simp only; omega⟩ rfl (.inr rfl) ?_ (by rw [List.append_nil]; exact this)
  rw [List.append_nil, flat_len hszs, hnl]
 unfold insT
 refine wp_uL (wp_uI (wp_uL (wp_nl (wp_gd ?_ ?_))))
 ·have : s.len ≤ s.cap := q.cap
  simp [hlen, h1, h2]; omega
 simp only
 refine wp_ldGN hvb (by rw [hx]; omega) ?_
 rw [List.drop_zero, ← hx, List.take_length, hx]
 rcases hH.rRb with ⟨rfl, rfl⟩ | ⟨b, ext, g1, g2, g3, g4⟩
 ·simp only
  refine wp_gd (by simp) ?_
  have := fin hH.tail
  have hk0 : k = 0 := by simpa using hk
  subst hk0
  simpa using this
 ·rcases hd with rfl | ⟨d1, d2⟩
  ·cases g1
  have hne := g4.ne (fv := fv)
  have hext : ext = [] := by
   rw [d1, hlen, List.length_append, flat_len q.szs] at g3
   exact List.eq_nil_of_length_eq_zero (by omega)
  subst hext
  rw [List.append_nil] at g4
  rw [g1]
  simp only
  have hbq : Nat.beq vb b = false := by
   cases e : Nat.beq vb b with
   | false => rfl
   | true => exact absurd (Nat.eq_of_beq_eq_true e).symm hne
  refine wp_gd (by simp [d2, hbq]) ?_
  have hget := g4.rCt
  have hty := g4.rCt_ty
  have hdead : Ho H0 (H.set b .dead) F := (g4.one (B := fun h => ∃ t, h = Pc.one b (.dead, t)) (fun _ ⟨t, _, e⟩ => ⟨t, e⟩) .dead (fun t => ⟨t, rfl⟩)).tail
  refine wp_of (H' := H.set b .dead) (m' := HQ.nwT (E, none) (((l.take k ++ x :: l.drop k).map f).flatten) fun b' => HQ.ret (.sl ⟨some (b', 0), l.length + 1, l.length + 1, some sz⟩)) (fun n => ?_) (fin hdead)
  unfold insK
  simp only [hget, hty]
  have e2 : decide ((l.map f).flatten.length = s.len * sz) = true := by simp [flat_len q.szs, hlen]
  rw [e2]
  simp only [decide_true, Bool.and_self, Bool.not_false, gd]
  have hkk : ((k : Nat) : Int).toNat = k := by simp
  rw [hkk, ht, hdr, hnf, hlen]
end
section
variable {H0 : Heap} {P F : List HP} {Q : HV → List HP → Prop} [Sea] {n : Nat}
theorem bs_int_v {τ : Option (Nat × Option Nat)} {s : Sl} {l : List (Int × Int)} {i : Int} [fd : FndR P s τ (Int × Int) clC 2 l F] (hc : lkA Sea.cl n_draft_by_int = some f_draft_by_int) (hr : Rise l) (hl : l.length ≤ 1000000) (h : ∀ k b, FindP l i k b → Q (.tup [I k, .bool b]) P) :
  Wp H0 P (f_slices_BinarySearchFunc_draft_entry_int_draft_entry_int_int (lv (n + 1)) [.sl s, I i, .func n_draft_by_int [] []]) Q := by
 refine Wp.row (s := s) fun hs => ?_
 have hlen : s.len = l.length := hs.len
 unfold f_slices_BinarySearchFunc_draft_entry_int_draft_entry_int_int
 refine go ?_
 refine Wp.blk (Wp.loop (fun k vs P' => ∃ lo hi : Nat, vs = [I lo, I hi] ∧ lo ≤ hi ∧ hi ≤ l.length ∧ k = hi - lo ∧ (∀ j x, j < lo → l[j]? = some x → x.1 < i) ∧ (∀ j x, hi ≤ j → l[j]? = some x → ¬ x.1 < i) ∧ P' = P) l.length
  ⟨0, l.length, by rw [hlen]; rfl, by omega, by omega, by omega, (fun j x hj _ => by omega), (fun j x hj hx => by rw [List.getElem?_eq_none hj] at hx; cases hx), rfl⟩ ?_)
 rintro k vs P' ⟨lo, hi, rfl, h1, h2, rfl, h3, h4, rfl⟩
 refine go ⟨fun c => ?_, fun c => ?_⟩
 ·have hm : (lo + hi) / 2 < l.length := by omega
  have hx : l[(lo + hi) / 2]? = some l[(lo + hi) / 2] := List.getElem?_eq_getElem hm
  generalize l[(lo + hi) / 2] = e at hx
  have hmid : wr (Int.fdiv (IntKind.wrap .u64 (wr ((lo : Int) + (hi : Int)))) (2 ^ 1)) = ((lo + hi) / 2 : Nat) := mid_eq (by omega)
  rw [hmid]
  refine Wp.ixN rfl hx fun _ _ => ?_
  have low : e.1 < i → ∀ (j : Nat) (x : Int × Int), j < (lo + hi) / 2 + 1 → l[j]? = some x → x.1 < i := fun he j x hj hjx => by
   rcases Nat.lt_or_ge j ((lo + hi) / 2) with g | g
   ·have := hr.lt hjx hx g; omega
   ·have : j = (lo + hi) / 2 := by omega
    subst this; rw [hx] at hjx; cases hjx; exact he
  have hig : ¬ e.1 < i → ∀ (j : Nat) (x : Int × Int), (lo + hi) / 2 ≤ j → l[j]? = some x → ¬ x.1 < i := fun he j x hj hjx => by
   rcases Nat.lt_or_ge ((lo + hi) / 2) j with g | g
   ·have := hr.lt hx hjx g; omega
   ·have : j = (lo + hi) / 2 := by omega
    subst this; rw [hx] at hjx; cases hjx; exact he
  have hw : wr ((((lo + hi) / 2 : Nat) : Int) + 1) = (((lo + hi) / 2 + 1 : Nat) : Int) := by rw [wr_small (by omega) (by omega)]; omega
  refine go ?_
  rw [lv_succ]
  refine Wp.clo hc ?_
  show Wp H0 _ (f_draft_by_int (lv n) [.agg (clC e), I i]) _
  unfold f_draft_by_int
  refine go ⟨fun g => ?_, fun g => ⟨fun g2 => ?_, fun g2 => ?_⟩⟩
  ·refine go ⟨fun _ => ?_, fun g3 => by omega⟩
   rw [hw]
   exact ⟨_, by omega, (lo + hi) / 2 + 1, hi, rfl, by omega, h2, rfl, low g, h4, rfl⟩
  ·refine go ⟨fun g3 => by omega, fun _ => ?_⟩
   exact ⟨_, by omega, lo, (lo + hi) / 2, rfl, by omega, by omega, rfl, h3, hig g, rfl⟩
  ·refine go ⟨fun g3 => by omega, fun _ => ?_⟩
   exact ⟨_, by omega, lo, (lo + hi) / 2, rfl, by omega, by omega, rfl, h3, hig g, rfl⟩
 ·have : lo = hi := by omega
  subst this
  rw [hlen]
  refine ⟨fun c2 => ?_, fun c2 => ?_⟩
  ·have hlo : lo < l.length := by omega
   have hx : l[lo]? = some l[lo] := List.getElem?_eq_getElem hlo
   generalize l[lo] = e at hx
   refine Wp.ixN rfl hx fun _ _ => ?_
   have fin : ∀ (w : Int), (w = 0 ↔ e.1 = i) → FindP l i lo (w == 0) := fun w hw => by
    refine FindP.of hr h2 h3 h4 ?_
    simp only [beq_iff_eq]
    exact ⟨fun q => ⟨e, hx, hw.1 q⟩, fun ⟨x, q1, q2⟩ => by rw [hx] at q1; cases q1; exact hw.2 q2⟩
   refine go ?_
   rw [lv_succ]
   refine Wp.clo hc ?_
   show Wp H0 _ (f_draft_by_int (lv n) [.agg (clC e), I i]) _
   unfold f_draft_by_int
   refine go ⟨fun g => ?_, fun g => ⟨fun g2 => ?_, fun g2 => ?_⟩⟩
   ·exact go (h _ _ (fin (-1) (by omega)))
   ·exact go (h _ _ (fin 1 (by omega)))
   ·exact go (h _ _ (fin 0 (by omega)))
  ·refine h lo false (FindP.of hr h2 h3 h4 ⟨fun q => (by cases q), fun ⟨x, q1, q2⟩ => ?_⟩)
   rw [List.getElem?_eq_none (by omega)] at q1; cases q1
theorem draft_find_int_v {p : Nat} {l : List (Int × Int)} {i : Int} [fd : Fnd P (rDraft eDI clC 2) p l F] (hc : lkA Sea.cl n_draft_by_int = some f_draft_by_int) (hr : Rise l) (hl : l.length ≤ 1000000) (h : ∀ k b, FindP l i k b → Q (.tup [I k, .bool b]) P) :
  Wp H0 P (f_draft_Draft_int_find (lv (n + 1)) [.ptr (some (p, 0)), I i]) Q := by
 refine Wp.cl ?_
 unfold f_draft_Draft_int_find
 refine Wp.open (rDraft eDI clC 2) p fun s hs => ?_
 refine go (bs_int_v hc hr hl fun k b hk => ?_)
 refine go ?_
 exact ⟨_, h k b hk, .back (rDraft eDI clC 2) p (.fold s hs .refl)⟩
theorem draft_Get_int_v {p : Nat} {l : List (Int × Int)} {i : Int} [fd : Fnd P (rDraft eDI clC 2) p l F] (hc : lkA Sea.cl n_draft_by_int = some f_draft_by_int) (hr : Rise l) (hl : l.length ≤ 1000000)
  (h1 : ∀ x, getD l i = some x → Q (.tup [I x, .bool true]) P) (h2 : getD l i = none → Q (.tup [I 0, .bool false]) P) :
  Wp H0 P (f_draft_Draft_int_Get (lv (n + 1)) [.ptr (some (p, 0)), I i]) Q := by
 refine Wp.cl ?_
 unfold f_draft_Draft_int_Get
 refine go (draft_find_int_v hc hr hl fun k b hk => ?_)
 cases b with
 | false => exact go ⟨_, h2 (hk.no rfl), .refl⟩
 | true =>
  obtain ⟨x, q1, q2⟩ := hk.get rfl
  refine Wp.open (rDraft eDI clC 2) p fun s hs => ?_
  refine go ?_
  refine Wp.ixC (x := (i, x)) (v := I x) rfl q1 rfl fun _ _ => ?_
  refine go ?_
  exact ⟨_, h1 x q2, .back (rDraft eDI clC 2) p (.fold s hs .refl)⟩
theorem draft_Put_int_v {p : Nat} {l : List (Int × Int)} {i : Int} {x : Int} [fd : Fnd P (rDraft eDI clC 2) p l F] (hc : lkA Sea.cl n_draft_by_int = some f_draft_by_int) (hr : Rise l) (hl : l.length ≤ 1000000)
  (h : Q (.bool true) (own (rDraft eDI clC 2) p (putD l i x) :: F)) :
  Wp H0 P (f_draft_Draft_int_Put (lv (n + 1)) [.ptr (some (p, 0)), I i, I x]) Q := by
 refine Wp.cl ?_
 unfold f_draft_Draft_int_Put
 have hroom : room = 140737488355328 := rfl
 refine go (draft_find_int_v hc hr hl fun k b hk => ?_)
 have hkl := hk.le
 cases b with
 | true =>
  obtain ⟨y, q1, q2⟩ := hk.get rfl
  have e : putD l i x = l.set k (i, x) := by unfold putD; rw [q2, ← hk.pos]
  rw [e] at h
  refine Wp.open (rDraft eDI clC 2) p fun s hs => ?_
  refine go ?_
  refine Wp.ixSt (x' := (i, x)) rfl q1 (by decide) rfl rfl ?_
  refine go ?_
  exact ⟨_, h, .fold s hs (.cons rfl (.cons rfl .refl))⟩
 | false =>
  have e : putD l i x = l.take k ++ (i, x) :: l.drop k := by unfold putD; rw [hk.no rfl, ← hk.pos]
  rw [e] at h
  refine Wp.open (rDraft eDI clC 2) p fun s hs => ?_
  refine go fun vb => ?_
  unfold f_slices_Insert_draft_entry_int_draft_entry_int
  refine insT_v (s := s) (x := (i, x)) (vb := vb) hs hkl rfl (by omega) (by omega) fun s' hs' => ?_
  refine go ?_
  exact ⟨_, h, .fold s' hs' (.cons rfl (.cons rfl (Ent.weak .refl)))⟩
theorem bs_file_File_v {τ : Option (Nat × Option Nat)} {s : Sl} {l : List (Int × Fl)} {i : Int} [fd : FndR P s τ (Int × Fl) dfC 3 l F] (hc : lkA Sea.cl n_draft_by_file_File = some f_draft_by_file_File) (hr : Rise l) (hl : l.length ≤ 1000000) (h : ∀ k b, FindP l i k b → Q (.tup [I k, .bool b]) P) :
  Wp H0 P (f_slices_BinarySearchFunc_draft_entry_file_File_draft_entry_file_File_int (lv (n + 1)) [.sl s, I i, .func n_draft_by_file_File [] []]) Q := by
 refine Wp.row (s := s) fun hs => ?_
 have hlen : s.len = l.length := hs.len
 unfold f_slices_BinarySearchFunc_draft_entry_file_File_draft_entry_file_File_int
 refine go ?_
 refine Wp.blk (Wp.loop (fun k vs P' => ∃ lo hi : Nat, vs = [I lo, I hi] ∧ lo ≤ hi ∧ hi ≤ l.length ∧ k = hi - lo ∧ (∀ j x, j < lo → l[j]? = some x → x.1 < i) ∧ (∀ j x, hi ≤ j → l[j]? = some x → ¬ x.1 < i) ∧ P' = P) l.length
  ⟨0, l.length, by rw [hlen]; rfl, by omega, by omega, by omega, (fun j x hj _ => by omega), (fun j x hj hx => by rw [List.getElem?_eq_none hj] at hx; cases hx), rfl⟩ ?_)
 rintro k vs P' ⟨lo, hi, rfl, h1, h2, rfl, h3, h4, rfl⟩
 refine go ⟨fun c => ?_, fun c => ?_⟩
 ·have hm : (lo + hi) / 2 < l.length := by omega
  have hx : l[(lo + hi) / 2]? = some l[(lo + hi) / 2] := List.getElem?_eq_getElem hm
  generalize l[(lo + hi) / 2] = e at hx
  have hmid : wr (Int.fdiv (IntKind.wrap .u64 (wr ((lo : Int) + (hi : Int)))) (2 ^ 1)) = ((lo + hi) / 2 : Nat) := mid_eq (by omega)
  rw [hmid]
  refine Wp.ixN rfl hx fun _ _ => ?_
  have low : e.1 < i → ∀ (j : Nat) (x : Int × Fl), j < (lo + hi) / 2 + 1 → l[j]? = some x → x.1 < i := fun he j x hj hjx => by
   rcases Nat.lt_or_ge j ((lo + hi) / 2) with g | g
   ·have := hr.lt hjx hx g; omega
   ·have : j = (lo + hi) / 2 := by omega
    subst this; rw [hx] at hjx; cases hjx; exact he
  have hig : ¬ e.1 < i → ∀ (j : Nat) (x : Int × Fl), (lo + hi) / 2 ≤ j → l[j]? = some x → ¬ x.1 < i := fun he j x hj hjx => by
   rcases Nat.lt_or_ge ((lo + hi) / 2) j with g | g
   ·have := hr.lt hx hjx g; omega
   ·have : j = (lo + hi) / 2 := by omega
    subst this; rw [hx] at hjx; cases hjx; exact he
  have hw : wr ((((lo + hi) / 2 : Nat) : Int) + 1) = (((lo + hi) / 2 + 1 : Nat) : Int) := by rw [wr_small (by omega) (by omega)]; omega
  refine go ?_
  rw [lv_succ]
  refine Wp.clo hc ?_
  show Wp H0 _ (f_draft_by_file_File (lv n) [.agg (dfC e), I i]) _
  unfold f_draft_by_file_File
  refine go ⟨fun g => ?_, fun g => ⟨fun g2 => ?_, fun g2 => ?_⟩⟩
  ·refine go ⟨fun _ => ?_, fun g3 => by omega⟩
   rw [hw]
   exact ⟨_, by omega, (lo + hi) / 2 + 1, hi, rfl, by omega, h2, rfl, low g, h4, rfl⟩
  ·refine go ⟨fun g3 => by omega, fun _ => ?_⟩
   exact ⟨_, by omega, lo, (lo + hi) / 2, rfl, by omega, by omega, rfl, h3, hig g, rfl⟩
  ·refine go ⟨fun g3 => by omega, fun _ => ?_⟩
   exact ⟨_, by omega, lo, (lo + hi) / 2, rfl, by omega, by omega, rfl, h3, hig g, rfl⟩
 ·have : lo = hi := by omega
  subst this
  rw [hlen]
  refine ⟨fun c2 => ?_, fun c2 => ?_⟩
  ·have hlo : lo < l.length := by omega
   have hx : l[lo]? = some l[lo] := List.getElem?_eq_getElem hlo
   generalize l[lo] = e at hx
   refine Wp.ixN rfl hx fun _ _ => ?_
   have fin : ∀ (w : Int), (w = 0 ↔ e.1 = i) → FindP l i lo (w == 0) := fun w hw => by
    refine FindP.of hr h2 h3 h4 ?_
    simp only [beq_iff_eq]
    exact ⟨fun q => ⟨e, hx, hw.1 q⟩, fun ⟨x, q1, q2⟩ => by rw [hx] at q1; cases q1; exact hw.2 q2⟩
   refine go ?_
   rw [lv_succ]
   refine Wp.clo hc ?_
   show Wp H0 _ (f_draft_by_file_File (lv n) [.agg (dfC e), I i]) _
   unfold f_draft_by_file_File
   refine go ⟨fun g => ?_, fun g => ⟨fun g2 => ?_, fun g2 => ?_⟩⟩
   ·exact go (h _ _ (fin (-1) (by omega)))
   ·exact go (h _ _ (fin 1 (by omega)))
   ·exact go (h _ _ (fin 0 (by omega)))
  ·refine h lo false (FindP.of hr h2 h3 h4 ⟨fun q => (by cases q), fun ⟨x, q1, q2⟩ => ?_⟩)
   rw [List.getElem?_eq_none (by omega)] at q1; cases q1
theorem draft_find_file_File_v {p : Nat} {l : List (Int × Fl)} {i : Int} [fd : Fnd P (rDraft eDF dfC 3) p l F] (hc : lkA Sea.cl n_draft_by_file_File = some f_draft_by_file_File) (hr : Rise l) (hl : l.length ≤ 1000000) (h : ∀ k b, FindP l i k b → Q (.tup [I k, .bool b]) P) :
  Wp H0 P (f_draft_Draft_file_File_find (lv (n + 1)) [.ptr (some (p, 0)), I i]) Q := by
 refine Wp.cl ?_
 unfold f_draft_Draft_file_File_find
 refine Wp.open (rDraft eDF dfC 3) p fun s hs => ?_
 refine go (bs_file_File_v hc hr hl fun k b hk => ?_)
 refine go ?_
 exact ⟨_, h k b hk, .back (rDraft eDF dfC 3) p (.fold s hs .refl)⟩
theorem draft_Get_file_File_v {p : Nat} {l : List (Int × Fl)} {i : Int} [fd : Fnd P (rDraft eDF dfC 3) p l F] (hc : lkA Sea.cl n_draft_by_file_File = some f_draft_by_file_File) (hr : Rise l) (hl : l.length ≤ 1000000)
  (h1 : ∀ x, getD l i = some x → Q (.tup [.agg [.bool x.1, .str (S x.2)], .bool true]) P) (h2 : getD l i = none → Q (.tup [.agg [.bool false, .str (S [])], .bool false]) P) :
  Wp H0 P (f_draft_Draft_file_File_Get (lv (n + 1)) [.ptr (some (p, 0)), I i]) Q := by
 refine Wp.cl ?_
 unfold f_draft_Draft_file_File_Get
 refine go (draft_find_file_File_v hc hr hl fun k b hk => ?_)
 cases b with
 | false => exact go ⟨_, h2 (hk.no rfl), .refl⟩
 | true =>
  obtain ⟨x, q1, q2⟩ := hk.get rfl
  refine Wp.open (rDraft eDF dfC 3) p fun s hs => ?_
  refine go ?_
  refine Wp.ixNk (x := (i, x)) (vs := [.bool x.1, .str (S x.2)]) rfl q1 rfl (by decide) fun _ _ => ?_
  refine go ?_
  exact ⟨_, h1 x q2, .back (rDraft eDF dfC 3) p (.fold s hs .refl)⟩
theorem draft_Put_file_File_v {p : Nat} {l : List (Int × Fl)} {i : Int} {x : Fl} [fd : Fnd P (rDraft eDF dfC 3) p l F] (hc : lkA Sea.cl n_draft_by_file_File = some f_draft_by_file_File) (hr : Rise l) (hl : l.length ≤ 1000000)
  (h : Q (.bool true) (own (rDraft eDF dfC 3) p (putD l i x) :: F)) :
  Wp H0 P (f_draft_Draft_file_File_Put (lv (n + 1)) [.ptr (some (p, 0)), I i, .agg [.bool x.1, .str (S x.2)]]) Q := by
 refine Wp.cl ?_
 unfold f_draft_Draft_file_File_Put
 have hroom : room = 140737488355328 := rfl
 refine go (draft_find_file_File_v hc hr hl fun k b hk => ?_)
 have hkl := hk.le
 cases b with
 | true =>
  obtain ⟨y, q1, q2⟩ := hk.get rfl
  have e : putD l i x = l.set k (i, x) := by unfold putD; rw [q2, ← hk.pos]
  rw [e] at h
  refine Wp.open (rDraft eDF dfC 3) p fun s hs => ?_
  refine go ?_
  refine Wp.ixStNk (x' := (i, x)) rfl q1 (by simp) rfl ?_
  refine go ?_
  exact ⟨_, h, .fold s hs (.cons rfl (.cons rfl .refl))⟩
 | false =>
  have e : putD l i x = l.take k ++ (i, x) :: l.drop k := by unfold putD; rw [hk.no rfl, ← hk.pos]
  rw [e] at h
  refine Wp.open (rDraft eDF dfC 3) p fun s hs => ?_
  refine go fun h0 w0 h1 w1 h2 w2 h3 w3 h4 w4 h5 w5 h6 w6 h7 w7 h8 w8 h9 w9 vb h10 w10 => ?_
  unfold f_slices_Insert_draft_entry_file_File_draft_entry_file_File
  refine insT_v (s := s) (x := (i, x)) (vb := vb) hs hkl rfl (by omega) (by omega) fun s' hs' => ?_
  refine go fun h11 w11 => ⟨⟨⟨Was.eq w11 w10, Was.eq w10 w9, Was.eq w9 w8, Was.eq w8 w7, Was.eq w7 w6, Was.eq w6 w5, Was.eq w5 w4, Was.eq w4 w3, Was.eq w3 w2, Was.eq w2 w1, Was.eq w1 w0, trivial⟩, trivial⟩, ?_⟩
  exact ⟨_, h, .fold s' hs' (.cons rfl (.cons rfl (Ent.weak .refl)))⟩
end
abbrev byC (x : UInt8) : List HV := [.int .u8 (x.toNat : Int)]
theorem bytesHV_S (l : List UInt8) : bytesHV (S l) = (l.map byC).flatten := by
 unfold bytesHV
 induction l with
 | nil => rfl
 | cons a l ih => simp_all
theorem bytesH_S : ∀ (l : List UInt8), bytesH ((l.map byC).flatten) = some (l.map fun x => (x.toNat : Int))
 | [] => rfl
 | a :: l => by
  have := bytesH_S l
  simp only [List.map_cons, List.flatten_cons, List.cons_append, List.nil_append, bytesH, this]
theorem strB_S (l : List UInt8) : strB (l.map fun x => (x.toNat : Int)) = S l := by
 unfold strB
 have key : ∀ (l k : List UInt8), (l.map fun x => (x.toNat : Int)).foldl (fun (r : ByteArray) n => r.push (UInt8.ofNat n.toNat)) (S k) = S (k ++ l) := by
  intro l
  induction l with
  | nil => intro k; simp
  | cons a l ih =>
   intro k
   simp only [List.map_cons, List.foldl_cons]
   have e : (S k).push (UInt8.ofNat ((a.toNat : Int)).toNat) = S (k ++ [a]) := by
    apply ByteArray.ext
    simp [ByteArray.push]
   rw [e, ih]; simp
 have := key l []
 simp only [List.nil_append] at this
 exact this
theorem strM_S {α : Type} {l : List UInt8} {g : ByteArray → M α} : strM ((l.map byC).flatten) g = g (S l) := by
 unfold strM; rw [bytesH_S]; simp only; rw [strB_S]
section
variable {D : DD} {H0 : Heap} {P F : List HP} {Q : HV → List HP → Prop}
theorem file_Make_v {f : Fl} (h : Q (.agg [.bool true, .str (S f.2)]) P) : Wp H0 P (f_file_Make D [.agg [.bool f.1, .str (S f.2)]]) Q := by
 unfold f_file_Make
 exact go h
theorem file_At_v {f : Fl} {i : Int} (h : Q (I (atL f.2 i)) P) : Wp H0 P (f_file_At D [.agg [.bool f.1, .str (S f.2)], I i]) Q := by
 unfold f_file_At
 have e1 := S_size f.2
 have no : i < 0 ∨ (f.2.length : Int) ≤ i → Q (I (-1)) P := fun c => by
  have : atL f.2 i = -1 := by unfold atL; rw [if_pos c]
  rw [this] at h; exact h
 refine go ⟨fun c => no (.inl c), fun c => ⟨fun c2 => no (.inr (by omega)), fun c2 => ⟨by omega, by omega, ?_⟩⟩⟩
 rw [atL_byte (by omega)]; exact h
theorem file_Put_v {f : Fl} {i : Int} {b : UInt8} (hi : f.2.length ≤ 1000000) (h : Q (.agg [.bool (putB f i b).1, .str (S (putB f i b).2)]) P) : Wp H0 P (f_file_Put D [.agg [.bool f.1, .str (S f.2)], I i, .int .u8 (b.toNat : Int)]) Q := by
 refine Wp.cl ?_
 unfold f_file_Put
 have hroom : room = 140737488355328 := rfl
 have out : i < 0 ∨ 32 ≤ i → Q (.agg [.bool f.1, .str (S f.2)]) P := fun c => by
  have : putB f i b = f := by unfold putB; rw [if_pos c]
  rw [this] at h; exact h
 refine go ⟨fun c => ⟨_, out (.inl c), .refl⟩, fun c => ⟨fun c2 => ⟨_, out (.inr c2), .refl⟩, fun c2 b17 => ?_⟩⟩
 have e : putB f i b = (true, (f.2 ++ List.replicate (i.toNat + 1 - f.2.length) 0).set i.toNat b) := by unfold putB; rw [if_neg (by omega)]
 rw [e] at h
 refine Wp.blk (Wp.loop (fun k vs P' => ∃ (s : Sl) (m : Nat), vs = [.sl s] ∧ m ≤ i.toNat + 1 - f.2.length ∧ k = i.toNat + 1 - f.2.length - m ∧ Ent P' (own (rR byC 1) s (f.2 ++ List.replicate m 0) :: P)) (i.toNat + 1 - f.2.length)
  ⟨_, 0, rfl, by omega, by omega, ?_⟩ ?_)
 ·have := Ent.rowT (P := own rT b17 ((5, none), bytesHV (S f.2)) :: P) (b := b17) (f := byC) (sz := 1) (xs := f.2) (o := some 1) (bytesHV_S f.2) (fun _ _ => rfl) (by decide) (by omega) (.inr rfl)
  have h2 := this.trans Ent.forget
  simp only [List.replicate_zero, List.append_nil]
  rw [S_size]
  exact h2
 ·rintro k vs P' ⟨s, m, rfl, hm, rfl, he⟩
  refine Wp.ent he ?_
  refine Wp.row (s := s) fun hs => ?_
  have hlen : s.len = f.2.length + m := by have := hs.len; simpa using this
  refine go ⟨fun c3 => ?_, fun c3 => ?_⟩
  ·refine Wp.apd (x := (0 : UInt8)) rfl rfl (by simp; omega) (by simp; omega) fun s' => ?_
   refine go ?_
   refine ⟨_, ?_, s', m + 1, rfl, by omega, rfl, ?_⟩
   ·omega
   ·rw [List.replicate_succ', ← List.append_assoc]; exact .refl
  ·have hmm : m = i.toNat + 1 - f.2.length := by omega
   subst hmm
   have hil : i.toNat < (f.2 ++ List.replicate (i.toNat + 1 - f.2.length) (0 : UInt8)).length := by simp; omega
   refine Wp.ixSt0 (j := i.toNat) (x' := b) (by omega) (List.getElem?_eq_getElem hil) (by decide) rfl rfl ?_
   refine Wp.rdS ?_
   refine go ⟨?_, ?_⟩
   ·have := hs.len
    rw [this, flat_len (sz := 1) (fun _ _ => rfl)]; simp
   ·rw [strM_S]
    refine go ?_
    exact ⟨_, h, Ent.weak .refl⟩
theorem repeatL_zero : ∀ (n : Nat), Lib.repeatL [0] n = List.replicate n (0 : UInt8)
 | 0 => rfl
 | n + 1 => by rw [Lib.repeatL, repeatL_zero n, List.replicate_succ]; rfl
theorem file_Cut_v {f : Fl} {i : Int} (hi : f.2.length ≤ 1000000) (h : Q (.agg [.bool (cutB f i).1, .str (S (cutB f i).2)]) P) : Wp H0 P (f_file_Cut D [.agg [.bool f.1, .str (S f.2)], I i]) Q := by
 unfold f_file_Cut
 have hs := S_size f.2
 have out : f.1 = false ∨ i < 0 ∨ 32 < i → Q (.agg [.bool f.1, .str (S f.2)]) P := fun c => by
  have : cutB f i = f := by unfold cutB; rw [if_pos c]
  rw [this] at h; exact h
 refine go ⟨fun c => out (.inl c), fun c => ⟨fun c2 => out (.inr (.inl c2)), fun c2 => ⟨fun c3 => out (.inr (.inr c3)), fun c3 => ⟨fun c4 => ⟨by omega, by omega, by omega, ?_⟩, fun c4 => ?_⟩⟩⟩⟩
 ·have e : cutB f i = (true, f.2.take i.toNat) := by
   unfold cutB; rw [if_neg (by simp [c]; omega), show i.toNat - f.2.length = 0 by omega]; simp
  rw [e] at h
  rw [S_ext]
  simpa using h
 ·have e : cutB f i = (true, f.2 ++ List.replicate (i.toNat - f.2.length) 0) := by
   unfold cutB; rw [if_neg (by simp [c]; omega), List.take_of_length_le (by omega)]
  rw [e] at h
  have hw : wr (i - ((S f.2).size : Int)) = i - f.2.length := by rw [hs, wr_small (by omega) (by omega)]
  rw [hw]
  unfold f_strings_Repeat
  refine go ⟨by simp [ByteArray.size]; omega, ?_⟩
  have er : (ByteArray.mk (Lib.repeatL (ByteArray.mk #[0]).data.toList (i - (f.2.length : Int)).toNat).toArray) = S (List.replicate (i.toNat - f.2.length) 0) := by
   show S (Lib.repeatL [0] _) = _
   rw [repeatL_zero, show (i - (f.2.length : Int)).toNat = i.toNat - f.2.length by omega]
  rw [er]
  refine go ⟨?_, ?_⟩
  ·have := S_size (List.replicate (i.toNat - f.2.length) (0 : UInt8)); simp at this; rw [hs, S_size]; simp; omega
  ·rw [S_app]; exact h
/-! sheets -/
end
def rSheet (p : Nat) (df : List (Int × Fl)) : HP := fun h => ∃ d, Al [own rC p [.ptr (some (d, 0))], own (rDraft eDF dfC 3) d df] h
instance {p : Nat} {df : List (Int × Fl)} : Opn rSheet p df Nat (fun _ => True) (fun d F => own rC p [.ptr (some (d, 0))] :: own (rDraft eDF dfC 3) d df :: F) :=
 ⟨fun _ => ⟨fun ⟨s, h⟩ => ⟨s, trivial, h⟩, fun ⟨s, _, h⟩ => ⟨s, h⟩⟩, fun _ _ => rfl⟩
structure DfOk {γ : Type} (l : List (Int × γ)) : Prop where
 r : Rise l
 i : ∀ e ∈ l, 0 ≤ e.1 ∧ e.1 < 8
theorem Rise.len {γ : Type} : ∀ {l : List (Int × γ)} {a b : Int}, Rise l → (∀ e ∈ l, a ≤ e.1 ∧ e.1 < b) → a ≤ b → (l.length : Int) ≤ b - a
 | [], a, b, _, _, hab => by simp; omega
 | x :: l, a, b, h, hi, hab => by
  obtain ⟨h1, h2⟩ := List.pairwise_cons.1 h
  have hx := hi x List.mem_cons_self
  have := Rise.len (l := l) (a := x.1 + 1) (b := b) h2 (fun e he => ⟨by have := h1 e he; omega, (hi e (List.mem_cons_of_mem _ he)).2⟩) (by omega)
  simp only [List.length_cons]; omega
theorem DfOk.le {γ : Type} {l : List (Int × γ)} (h : DfOk l) : l.length ≤ 8 := by
 have := h.r.len h.i (by decide); omega
theorem DfOk.n {γ : Type} {l : List (Int × γ)} (h : DfOk l) : l.length ≤ 1000000 := Nat.le_trans h.le (by decide)
theorem Rise.cut {γ : Type} : ∀ {l : List (Int × γ)} {i : Int}, Rise l → (∀ x ∈ l.take (posD l i), x.1 < i) ∧ (∀ x ∈ l.drop (posD l i), ¬ x.1 < i)
 | [], i, _ => by simp
 | x :: l, i, h => by
  obtain ⟨h1, h2⟩ := List.pairwise_cons.1 h
  obtain ⟨g1, g2⟩ := Rise.cut (i := i) h2
  by_cases hx : x.1 < i
  ·have e : posD (x :: l) i = posD l i + 1 := by unfold posD; rw [List.countP_cons_of_pos (by simpa using hx)]
   rw [e]
   refine ⟨fun y hy => ?_, g2⟩
   rw [List.take_succ_cons] at hy
   rcases List.mem_cons.1 hy with rfl | hy
   ·exact hx
   ·exact g1 y hy
  ·have hall : ∀ y ∈ x :: l, ¬ y.1 < i := fun y hy => by
    rcases List.mem_cons.1 hy with rfl | hy
    ·exact hx
    ·have := h1 y hy; omega
   have e : posD (x :: l) i = 0 := by unfold posD; rw [List.countP_eq_zero]; simpa using hall
   rw [e]
   exact ⟨by simp, fun y hy => hall y (by simpa using hy)⟩
theorem getD_none {γ : Type} {l : List (Int × γ)} {i : Int} (h : getD l i = none) : ∀ x ∈ l, x.1 ≠ i := by
 unfold HQ.getD at h
 rw [Option.map_eq_none_iff, List.find?_eq_none] at h
 intro x hx e
 have := h x hx
 simp [e] at this
theorem getD_some {γ : Type} {l : List (Int × γ)} {i : Int} {y : γ} (h : getD l i = some y) : (i, y) ∈ l := by
 unfold HQ.getD at h
 rw [Option.map_eq_some_iff] at h
 obtain ⟨⟨a, z⟩, h1, rfl⟩ := h
 have := List.find?_some h1
 simp at this
 subst this
 exact List.mem_of_find?_eq_some h1
theorem Rise.get {γ : Type} {l : List (Int × γ)} {i : Int} {y : γ} (h : Rise l) (hm : (i, y) ∈ l) : l[posD l i]? = some (i, y) := by
 obtain ⟨c1, c2⟩ := h.cut (i := i)
 obtain ⟨k, hk⟩ := List.mem_iff_getElem?.1 hm
 obtain ⟨hkl, hke⟩ := List.getElem?_eq_some_iff.1 hk
 have hge : posD l i ≤ k := by
  rcases Nat.lt_or_ge k (posD l i) with g | g
  ·have := c1 (i, y) (List.mem_iff_getElem?.2 ⟨k, by rw [List.getElem?_take, if_pos g]; exact hk⟩)
   simp at this
  ·exact g
 rcases Nat.lt_or_ge (posD l i) k with g | g
 ·have hp : posD l i < l.length := by omega
  have hq : l[posD l i]? = some l[posD l i] := List.getElem?_eq_getElem hp
  have g1 := h.lt hq hk g
  have g2 := c2 l[posD l i] (List.mem_iff_getElem?.2 ⟨0, by rw [List.getElem?_drop]; exact hq⟩)
  simp at g1; omega
 ·have : posD l i = k := by omega
  rw [this]; exact hk
theorem mem_putD {γ : Type} {l : List (Int × γ)} {i : Int} {x : γ} (h : Rise l) {e : Int × γ} : e ∈ putD l i x ↔ e = (i, x) ∨ (e ∈ l ∧ e.1 ≠ i) := by
 unfold putD
 cases hg : getD l i with
 | some y =>
  have hy := h.get (getD_some hg)
  obtain ⟨hl, he⟩ := List.getElem?_eq_some_iff.1 hy
  simp only
  rw [List.set_eq_take_append_cons_drop, if_pos hl]
  have hsplit : e ∈ l ↔ e ∈ l.take (posD l i) ∨ e = (i, y) ∨ e ∈ l.drop (posD l i + 1) := by
   conv => lhs; rw [← List.take_append_drop (posD l i) l, List.drop_eq_getElem_cons hl, he]
   simp [List.mem_append]
  obtain ⟨c1, c2⟩ := h.cut (i := i)
  simp only [List.mem_append, List.mem_cons]
  have k1 : e ∈ l.take (posD l i) → e.1 ≠ i := fun q => by have := c1 e q; omega
  have k2 : e ∈ l.drop (posD l i + 1) → e.1 ≠ i := fun q => by
   obtain ⟨j, hj⟩ := List.mem_iff_getElem?.1 q
   rw [List.getElem?_drop] at hj
   have := h.lt hy hj (by omega)
   simp at this; omega
  rw [hsplit]
  constructor
  ·rintro (q | rfl | q)
   ·exact .inr ⟨.inl q, k1 q⟩
   ·exact .inl rfl
   ·exact .inr ⟨.inr (.inr q), k2 q⟩
  ·rintro (rfl | ⟨q | rfl | q, hne⟩)
   ·exact .inr (.inl rfl)
   ·exact .inl q
   ·exact absurd rfl hne
   ·exact .inr (.inr q)
 | none =>
  have hn := getD_none hg
  simp only [List.mem_append, List.mem_cons]
  have hsplit : e ∈ l ↔ e ∈ l.take (posD l i) ∨ e ∈ l.drop (posD l i) := by
   rw [← List.mem_append, List.take_append_drop]
  rw [hsplit]
  constructor
  ·rintro (q | rfl | q)
   ·exact .inr ⟨.inl q, hn e (List.mem_of_mem_take q)⟩
   ·exact .inl rfl
   ·exact .inr ⟨.inr q, hn e (List.mem_of_mem_drop q)⟩
  ·rintro (rfl | ⟨q | q, _⟩)
   ·exact .inr (.inl rfl)
   ·exact .inl q
   ·exact .inr (.inr q)
theorem Rise.put {γ : Type} {l : List (Int × γ)} {i : Int} {x : γ} (h : Rise l) : Rise (putD l i x) := by
 obtain ⟨c1, c2⟩ := h.cut (i := i)
 unfold putD
 cases hg : getD l i with
 | some y =>
  have hy := h.get (getD_some hg)
  obtain ⟨hl, he⟩ := List.getElem?_eq_some_iff.1 hy
  have e : (l.set (posD l i) (i, x)).map Prod.fst = l.map Prod.fst := by
   rw [List.map_set]
   apply List.ext_getElem?
   intro j
   rw [List.getElem?_set]
   split
   ·rename_i hj
    subst hj
    rw [if_pos (by simpa using hl), List.getElem?_map, hy]; rfl
   ·rfl
  have h' : (l.map Prod.fst).Pairwise (· < ·) := List.pairwise_map.2 h
  rw [← e] at h'
  exact List.pairwise_map.1 h'
 | none =>
  have hn := getD_none hg
  refine List.pairwise_append.2 ⟨h.sublist (List.take_sublist _ _), List.pairwise_cons.2 ⟨fun y hy => ?_, h.sublist (List.drop_sublist _ _)⟩, fun a ha b hb => ?_⟩
  ·have g1 := c2 y hy
   have g2 := hn y (List.mem_of_mem_drop hy)
   simp only; omega
  ·have g1 := c1 a ha
   rcases List.mem_cons.1 hb with rfl | hb
   ·exact g1
   ·have := c2 b hb; omega
theorem DfOk.put {γ : Type} {l : List (Int × γ)} {i : Int} {x : γ} (h : DfOk l) (hi : 0 ≤ i ∧ i < 8) : DfOk (putD l i x) :=
 ⟨h.r.put, fun e he => by
  rcases (mem_putD h.r).1 he with rfl | ⟨q, _⟩
  ·exact hi
  ·exact h.i e q⟩
theorem DfOk.nil {γ : Type} : DfOk ([] : List (Int × γ)) := ⟨List.Pairwise.nil, by simp⟩
theorem DfOk.shP {fs : List (Fl × Int)} {df : List (Int × Fl)} {i : Int} {f : Fl} (h : DfOk df) (hi : 0 ≤ i ∧ i < 8) : DfOk (shP fs df i f) := by
 unfold HQ.shP
 split
 ·exact h
 ·exact h.put hi
theorem DfOk.shR {fs : List (Fl × Int)} {df : List (Int × Fl)} {i j : Int} (h : DfOk df) (hi : 0 ≤ i ∧ i < 8) (hj : 0 ≤ j ∧ j < 8) : DfOk (shR fs df i j) := by
 unfold HQ.shR
 split
 ·exact h
 ·exact (h.shP hj).shP hi
section
variable {H0 : Heap} {P F F' : List HP} {Q : HV → List HP → Prop} {D : DD}
theorem sheet_New_v (h : ∀ b, Q (.ptr (some (b, 0))) (own rSheet b [] :: P)) : Wp H0 P (f_sheet_New D []) Q := by
 refine Wp.cl ?_
 unfold f_sheet_New
 refine Wp.nilT (some (eDF, none)) dfC (sz := 3) (by decide) ?_
 refine go fun d b => ?_
 exact ⟨_, h b, .fold d trivial (.cons rfl (.fold _ (.inl rfl) .refl))⟩
variable [Sea] {n : Nat}
theorem sheet_Get_v {p t : Nat} {df : List (Int × Fl)} {fs : List (Fl × Int)} {i : Int} [fd : Fnd P rSheet p df F] [ft : Fnd F rTome t fs F'] (hc : lkA Sea.cl n_draft_by_file_File = some f_draft_by_file_File) (ok : DfOk df) (h0 : 0 ≤ i) (hi : i < fs.length)
  (h : Q (.tup [.agg [.bool (shG fs df i).1.1, .str (S (shG fs df i).1.2)], .bool (shG fs df i).2]) P) : Wp H0 P (f_sheet_Sheet_Get (lv (n + 1)) [.ptr (some (p, 0)), .ptr (some (t, 0)), I i]) Q := by
 refine Wp.cl ?_
 unfold f_sheet_Sheet_Get
 have hx : fs[i.toNat]? = some fs[i.toNat] := List.getElem?_eq_getElem (by omega)
 generalize fs[i.toNat] = x at hx
 refine Wp.ent (Ent.perm fd.p) ?_
 have back : ∀ d, Ent (own rC p [.ptr (some (d, 0))] :: own (rDraft eDF dfC 3) d df :: F) (own rSheet p df :: F) := fun d => .fold d trivial .refl
 have fin : Ent (own rSheet p df :: F) P := Ent.perm fd.p.symm
 refine Wp.open rSheet p fun d _ => ?_
 refine go ?_
 refine draft_Get_file_File_v hc ok.r ok.n (fun f hf => ?_) (fun hf => ?_)
 ·have e : shG fs df i = (f, true) := by unfold shG; rw [hf]
  rw [e] at h
  refine go ?_
  exact ⟨_, h, (back d).trans fin⟩
 ·have e : shG fs df i = (x.1, false) := by unfold shG; rw [hf, hx]; rfl
  rw [e] at h
  refine go ?_
  refine Wp.ent (back d) ?_
  refine tome_Get_v h0 hx ?_
  refine go ?_
  exact ⟨_, h, fin⟩
omit [Sea] in
theorem fl_eq {a b : Fl} : (cond (a.1 == b.1) (cond ((S a.2).toList == (S b.2).toList) true false) false) = true ↔ a = b := by
 obtain ⟨a1, a2⟩ := a
 obtain ⟨b1, b2⟩ := b
 simp only [toList_S]
 constructor
 ·intro h
  cases e1 : (a1 == b1) <;> rw [e1] at h
  ·cases h
  ·cases e2 : (a2 == b2) <;> rw [e2] at h
   ·cases h
   ·rw [beq_iff_eq.1 e1, beq_iff_eq.1 e2]
 ·intro h
  cases h
  simp
theorem sheet_put_v {p t : Nat} {df : List (Int × Fl)} {fs : List (Fl × Int)} {i : Int} {f : Fl} [fd : Fnd P rSheet p df F] [ft : Fnd F rTome t fs F'] (hc : lkA Sea.cl n_draft_by_file_File = some f_draft_by_file_File) (ok : DfOk df) (h0 : 0 ≤ i) (hi6 : i < 6) (hi : fs.length = 6)
  (h : Q (.bool true) (own rSheet p (shP fs df i f) :: F)) : Wp H0 P (f_sheet_Sheet_put (lv (n + 1)) [.ptr (some (p, 0)), .ptr (some (t, 0)), I i, .agg [.bool f.1, .str (S f.2)]]) Q := by
 refine Wp.cl ?_
 unfold f_sheet_Sheet_put
 refine go ⟨fun c => by omega, fun _ => ⟨fun c => by omega, fun _ => ?_⟩⟩
 refine sheet_Get_v hc ok h0 (by omega) ?_
 refine go ⟨fun c => ?_, fun c => ?_⟩
 ·have e : shP fs df i f = df := by unfold shP; rw [if_pos (fl_eq.1 c)]
  rw [e] at h
  exact ⟨_, h, .perm fd.p⟩
 ·have e : shP fs df i f = putD df i f := by unfold shP; rw [if_neg (fun q => by rw [fl_eq.2 q] at c; cases c)]
  rw [e] at h
  refine Wp.open rSheet p fun d _ => ?_
  refine go ?_
  refine draft_Put_file_File_v hc ok.r ok.n ?_
  refine go ?_
  exact ⟨_, h, .fold d trivial (.cons rfl (.cons rfl .refl))⟩
theorem sheet_Write_v {p t : Nat} {df : List (Int × Fl)} {fs : List (Fl × Int)} {i a : Int} {b : UInt8} [fd : Fnd P rSheet p df F] [ft : Fnd F rTome t fs F'] (hc : lkA Sea.cl n_draft_by_file_File = some f_draft_by_file_File) (ok : DfOk df) (h0 : 0 ≤ i) (hi6 : i < 6) (hi : fs.length = 6) (hl : (shG fs df i).1.2.length ≤ 1000000)
  (h : Q (.bool true) (own rSheet p (shP fs df i (putB (shG fs df i).1 a b)) :: F)) : Wp H0 P (f_sheet_Sheet_Write (lv (n + 1)) [.ptr (some (p, 0)), .ptr (some (t, 0)), I i, I a, .int .u8 (b.toNat : Int)]) Q := by
 unfold f_sheet_Sheet_Write
 refine go (sheet_Get_v hc ok h0 (by omega) ?_)
 refine go (file_Put_v hl ?_)
 refine go (sheet_put_v hc ok h0 hi6 hi ?_)
 exact go h
theorem sheet_Cut_v {p t : Nat} {df : List (Int × Fl)} {fs : List (Fl × Int)} {i a : Int} [fd : Fnd P rSheet p df F] [ft : Fnd F rTome t fs F'] (hc : lkA Sea.cl n_draft_by_file_File = some f_draft_by_file_File) (ok : DfOk df) (h0 : 0 ≤ i) (hi6 : i < 6) (hi : fs.length = 6) (hl : (shG fs df i).1.2.length ≤ 1000000)
  (h : Q (.bool true) (own rSheet p (shP fs df i (cutB (shG fs df i).1 a)) :: F)) : Wp H0 P (f_sheet_Sheet_Cut (lv (n + 1)) [.ptr (some (p, 0)), .ptr (some (t, 0)), I i, I a]) Q := by
 unfold f_sheet_Sheet_Cut
 refine go (sheet_Get_v hc ok h0 (by omega) ?_)
 refine go (file_Cut_v hl ?_)
 refine go (sheet_put_v hc ok h0 hi6 hi ?_)
 exact go h
theorem sheet_Create_v {p t : Nat} {df : List (Int × Fl)} {fs : List (Fl × Int)} {i : Int} [fd : Fnd P rSheet p df F] [ft : Fnd F rTome t fs F'] (hc : lkA Sea.cl n_draft_by_file_File = some f_draft_by_file_File) (ok : DfOk df) (h0 : 0 ≤ i) (hi6 : i < 6) (hi : fs.length = 6)
  (h : Q (.bool true) (own rSheet p (shP fs df i (true, (shG fs df i).1.2)) :: F)) : Wp H0 P (f_sheet_Sheet_Create (lv (n + 1)) [.ptr (some (p, 0)), .ptr (some (t, 0)), I i]) Q := by
 unfold f_sheet_Sheet_Create
 refine go (sheet_Get_v hc ok h0 (by omega) ?_)
 refine go (file_Make_v ?_)
 refine go (sheet_put_v (f := (true, (shG fs df i).1.2)) hc ok h0 hi6 hi ?_)
 exact go h
theorem sheet_Remove_v {p t : Nat} {df : List (Int × Fl)} {fs : List (Fl × Int)} {i : Int} [fd : Fnd P rSheet p df F] [ft : Fnd F rTome t fs F'] (hc : lkA Sea.cl n_draft_by_file_File = some f_draft_by_file_File) (ok : DfOk df) (h0 : 0 ≤ i) (hi6 : i < 6) (hi : fs.length = 6)
  (h : Q (.bool true) (own rSheet p (shP fs df i noFl) :: F)) : Wp H0 P (f_sheet_Sheet_Remove (lv (n + 1)) [.ptr (some (p, 0)), .ptr (some (t, 0)), I i]) Q := by
 unfold f_sheet_Sheet_Remove
 refine go (sheet_put_v (f := noFl) hc ok h0 hi6 hi ?_)
 exact go h
theorem sheet_Rename_v {p t : Nat} {df : List (Int × Fl)} {fs : List (Fl × Int)} {i j : Int} [fd : Fnd P rSheet p df F] [ft : Fnd F rTome t fs F'] (hc : lkA Sea.cl n_draft_by_file_File = some f_draft_by_file_File) (ok : DfOk df) (hi0 : 0 ≤ i ∧ i < 6) (hj0 : 0 ≤ j ∧ j < 6) (hi : fs.length = 6)
  (h : Q (.bool true) (own rSheet p (shR fs df i j) :: F)) : Wp H0 P (f_sheet_Sheet_Rename (lv (n + 1)) [.ptr (some (p, 0)), .ptr (some (t, 0)), I i, I j]) Q := by
 refine Wp.cl ?_
 unfold f_sheet_Sheet_Rename
 refine go (sheet_Get_v hc ok hi0.1 (by omega) ?_)
 refine go ⟨fun c => by omega, fun _ => ⟨fun c => by omega, fun _ => ⟨fun c => by omega, fun _ => ⟨fun c => by omega, fun _ => ⟨fun c => ?_, fun c => ⟨fun c2 => ?_, fun c2 => ?_⟩⟩⟩⟩⟩⟩
 ·have e : shR fs df i j = df := by unfold shR; rw [if_pos (.inl c)]
  rw [e] at h
  exact ⟨_, h, .perm fd.p⟩
 ·have e : shR fs df i j = df := by unfold shR; rw [if_pos (.inr c2)]
  rw [e] at h
  exact ⟨_, h, .perm fd.p⟩
 ·have e : shR fs df i j = shP fs (shP fs df j (shG fs df i).1) i noFl := by unfold shR; rw [if_neg (by simp [c, c2])]
  rw [e] at h
  refine sheet_put_v hc ok hj0.1 hj0.2 hi ?_
  refine go (sheet_put_v (f := noFl) hc (ok.shP ⟨hj0.1, by omega⟩) hi0.1 hi0.2 hi ?_)
  refine go ?_
  exact ⟨_, h, .refl⟩
omit [Sea] in
theorem sheet_Draft_v {p : Nat} {df : List (Int × Fl)} [fd : Fnd P rSheet p df F] (h : ∀ d, Q (.ptr (some (d, 0))) (own rC p [.ptr (some (d, 0))] :: own (rDraft eDF dfC 3) d df :: F)) : Wp H0 P (f_sheet_Sheet_Draft D [.ptr (some (p, 0))]) Q := by
 unfold f_sheet_Sheet_Draft
 refine Wp.open rSheet p fun d _ => ?_
 exact go (h d)
end
end Go.Proofs.YtbphjihgbenkdaaGreat.HQ
