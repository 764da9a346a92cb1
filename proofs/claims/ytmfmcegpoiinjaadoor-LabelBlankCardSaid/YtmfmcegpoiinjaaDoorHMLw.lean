/- label: goal, told, tell, Read: walked. Conditions: the variables of the package (Gl). -/
import Derived.Test.YtmfmcegpoiinjaaDoorHML7
namespace Go.Proofs.YtmfmcegpoiinjaaDoor.HM
open Go

theorem decode_S {l : Bs} {i : Nat} (h : i < l.length) (ha : (l[i]).toNat < 128) : Utf8.decode (S l) i = ((l[i]).toNat, 1) := by
  have e : ((S l).get! (i + 0)) = l[i] := by simp [ByteArray.get!, h]
  unfold Utf8.decode
  simp only [e]
  rw [if_pos ha]
theorem itoa_len {v : Int} (h : Int64 v) : (Lib.itoa v).length ≤ 20 := by
  unfold Int64 at h
  unfold Lib.itoa
  split
  · have := dec_len (u := v.natAbs) (by omega)
    simp; omega
  · have := dec_len (u := v.toNat) (by omega)
    omega
theorem readS_e {t : Bs} {n e : Int} (h : readS t = .inr (n, e)) : e = 3 ∨ e = 5 ∨ e = 60 := by
  unfold readS at h
  split at h
  · cases h; exact .inl rfl
  · split at h
    · cases h; exact .inr (.inr rfl)
    · split at h
      · cases h; exact .inr (.inl rfl)
      · cases h

def Ins.f (p : Ins) : List Int := [p.a, p.b, p.c]
/-- what a program of n instructions may hold. -/
def toldS (p : Ins) (n : Int) : Prop := 0 ≤ p.op ∧ p.op < 22 ∧ (∀ (i : Nat) (v : Int), p.f[i]? = some v → shapes[p.op.toNat]!.length ≤ i → v = 0) ∧ (shapes[p.op.toNat]!.head? = some 103 → 0 ≤ p.a ∧ p.a ≤ n)
/-- what is written behind a word. -/
def tellF (g : Int → Bs) : Bs → List Int → Bs
  | c :: sh, v :: f => (32 :: (if c = 103 then g v else Lib.itoa v)) ++ tellF g sh f
  | _, _ => []
def tellS (g : Int → Bs) (p : Ins) : Bs := words[p.op.toNat]! ++ tellF g shapes[p.op.toNat]! p.f
def goalP (n : Int) : Bs := 112 :: Lib.itoa n
structure Ins.ok (p : Ins) : Prop where
  op : Int64 p.op
  a : Int64 p.a
  b : Int64 p.b
  c : Int64 p.c

theorem shapes_small : ∀ w ∈ shapes, w.length ≤ 3 ∧ ∀ c ∈ w, c.toNat < 128 := by unfold shapes; decide
theorem words_small : ∀ w ∈ words, w.length ≤ 8 := by unfold words; decide

section
variable {D : HV → List HV → M HV} {H : Heap} {Q : HV → Heap → Prop}
theorem label_goal_wp (hG : Gl H) {n : Int} (hn : Int64 n) (h : Q (.str (S (goalP n))) H) : wp (f_label_goal D [I n]) Q H := by
  unfold f_label_goal
  have hl := itoa_len hn
  have hs := S_size (Lib.itoa n)
  have hn' := hn
  unfold Int64 at hn'
  refine step (wp_bnd (Itoa_wp hG hn (step ⟨?_, ?_⟩)))
  · rw [show (ByteArray.mk #[112]).size = 1 from rfl, hs]; omega
  · rw [show ByteArray.mk #[112] = S [112] from rfl, S_app]; exact h
theorem label_Read_wp {cl : List (Nat × Clo)} {rn : List (Nat × Rnd)} {D0 : DD} (hc : lkA cl n_label_lines_1 = some f_label_lines_1) (hr : lkA rn 96110293 = some r0_label_read) (hG : Gl H) {t : Bs} (htl : t.length ≤ 9223372036854775807)
    (h1 : ∀ p ms H' sp, readS t = .inl (p, ms) → Kp H H' → RProg H' sp p → Q (.tup [.sl sp, I 0, I 0]) H')
    (h2 : ∀ n e H', readS t = .inr (n, e) → Kp H H' → Q (.tup [.sl ⟨none, 0, 0, none⟩, I n, I e]) H') : wp (f_label_Read (stepD cl rn (stepD cl rn D0)) [.str (S t)]) Q H := by
  unfold f_label_Read
  refine step (wp_bnd (label_read_wp hc hr hG htl (fun p ms H' bs sp sm sg bm hrd k hg hb hp hm => ?_) (fun n e H' hrd k => ?_)))
  · refine step ⟨fun c => absurd rfl c, fun _ => ?_⟩
    refine wp_ldG hg (v := .sl sp) rfl ?_
    refine step ?_
    exact h1 _ _ _ _ hrd k hp
  · have he : e ≠ 0 := by have := readS_e hrd; omega
    refine step ⟨fun _ => ?_, fun c => absurd c (by simpa using he)⟩
    exact h2 _ _ _ hrd k
theorem label_told_wp (hG : Gl H) {p : Ins} {n : Int} (h : ∀ b : Bool, (b = true ↔ toldS p n) → Q (.bool b) H) : wp (f_label_told D [.agg (Ins.cs p), I n]) Q H := by
  unfold f_label_told
  obtain ⟨ro, hsh⟩ := hG.shapes
  refine step ?_
  refine wp_jnP (p.op < 0 ∨ 22 ≤ p.op) ?_ (fun h1 => step ?_) (fun h1 => step ?_)
  · refine step ⟨fun c1 => ⟨fun _ => .inl c1, fun _ => rfl⟩, fun c1 => ?_⟩
    rw [decide_eq_true_eq]; omega
  · exact h _ ⟨fun hh => (by cases hh), fun hh => by have q1 := hh.1; have q2 := hh.2.1; omega⟩
  · have hlt : p.op.toNat < shapes.length := by rw [show shapes.length = 22 from rfl]; omega
    generalize hshk : shapes[p.op.toNat]! = sh at *
    have hcell : (shapes.map fun w => HV.str (S w))[0 + p.op.toNat * 1]? = some (.str (S sh)) := by
      rw [show 0 + p.op.toNat * 1 = p.op.toNat by omega, List.getElem?_map, List.getElem?_eq_getElem hlt, ← hshk]
      simp [hlt]
    have hsz := S_size sh
    have hl3 : sh.length ≤ 3 := by
      rw [← hshk, List.getElem!_eq_getElem?_getD, List.getElem?_eq_getElem hlt]
      exact (shapes_small _ (List.getElem_mem hlt)).1
    have hf3 : p.f.length = 3 := rfl
    refine ⟨by omega, by omega, wp_ldG hsh hcell (step ?_)⟩
    refine wp_loop0 3 (by omega) rfl (fun _ => rfl) rfl (fun i => ∀ (j : Nat) (v : Int), j < i → p.f[j]? = some v → sh.length ≤ j → v = 0) (fun j v hj => by omega) ?_ ?_
    · intro i hi hp
      have hge : p.f[i]? = some p.f[i] := List.getElem?_eq_getElem (by omega)
      have nxt : (sh.length ≤ i → p.f[i] = 0) → ∀ (j : Nat) (v : Int), j < i + 1 → p.f[j]? = some v → sh.length ≤ j → v = 0 := fun hg j v hj hc hs => by
        rcases Nat.lt_or_ge j i with h2 | h2
        · exact hp j v h2 hc hs
        · have : j = i := by omega
          subst this; rw [hge] at hc; cases hc; exact hg hs
      refine step ⟨by omega, by omega, wp_gxG (v := I p.f[i]) (by
        rw [show (i : Int).toNat * 1 = i by omega, show [I p.a, I p.b, I p.c] = p.f.map I from rfl, List.getElem?_map, hge]; rfl) (step ?_)⟩
      refine wp_jnP (sh.length ≤ i ∧ p.f[i] ≠ 0) ?_ (fun h2 => step ?_) (fun h2 => step ?_)
      · refine step ⟨fun c1 => ?_, fun c1 => ?_⟩
        · simp; omega
        · exact ⟨fun hh => (by cases hh), fun hh => by omega⟩
      · refine h _ ⟨fun hh => (by cases hh), fun hh => ?_⟩
        have := hh.2.2.1 i _ hge
        rw [hshk] at this
        exact absurd (this h2.1) h2.2
      · exact nxt fun hh => Decidable.byContradiction fun h3 => h2 ⟨hh, h3⟩
    · intro hp
      have hp' : ∀ (j : Nat) (v : Int), p.f[j]? = some v → sh.length ≤ j → v = 0 := fun j v hv hs => hp j v (by have := (List.getElem?_eq_some_iff.1 hv).1; omega) hv hs
      have hiff : toldS p n ↔ (sh.head? = some 103 → 0 ≤ p.a ∧ p.a ≤ n) := by
        unfold toldS
        rw [hshk]
        exact ⟨fun hh => hh.2.2.2, fun hh => ⟨by omega, by omega, hp', hh⟩⟩
      refine step ?_
      refine wp_jnP (sh.head? = some 103 → 0 ≤ p.a ∧ p.a ≤ n) ?_ (fun h2 => step ?_) (fun h2 => step ?_)
      · refine wp_bnd ?_
        unfold f_strings_HasPrefix
        refine step (wp_bnd (stringslite_HasPrefix_wp (c := 103) (step ?_)))
        by_cases hh : sh.head? = some 103
        · rw [decide_eq_true hh]
          refine step ⟨fun c1 => ?_, fun c1 => ?_⟩
          · rw [decide_eq_true_eq]; exact ⟨fun h3 _ => ⟨by omega, h3⟩, fun h3 => (h3 hh).2⟩
          · exact ⟨fun h3 => (by cases h3), fun h3 => by have := (h3 hh).1; omega⟩
        · rw [decide_eq_false hh]
          refine step ⟨fun _ h3 => absurd h3 hh, fun _ => rfl⟩
      · exact h _ ⟨fun _ => hiff.2 h2, fun _ => rfl⟩
      · exact h _ ⟨fun hh => (by cases hh), fun hh => absurd (hiff.1 hh) h2⟩
theorem sh_at {k : Nat} (hk : k < 22) : (shapes[k]!).length ≤ 3 ∧ (∀ c ∈ shapes[k]!, c.toNat < 128) ∧ (shapes.map fun w => HV.str (S w))[0 + k * 1]? = some (.str (S shapes[k]!)) ∧ (words.map fun w => HV.str (S w))[0 + k * 1]? = some (.str (S words[k]!)) ∧ (words[k]!).length ≤ 8 := by
  have h1 : k < shapes.length := hk
  have h2 : k < words.length := hk
  have e1 : shapes[k]! = shapes[k] := by rw [List.getElem!_eq_getElem?_getD, List.getElem?_eq_getElem h1]; rfl
  have e2 : words[k]! = words[k] := by rw [List.getElem!_eq_getElem?_getD, List.getElem?_eq_getElem h2]; rfl
  rw [e1, e2]
  have q := shapes_small _ (List.getElem_mem h1)
  refine ⟨q.1, q.2, ?_, ?_, words_small _ (List.getElem_mem h2)⟩
  · rw [show 0 + k * 1 = k by omega, List.getElem?_map, List.getElem?_eq_getElem h1]; rfl
  · rw [show 0 + k * 1 = k by omega, List.getElem?_map, List.getElem?_eq_getElem h2]; rfl
theorem label_tell_wp (hG : Gl H) {p : Ins} (hp : p.ok) (h0 : 0 ≤ p.op) (h22 : p.op < 22) (h : ∀ H', Kp H H' → Q (.str (S (tellS goalP p))) H') : wp (f_label_tell D [.agg (Ins.cs p)]) Q H := by
  unfold f_label_tell
  obtain ⟨ro, hsh⟩ := hG.shapes
  obtain ⟨ro2, hwd⟩ := hG.words
  obtain ⟨q1, q2, q3, q4, q5⟩ := sh_at (k := p.op.toNat) (by omega)
  have hh : ∀ w, words[p.op.toNat]! ++ tellF goalP shapes[p.op.toNat]! p.f = w → ∀ H', Kp H H' → Q (.str (S w)) H' := fun w hw => by rw [← hw]; exact h
  generalize shapes[p.op.toNat]! = sh at *
  generalize words[p.op.toNat]! = w0 at *
  have hsz := S_size sh
  have hf3 : p.f.length = 3 := rfl
  have hfi : ∀ v ∈ p.f, Int64 v := by
    intro v hv
    simp only [Ins.f, List.mem_cons, List.not_mem_nil, or_false] at hv
    rcases hv with rfl | rfl | rfl
    · exact hp.a
    · exact hp.b
    · exact hp.c
  refine step ⟨by omega, by omega, wp_ldG hwd q4 (step ⟨by omega, by omega, wp_ldG hsh q3 (step ?_)⟩)⟩
  refine wp_nwSM (Lm.nil H) fun Ha b eb La ka => ?_
  refine wp_blk (wp_range (σ := Bs) sh.length (fun _ x => [.str (S x)]) (fun i x H' => Lm H H' [(b, .spc (.iter (S sh) i))] ∧ x.length ≤ 8 + 22 * i ∧ x ++ tellF goalP (sh.drop i) (p.f.drop i) = w0 ++ tellF goalP sh p.f) w0 rfl ⟨La, by omega, rfl⟩ ?_ ?_)
  · rintro i x H1 hi ⟨L1, hxl, hx⟩
    have hif : i < p.f.length := by omega
    have ha := q2 _ (List.getElem_mem hi)
    have hdec := decode_S hi ha
    rw [List.drop_eq_getElem_cons hi, List.drop_eq_getElem_cons hif] at hx
    have hfx := hfi _ (List.getElem_mem hif)
    have hil := itoa_len hfx
    have hge : (p.f.map I)[0 + (i : Int).toNat * 1]? = some (I p.f[i]) := by
      rw [show 0 + (i : Int).toNat * 1 = i by omega, List.getElem?_map, List.getElem?_eq_getElem hif]; rfl
    generalize p.f[i] = v at *
    have G1 : Gl H1 := hG.kp L1.kp
    refine step ?_
    refine wp_nxT (L1.get (i := 0) rfl) (by omega) ?_
    rw [hdec]
    have L2 := L1.set (i := 0) rfl (.spc (.iter (S sh) (i + 1)))
    have G2 : Gl (H1.set b (.spc (.iter (S sh) (i + 1)))) := hG.kp L2.kp
    generalize H1.set b (.spc (.iter (S sh) (i + 1))) = H2 at L2 G2
    have hxs := S_size x
    refine step ⟨fun c1 => ⟨by omega, by omega, ?_⟩, fun c1 => ⟨by omega, by omega, ?_⟩⟩
    · have hc : sh[i] = 103 := UInt8.toNat_inj.1 (by simpa using (by omega : (sh[i]).toNat = 103))
      have hgl := S_size (goalP v)
      have hgn : (goalP v).length = (Lib.itoa v).length + 1 := by simp [goalP]
      refine wp_gxG (v := I v) hge (step (wp_bnd (label_goal_wp G2 hfx (step ⟨?_, ?_, ?_⟩))))
      · rw [show (ByteArray.mk #[32]).size = 1 from rfl]; omega
      · rw [show ByteArray.mk #[32] = S [32] from rfl, S_app]; simp only [S_size, List.length_append, List.length_cons, List.length_nil]; omega
      · rw [show ByteArray.mk #[32] = S [32] from rfl, S_app, S_app]
        refine wp_nX ⟨x ++ ([32] ++ goalP v), rfl, L2, by simp; omega, ?_⟩
        rw [← hx, tellF, if_pos hc]; simp
    · have hc : sh[i] ≠ 103 := fun hh => c1 (by rw [hh]; rfl)
      have hgl := S_size (Lib.itoa v)
      refine wp_gxG (v := I v) hge (step (wp_bnd (Itoa_wp G2 hfx (step ⟨?_, ?_, ?_⟩))))
      · rw [show (ByteArray.mk #[32]).size = 1 from rfl]; omega
      · rw [show ByteArray.mk #[32] = S [32] from rfl, S_app]; simp only [S_size, List.length_append, List.length_cons, List.length_nil]; omega
      · rw [show ByteArray.mk #[32] = S [32] from rfl, S_app, S_app]
        refine wp_nX ⟨x ++ ([32] ++ Lib.itoa v), rfl, L2, by simp; omega, ?_⟩
        rw [← hx, tellF, if_neg hc]; simp
  · rintro x H1 ⟨L1, hxl, hx⟩
    refine step ?_
    refine wp_nxF (L1.get (i := 0) rfl) (by omega) ?_
    refine step ?_
    rw [List.drop_eq_nil_of_le (Nat.le_refl _)] at hx
    simp only [tellF, List.append_nil] at hx
    refine wp_ret ?_
    show wp (uS [.str (S x)] _) _ _
    exact step (hh x hx.symm _ L1.kp)
end
end Go.Proofs.YtmfmcegpoiinjaaDoor.HM
namespace Go.Proofs.YtmfmcegpoiinjaaDoor.HM
open Go

/-- a Builder of this call's own at b, holding t. -/
structure Bd (H0 H : Heap) (b : Nat) (t : Bs) : Prop where
  kp : Kp H0 H
  ge : H0.n ≤ b
  lt : b < H.n
  ty : H.ty b = some (62, some 2)
  st : ∃ q sl, H.get b = .cells [.ptr q, .sl sl] false ∧ (q = none ∨ q = some (b, 0)) ∧
    ((sl = ⟨none, 0, 0, none⟩ ∧ t = []) ∨ ∃ x, sl = ⟨some (x, 0), t.length, t.length, some 1⟩ ∧ x ≠ b ∧ H0.n ≤ x ∧ x < H.n ∧ H.ty x = some (5, none) ∧ H.get x = .cells (bytesHV (S t)) false ∧ t ≠ [])

theorem gpd (H : Heap) (x y : Nat) (t : Option (Nat × Option Nat)) (o : HObj) : ((H.set x .dead).pushT t o).get y = if y = H.n then o else if y = x then .dead else H.get y := rfl
theorem gpt (H : Heap) (x b y : Nat) (t : Option (Nat × Option Nat)) (o o2 : HObj) : (((H.set x .dead).pushT t o).set b o2).ty y = if y = H.n then t else H.ty y := rfl
theorem gsd (H : Heap) (x y : Nat) (o : HObj) : (H.set x o).get y = if y = x then o else H.get y := rfl
theorem bytesHV_len (t : Bs) : (bytesHV (S t)).length = t.length := by simp [bytesHV]
theorem bytesHV_app (s t : Bs) : bytesHV (S s) ++ bytesHV (S t) = bytesHV (S (s ++ t)) := by simp [bytesHV]
theorem bytesU_HV : ∀ t : Bs, bytesU (bytesHV (S t)) = some t
  | [] => rfl
  | c :: t => by
    have ih := bytesU_HV t
    have h1 : bytesHV (S (c :: t)) = .int .u8 (c.toNat : Int) :: bytesHV (S t) := by simp [bytesHV]
    have h2 : (decide (0 ≤ (c.toNat : Int)) && decide ((c.toNat : Int) < 256)) = true := by
      have := c.toNat_lt
      simp; omega
    rw [h1, bytesU, ih, h2]
    simp

section
variable {α : Type} {Q : α → Heap → Prop} {H0 H : Heap} {b : Nat} {t : Bs}
theorem wp_ty {t : Nat × Option Nat} {m : M α} (h : H.ty b = some t) (hf : wp m Q H) : wp (tyM b t m) Q H := by
  refine wp_of (m' := m) (fun n => ?_) hf
  unfold tyM; rw [decide_eq_true h]; rfl
theorem Bd.keep {H' : Heap} (h : Bd H0 H b t) (k : Kp H H') : Bd H0 H' b t := by
  obtain ⟨q, sl, h1, h2, h3⟩ := h.st
  refine ⟨h.kp.trans k, h.ge, Nat.lt_of_lt_of_le h.lt k.k.n, (k.t b h.lt).trans h.ty, q, sl, (k.k.get b h.lt).trans h1, h2, ?_⟩
  rcases h3 with h3 | ⟨x, e, h4, h5, h6, h7, h8, h9⟩
  · exact .inl h3
  · exact .inr ⟨x, e, h4, h5, Nat.lt_of_lt_of_le h6 k.k.n, (k.t x h6).trans h7, (k.k.get x h6).trans h8, h9⟩
theorem wp_nwBd {f : Nat → M α} (k : Kp H0 H) (hf : ∀ H' b, Bd H0 H' b [] → wp (f b) Q H') : wp (nwT (62, some 2) [.ptr none, .sl ⟨none, 0, 0, none⟩] f) Q H := by
  refine wp_of (m' := f H.n) (H' := H.pushT (some (62, some 2)) (.cells [.ptr none, .sl ⟨none, 0, 0, none⟩] false)) (fun n => rfl) (hf _ _ ⟨k.trans (Kp.pushT _ _ _), k.k.n, by simp [Heap.pushT], by simp [Heap.pushT], none, ⟨none, 0, 0, none⟩, by simp [Heap.pushT], .inl rfl, .inl ⟨rfl, rfl⟩⟩)
theorem Bd.set (h : Bd H0 H b t) {o : HObj} : Kp H0 (H.set b o) ∧ (H.set b o).ty b = some (62, some 2) :=
  ⟨⟨⟨h.kp.k.n, fun x hx => by
    have := h.ge
    simp only [Heap.set]; rw [if_neg (by omega)]; exact h.kp.k.get x hx⟩, h.kp.t⟩, h.ty⟩
theorem wp_apdT0 {vs : List HV} {m : Nat} {f : Sl → M α} (hm : vs.length = m) (h0 : 0 < m) (hr : m ≤ room) (hf : wp (f ⟨some (H.n, 0), m, m, some 1⟩) Q (H.pushT (some (5, none)) (.cells vs false))) : wp (apdT 5 ⟨none, 0, 0, none⟩ 1 1 m vs f) Q H := by
  refine wp_of (m' := f ⟨some (H.n, 0), m, m, some 1⟩) (H' := H.pushT (some (5, none)) (.cells vs false)) (fun n => ?_) hf
  unfold apdT
  rw [show (decide ((0 + m) * 1 ≤ room) && decide (vs.length = m * 1) && decide (0 < 1) && decide (0 + m ≤ room)) = true by simp [hm, hr]]
  simp only [gd]
  rw [if_neg (by omega)]
  simp [nwT]
theorem wp_apdT1 {cs vs : List HV} {x k m : Nat} {f : Sl → M α} (hg : H.get x = .cells cs false) (hc : cs.length = k) (ht : H.ty x = some (5, none)) (hm : vs.length = m) (h0 : 0 < m) (hr : k + m ≤ room)
    (hf : wp (f ⟨some (H.n, 0), k + m, k + m, some 1⟩) Q ((H.set x .dead).pushT (some (5, none)) (.cells (cs ++ vs) false))) : wp (apdT 5 ⟨some (x, 0), k, k, some 1⟩ 1 1 m vs f) Q H := by
  refine wp_of (m' := f ⟨some (H.n, 0), k + m, k + m, some 1⟩) (H' := (H.set x .dead).pushT (some (5, none)) (.cells (cs ++ vs) false)) (fun n => ?_) hf
  unfold apdT
  rw [show (decide ((k + m) * 1 ≤ room) && decide (vs.length = m * 1) && decide (0 < 1) && decide (k + m ≤ room)) = true by simp [hm, hr]]
  simp only [gd]
  rw [if_neg (by omega)]
  simp only [hg]
  unfold gxN
  rw [show decide (0 + k * 1 ≤ cs.length) = true by simp [hc]]
  have e : (cs.drop 0).take (k * 1) = cs := by rw [List.drop_zero, Nat.mul_one, ← hc, List.take_length]
  simp only [gd, e]
  rw [show (decide True && decide True && decide (cs.length = k * 1) && !false && decide (H.ty x = some (5, none))) = true by simp [hc, ht]]
  rfl
end

section
variable {D : HV → List HV → M HV} {H0 H : Heap} {Q : HV → Heap → Prop} {b : Nat} {t : Bs}
theorem copyCheck_wp (h : Bd H0 H b t) (hf : ∀ H', Bd H0 H' b t → Q (.tup []) H') : wp (copyCheckT 62 [.ptr (some (b, 0))]) Q H := by
  unfold copyCheckT
  obtain ⟨q, sl, h1, h2, h3⟩ := h.st
  show wp (gd (decide (0 = 0)) (tyM b (62, some 2) _)) _ _
  refine step ⟨rfl, ?_⟩
  refine wp_ty h.ty ?_
  refine wp_ldG h1 (v := .ptr q) rfl ?_
  show wp (match q with
    | none => stC b 0 (.ptr (some (b, 0))) (ret (HV.tup []))
    | some (b2, o2) => gd (decide (b2 = b) && decide (o2 = 0)) (ret (HV.tup []))) _ _
  rcases h2 with rfl | rfl
  · refine wp_stC h1 (by simp) rfl (wp_ret (hf _ ?_))
    have q1 := h.set (o := .cells ([HV.ptr none, .sl sl].set 0 (.ptr (some (b, 0)))) false)
    refine ⟨q1.1, h.ge, h.lt, q1.2, some (b, 0), sl, by simp [Heap.set], .inr rfl, ?_⟩
    rcases h3 with h3 | ⟨x, e, h4, h5, h6, h7, h8, h9⟩
    · exact .inl h3
    · exact .inr ⟨x, e, h4, h5, h6, h7, by simp only [Heap.set]; rw [if_neg h4]; exact h8, h9⟩
  · show wp (gd (decide (b = b) && decide (0 = 0)) (ret (HV.tup []))) _ _
    rw [show (decide (b = b) && decide (0 = 0)) = true by simp]
    exact wp_ret (hf _ h)
theorem WriteString_wp (h : Bd H0 H b t) {s : Bs} (hs : s ≠ []) (hr : t.length + s.length ≤ room) (hf : ∀ H' v, Bd H0 H' b (t ++ s) → Q (.tup [I v, .ifc false]) H') : wp (f_strings_Builder_WriteString D [.ptr (some (b, 0)), .str (S s)]) Q H := by
  unfold f_strings_Builder_WriteString
  have hsz := S_size s
  have hsl : 0 < s.length := List.length_pos_iff.2 hs
  refine step (wp_bnd (copyCheck_wp h fun H1 h => step ?_))
  obtain ⟨q, sl, h1, h2, h3⟩ := h.st
  refine wp_ldG h1 (v := .sl sl) rfl ?_
  refine step ?_
  have hvl := bytesHV_len s
  have hbt : b < H1.n := h.lt
  have hn : H0.n ≤ H1.n := h.kp.k.n
  rw [hsz]
  rcases h3 with ⟨rfl, rfl⟩ | ⟨x, rfl, h4, h5, h6, h7, h8, h9⟩
  · refine wp_apdT0 hvl hsl (by simpa using hr) ?_
    have L := h.kp.trans (Kp.pushT H1 (some (5, none)) (.cells (bytesHV (S s)) false))
    have g1 : (H1.pushT (some (5, none)) (.cells (bytesHV (S s)) false)).get b = .cells [.ptr q, .sl ⟨none, 0, 0, none⟩] false := by simp only [Heap.pushT]; rw [if_neg (by omega)]; exact h1
    refine step ?_
    refine wp_stC g1 (by simp) rfl (step ?_)
    refine hf _ _ ⟨⟨⟨L.k.n, fun y hy => ?_⟩, L.t⟩, h.ge, ?_, ?_, q, ⟨some (H1.n, 0), s.length, s.length, some 1⟩, by simp [Heap.set], h2, .inr ⟨H1.n, by simp, by omega, hn, by simp [Heap.set, Heap.pushT], by simp [Heap.set, Heap.pushT], ?_, by simpa using hs⟩⟩
    · have := h.ge
      simp only [Heap.set]; rw [if_neg (by omega)]; exact L.k.get y hy
    · simp [Heap.set, Heap.pushT]; omega
    · simp only [Heap.set, Heap.pushT]; rw [if_neg (by omega)]; exact h.ty
    · simp only [Heap.set, Heap.pushT]; rw [if_neg (by omega)]; simp
  · refine wp_apdT1 h8 (bytesHV_len t) h7 hvl hsl hr ?_
    rw [bytesHV_app]
    have g1 : ((H1.set x .dead).pushT (some (5, none)) (.cells (bytesHV (S (t ++ s))) false)).get b = .cells [.ptr q, .sl ⟨some (x, 0), t.length, t.length, some 1⟩] false := by
      rw [gpd, if_neg (by omega), if_neg (fun hh => h4 hh.symm)]; exact h1
    refine step ?_
    refine wp_stC g1 (by simp) rfl (step ?_)
    refine hf _ _ ⟨⟨⟨?_, fun y hy => ?_⟩, fun y hy => ?_⟩, h.ge, ?_, ?_, q, ⟨some (H1.n, 0), t.length + s.length, t.length + s.length, some 1⟩, by simp [Heap.set, Heap.pushT], h2, .inr ⟨H1.n, by simp, by omega, hn, by simp [Heap.set, Heap.pushT], by simp [Heap.set, Heap.pushT], ?_, by simp [hs]⟩⟩
    · simp [Heap.set, Heap.pushT]; omega
    · have := h.ge
      rw [gsd, gpd, if_neg (by omega), if_neg (by omega), if_neg (by omega)]; exact h.kp.k.get y hy
    · rw [gpt, if_neg (by omega)]; exact h.kp.t y hy
    · simp [Heap.set, Heap.pushT]; omega
    · rw [gpt, if_neg (by omega)]; exact h.ty
    · rw [gsd, gpd, if_neg (by omega), if_pos rfl]
theorem String_wp (h : Bd H0 H b t) (hr : t.length ≤ room) (hf : ∀ H', Kp H0 H' → Q (.str (S t)) H') : wp (f_strings_Builder_String D [.ptr (some (b, 0))]) Q H := by
  unfold f_strings_Builder_String
  obtain ⟨q, sl, h1, h2, h3⟩ := h.st
  refine step ?_
  refine wp_ldG h1 (v := .sl sl) rfl ?_
  refine step ?_
  rcases h3 with ⟨rfl, rfl⟩ | ⟨x, rfl, h4, h5, h6, h7, h8, h9⟩
  · refine ⟨rfl, ?_⟩
    refine wp_ldG h1 (v := .sl ⟨none, 0, 0, none⟩) rfl ?_
    refine step ?_
    show wp (usM 5 none 0 _) _ _
    show wp (ret (Leaf.ret [HV.str (S [])])) _ _
    exact step (hf _ h.kp)
  · have hl : 0 < t.length := List.length_pos_iff.2 h9
    refine ⟨by simp; omega, ?_⟩
    refine wp_ldG h1 (v := .sl ⟨some (x, 0), t.length, t.length, some 1⟩) rfl ?_
    refine step ?_
    have hroom : room ≤ 9223372036854775807 := by decide
    have hk : Kp H0 (H.set x .dead) := ⟨⟨h.kp.k.n, fun y hy => by rw [gsd, if_neg (by omega)]; exact h.kp.k.get y hy⟩, h.kp.t⟩
    have hfin : wp (ret (.ret [.str (S t)])) (PFin Q) (H.set x .dead) := step (hf _ hk)
    refine wp_of (m' := ret (.ret [.str (S t)])) (H' := H.set x .dead) (fun n => ?_) hfin
    unfold usM
    rw [decide_eq_false (by omega : ¬ (t.length : Int) = 0)]
    simp only
    rw [show (decide ((0 : Int) < (t.length : Int)) && decide ((t.length : Int) ≤ 9223372036854775807)) = true by simp; omega]
    simp only [gd, mP, decide_true]
    unfold tyM
    rw [decide_eq_true h7]
    simp only [gd, h8]
    have e : (bytesHV (S t)).take (t.length : Int).toNat = bytesHV (S t) := by rw [Int.toNat_natCast, ← bytesHV_len t, List.take_length]
    rw [e, bytesU_HV]
    simp only [Int.toNat_natCast, decide_true]
end
end Go.Proofs.YtmfmcegpoiinjaaDoor.HM
namespace Go.Proofs.YtmfmcegpoiinjaaDoor.HM
open Go

/-- an instruction goes on at this place. -/
def isT (p : List Ins) (k : Int) : Bool := p.any fun x => (decide (x.op = 3) || decide (x.op = 20)) && decide (x.a = k)
/-- what is written for one place. -/
def lineT (g : Int → Bs) (p : List Ins) (i : Nat) : Bs := (if isT p i = true then 58 :: (g i ++ [10]) else []) ++ (match p[i]? with
  | some x => tellS g x ++ [10]
  | none => [])
def textT (g : Int → Bs) (p : List Ins) (i : Nat) : Bs := (List.range i).flatMap (lineT g p)
open Classical in
/-- what a program is written as; or the error. -/
noncomputable def writeS (g : Int → Bs) (p : List Ins) : Sum Bs Int :=
  if 48 < p.length then .inr 3 else if ∀ x ∈ p, toldS x p.length then .inl (textT g p (p.length + 1)) else .inr 1

theorem textT_succ (g : Int → Bs) (p : List Ins) (i : Nat) : textT g p (i + 1) = textT g p i ++ lineT g p i := by
  unfold textT; rw [List.range_succ, List.flatMap_append]; simp
theorem isT_take {p : List Ins} {i : Nat} (hi : i < p.length) (k : Int) : isT (p.take (i + 1)) k = (isT (p.take i) k || ((decide (p[i].op = 3) || decide (p[i].op = 20)) && decide (p[i].a = k))) := by
  unfold isT; rw [List.take_succ_eq_append_getElem hi, List.any_append]; simp
theorem tell_len {x : Ins} (hx : x.ok) (h0 : 0 ≤ x.op) (h22 : x.op < 22) : (tellS goalP x).length ≤ 80 := by
  obtain ⟨q1, q2, q3, q4, q5⟩ := sh_at (k := x.op.toNat) (by omega)
  have key : ∀ (sh : Bs) (f : List Int), (∀ v ∈ f, Int64 v) → (tellF goalP sh f).length ≤ 22 * sh.length := by
    intro sh
    induction sh with
    | nil => intro f _; simp [tellF]
    | cons c sh ih =>
      intro f hf
      cases f with
      | nil => simp [tellF]
      | cons v f =>
        have h1 := ih f (fun w hw => hf w (List.mem_cons_of_mem _ hw))
        have h2 := itoa_len (hf v List.mem_cons_self)
        rw [tellF]
        split
        · simp [goalP]; omega
        · simp; omega
  have hfi : ∀ v ∈ x.f, Int64 v := by
    intro v hv
    simp only [Ins.f, List.mem_cons, List.not_mem_nil, or_false] at hv
    rcases hv with rfl | rfl | rfl
    · exact hx.a
    · exact hx.b
    · exact hx.c
  have := key shapes[x.op.toNat]! x.f hfi
  unfold tellS
  rw [List.length_append]; omega
/-- an instruction that goes on somewhere stays inside the program. -/
theorem told_goal {x : Ins} {n : Int} (h : toldS x n) (ho : x.op = 3 ∨ x.op = 20) : 0 ≤ x.a ∧ x.a ≤ n := by
  refine h.2.2.2 ?_
  rcases ho with ho | ho <;> rw [ho] <;> rfl

/-- a join's leaf that carries no values. -/
def PNl (R : Heap → Prop) : Leaf → Heap → Prop := fun l H' => match l with
  | .norm vs => vs = [] ∧ R H'
  | _ => False
instance wi_nlR {R : Heap → Prop} {H : Heap} : W (ret (.norm [])) (PNl R) H (R H) := ⟨fun h => wp_ret ⟨rfl, h⟩⟩
theorem wp_jnR {Q : Leaf → Heap → Prop} {H : Heap} {m : M Leaf} {K : List HV → M Leaf} (R : Heap → Prop) (h : wp m (PNl R) H) (hk : ∀ H', R H' → wp (K []) Q H') : wp (jn m K) Q H := by
  refine wp_jn (h.mono ?_)
  intro l H' hl
  cases l with
  | norm vs => obtain ⟨rfl, h2⟩ := hl; exact hk _ h2
  | exit j vs => exact hl.elim
  | ret vs => exact hl.elim

section
variable {D : HV → List HV → M HV} {H : Heap} {Q : HV → Heap → Prop}
theorem label_Write_wp (hG : Gl H) {s : Sl} {p : List Ins} (hs : RProg H s p) (hp : ∀ x ∈ p, x.ok)
    (h1 : ∀ t H', writeS goalP p = .inl t → Kp H H' → Q (.tup [.str (S t), I 0]) H')
    (h2 : ∀ e H', writeS goalP p = .inr e → Kp H H' → Q (.tup [.str (S []), I e]) H') : wp (f_label_Write D [.sl s]) Q H := by
  unfold f_label_Write
  have hlen := hs.lenI
  refine step ⟨fun c => ?_, fun c => ?_⟩
  · exact h2 3 H (by unfold writeS; rw [if_pos (by omega)]) (Kp.refl H)
  · have hp48 : p.length ≤ 48 := by omega
    refine wp_for (σ := List Bool) p.length (by omega) hlen (fun x i => [I i, .agg (x.map .bool)]) (out := fun x => [.agg (x.map .bool)]) (fun _ _ => rfl) rfl
      (fun i x H' => H' = H ∧ (∀ y ∈ p.take i, toldS y p.length) ∧ x.length = 49 ∧ ∀ k : Nat, k < 49 → x[k]? = some (isT (p.take i) k)) (List.replicate 49 false) rfl ⟨rfl, by simp, by simp, fun k hk => by rw [List.getElem?_replicate, if_pos hk]; simp [isT]⟩ ?_ ?_
    · rintro i x H' hi ⟨rfl, q1, q2, q3⟩
      have hok := hp _ (List.getElem_mem hi)
      refine wp_blk (wp_at hs hi fun b o => ?_)
      have hmem := List.getElem_mem hi
      have hist := isT_take hi
      have htk : ∀ y ∈ p.take (i + 1), y ∈ p.take i ∨ y = p[i] := by
        intro y hy; rw [List.take_succ_eq_append_getElem hi] at hy
        rcases List.mem_append.1 hy with hy | hy
        · exact .inl hy
        · exact .inr (by simpa using hy)
      generalize p[i] = z at *
      show wp (uI .i64 (Ins.cs z) _) _ _
      refine step (wp_bnd (label_told_wp hG (p := z) fun b hb => step ⟨fun e => ?_, fun e => ?_⟩))
      · refine h2 1 H' ?_ (Kp.refl _)
        unfold writeS
        rw [if_neg (by omega), if_neg (fun hh => by rw [hlen] at hb; rw [hb.2 (hh z hmem)] at e; cases e)]
      · rw [hlen] at hb
        have htd := hb.1 e
        have q1' : ∀ y ∈ p.take (i + 1), toldS y p.length := fun y hy => by
          rcases htk y hy with hy | rfl
          · exact q1 y hy
          · exact htd
        refine wp_jnP (z.op = 3 ∨ z.op = 20) ?_ (fun h3 => ?_) (fun h3 => ?_)
        · refine step ⟨fun c1 => ⟨fun _ => .inl c1, fun _ => rfl⟩, fun c1 => ?_⟩
          rw [beq_iff_eq]; omega
        · have hga := told_goal htd h3
          refine step ⟨by omega, by omega, by simp; omega, ?_⟩
          refine ⟨x.set z.a.toNat true, ?_, rfl, q1', by simpa using q2, fun k hk => ?_⟩
          · rw [show 0 + z.a.toNat * 1 = z.a.toNat by omega, List.map_set]
          · rw [hist, List.getElem?_set]
            split
            · rename_i hk2
              rw [if_pos (by omega)]
              have : z.a = (k : Int) := by omega
              simp [this, h3]
            · rw [q3 k hk]
              have : z.a ≠ (k : Int) := by omega
              simp [this]
        · refine step ⟨x, rfl, rfl, q1', q2, fun k hk => ?_⟩
          rw [hist, q3 k hk]
          have : (decide (z.op = 3) || decide (z.op = 20)) = false := by simp; omega
          simp [this]
    · rintro x H' ⟨rfl, q1, q2, q3⟩
      rw [List.take_length] at q1 q3
      have hw : writeS goalP p = .inl (textT goalP p (p.length + 1)) := by unfold writeS; rw [if_neg (by omega), if_pos q1]
      have hwr : wr ((s.len : Int) + 1) = ((p.length + 1 : Nat) : Int) := by rw [hlen, wr_small (by omega) (by omega)]; omega
      refine step ?_
      refine wp_nwBd (Kp.refl H') fun Ha b B0 => ?_
      refine wp_for (σ := Unit) (p.length + 1) (by omega) hwr (fun _ i => [I i]) (out := fun _ => []) (fun _ _ => rfl) rfl
        (fun i _ H2 => Bd H' H2 b (textT goalP p i) ∧ (textT goalP p i).length ≤ 104 * i) () rfl ⟨B0, by simp [textT]⟩ ?_ ?_
      · rintro i _ H2 hi ⟨B, hl⟩
        have G2 : Gl H2 := hG.kp B.kp
        have hroom : (100000 : Nat) ≤ room := by decide
        have hq := q3 i (by omega)
        have hi64 : Int64 (i : Int) := by unfold Int64; omega
        have hgl := itoa_len hi64
        -- the place's name
        refine wp_blk (step ⟨by omega, by omega, wp_gxG (v := .bool (isT p i)) (by rw [show 0 + (i : Int).toNat * 1 = i by omega, List.getElem?_map, hq]; rfl) (step ?_)⟩)
        have hgn : (goalP (i : Int)).length = (Lib.itoa (i : Int)).length + 1 := by simp [goalP]
        have hgs := S_size (goalP (i : Int))
        have e1 : (ByteArray.mk #[58] ++ S (goalP (i : Int))) ++ ByteArray.mk #[10] = S (58 :: (goalP (i : Int) ++ [10])) := by
          rw [show ByteArray.mk #[58] = S [58] from rfl, show ByteArray.mk #[10] = S [10] from rfl, S_app, S_app]; rfl
        have e2 : (ByteArray.mk #[58] ++ S (goalP (i : Int))).size = (goalP (i : Int)).length + 1 := by
          rw [show ByteArray.mk #[58] = S [58] from rfl, S_app, S_size]; simp
        refine wp_jnR (fun H3 => Bd H' H3 b (textT goalP p i ++ (if isT p i = true then 58 :: (goalP i ++ [10]) else []))) ?_ (fun H3 B3 => ?_)
        · refine step ⟨fun c1 => ?_, fun c1 => ?_⟩
          · refine wp_bnd (label_goal_wp G2 hi64 (step ⟨?_, ?_, ?_⟩))
            · rw [show (ByteArray.mk #[58]).size = 1 from rfl]; omega
            · rw [e2, show (ByteArray.mk #[10]).size = 1 from rfl]; omega
            · rw [e1]
              refine wp_bnd (WriteString_wp B (by simp) (by simp; omega) fun H4 v B4 => step ?_)
              rw [if_pos c1]; exact B4
          · rw [if_neg (by rw [c1]; simp), List.append_nil]; exact B
        · have hl3 : (textT goalP p i ++ (if isT p i = true then 58 :: (goalP i ++ [10]) else [])).length ≤ 104 * i + 23 := by
            rw [List.length_append]; split
            · simp; omega
            · simp; omega
          have hts := textT_succ goalP p i
          unfold lineT at hts
          rw [← List.append_assoc] at hts
          generalize textT goalP p i ++ (if isT p i = true then 58 :: (goalP i ++ [10]) else []) = w at *
          refine step ⟨fun c1 => ?_, fun c1 => ?_⟩
          · have hip : i < p.length := by omega
            have hok := hp _ (List.getElem_mem hip)
            have htd := q1 _ (List.getElem_mem hip)
            rw [List.getElem?_eq_getElem hip] at hts
            refine wp_at (hs.keeps B3.kp.k) hip fun b2 o2 => ?_
            generalize p[i] = z at *
            have htl := tell_len hok htd.1 htd.2.1
            have hss := S_size (tellS goalP z)
            have e3 : S (tellS goalP z) ++ ByteArray.mk #[10] = S (tellS goalP z ++ [10]) := by
              rw [show ByteArray.mk #[10] = S [10] from rfl, S_app]
            show wp (uI .i64 (Ins.cs z) _) _ _
            refine step (wp_bnd (label_tell_wp (hG.kp B3.kp) hok htd.1 htd.2.1 fun H4 k4 => step ⟨?_, ?_⟩))
            · rw [show (ByteArray.mk #[10]).size = 1 from rfl]; omega
            · rw [e3]
              refine wp_bnd (WriteString_wp (B3.keep k4) (by simp) (by simp; omega) fun H5 v B5 => step ?_)
              refine ⟨(), rfl, ?_⟩
              rw [hts]
              exact ⟨B5, by simp; omega⟩
          · have hip : p[i]? = none := List.getElem?_eq_none (by omega)
            rw [hip] at hts
            refine ⟨(), rfl, ?_⟩
            rw [hts]
            simp only [List.append_nil]
            exact ⟨B3, by omega⟩
      · rintro _ H2 ⟨B, hl⟩
        have hroom : (100000 : Nat) ≤ room := by decide
        exact step (wp_bnd (String_wp B (by omega) fun H3 k => step (h1 _ _ hw k)))
end
end Go.Proofs.YtmfmcegpoiinjaaDoor.HM
