/- Histories: the document's search and the program's pick the same deeds. Conditions: none (plain lemmas). -/
import Derived.Test.YthlfemjbeihmbaaHLWo
namespace Go.Proofs.Ythlfemjbeihmbaa.HL
open Go
open Classical

/-- the versions behind some deeds, in order. -/
def stepN (l : List Dd) (f : Nat → Int) (i : Nat) : Nat → Int := match l[i]? with
  | some d => after f d.w
  | none => f
def nowS (l : List Dd) (S : List Nat) : Nat → Int := S.foldl (stepN l) (fun _ => 0)
theorem nowS_snoc (l : List Dd) (S : List Nat) (i : Nat) : nowS l (S ++ [i]) = stepN l (nowS l S) i := by simp [nowS, List.foldl_append]
theorem nowS_snoc' {l : List Dd} {S : List Nat} {i : Nat} {d : Dd} (h : l[i]? = some d) : nowS l (S ++ [i]) = after (nowS l S) d.w := by
  rw [nowS_snoc]; unfold stepN; rw [h]

theorem after_cons (f : Nat → Int) (e : En) (l : List En) : after f (e :: l) = after (fun p => if p = place e then e.v else f p) l := rfl
theorem after_not {l : List En} : ∀ {f : Nat → Int} {p : Nat}, (∀ e ∈ l, place e ≠ p) → after f l p = f p := by
  induction l with
  | nil => intros; rfl
  | cons e l ih =>
    intro f p h
    rw [after_cons, ih fun x hx => h x (List.mem_cons_of_mem _ hx)]
    rw [if_neg (Ne.symm (h e List.mem_cons_self))]
/-- none of one thing with another. -/
def Uniq (l : List En) : Prop := l.Pairwise fun a b => place a ≠ place b
theorem Single.uniq {l : List En} {least : Int} (h : Single l least) : Uniq l := by
  unfold Uniq
  rw [List.pairwise_iff_getElem]
  intro i j hi hj hij he
  have h1 := h.2 j (l[j]) (List.getElem?_eq_getElem hj)
  have h2 := h1.2 i hij (l[i]) (List.getElem?_eq_getElem hi)
  have h3 := h.2 i (l[i]) (List.getElem?_eq_getElem hi)
  rw [(place_alike h1.1 h3.1).1 he.symm] at h2
  cases h2
theorem after_mem {l : List En} : ∀ {f : Nat → Int} (_ : Uniq l) {e : En}, e ∈ l → after f l (place e) = e.v := by
  induction l with
  | nil => intro f _ e h; cases h
  | cons x l ih =>
    intro f hu e he
    unfold Uniq at hu
    rw [List.pairwise_cons] at hu
    rw [after_cons]
    rcases List.mem_cons.1 he with rfl | he
    · rw [after_not fun y hy => (hu.1 y hy).symm, if_pos rfl]
    · exact ih hu.2 he
theorem after_cases {l : List En} (f : Nat → Int) (hu : Uniq l) (p : Nat) : (after f l p = f p ∧ ∀ e ∈ l, place e ≠ p) ∨ ∃ e ∈ l, place e = p ∧ after f l p = e.v := by
  rcases Classical.em (∃ e ∈ l, place e = p) with ⟨e, he, rfl⟩ | h
  · exact .inr ⟨e, he, rfl, after_mem hu he⟩
  · have : ∀ e ∈ l, place e ≠ p := fun e he hp => h ⟨e, he, hp⟩
    exact .inl ⟨after_not this, this⟩

theorem en_eq {a b : En} (h : alike a b = true) (hv : a.v = b.v) : a = b := by
  unfold alike at h
  simp only [Bool.and_eq_true, beq_iff_eq] at h
  obtain ⟨h1, h2⟩ := h
  cases a; cases b
  simp only at h1 h2 hv
  subst h1; subst h2; subst hv; rfl
/-! of a history that can be -/
structure Hist (l : List Dd) : Prop where
  can : CanP l
theorem Hist.rs {l : List Dd} (h : Hist l) {i : Nat} {d : Dd} (hd : l[i]? = some d) : Single d.r 0 := (h.can.1 d (List.mem_of_getElem? hd)).1
theorem Hist.ws {l : List Dd} (h : Hist l) {i : Nat} {d : Dd} (hd : l[i]? = some d) : Single d.w 1 := (h.can.1 d (List.mem_of_getElem? hd)).2
theorem Hist.okr {l : List Dd} (h : Hist l) {i : Nat} {d : Dd} (hd : l[i]? = some d) {e : En} (he : e ∈ d.r) : okE 0 e := (h.rs hd).okR e he
theorem Hist.okw {l : List Dd} (h : Hist l) {i : Nat} {d : Dd} (hd : l[i]? = some d) {e : En} (he : e ∈ d.w) : okE 1 e := (h.ws hd).okR e he
theorem countP_two {α : Type} {p : α → Bool} {l : List α} {i j : Nat} {a b : α} (hij : i < j) (hi : l[i]? = some a) (hj : l[j]? = some b) (ha : p a = true) (hb : p b = true) : 2 ≤ l.countP p := by
  have hi' := List.getElem?_eq_some_iff.1 hi
  have hj' := List.getElem?_eq_some_iff.1 hj
  obtain ⟨hi1, hi2⟩ := hi'
  obtain ⟨hj1, hj2⟩ := hj'
  have h1 : 0 < (l.take j).countP p := List.countP_pos_iff.2 ⟨a, by
    rw [List.mem_take_iff_getElem]
    exact ⟨i, by omega, hi2⟩, ha⟩
  have h2 : 0 < (l.drop j).countP p := List.countP_pos_iff.2 ⟨b, by
    rw [List.mem_drop_iff_getElem]
    exact ⟨0, by omega, by simpa using hj2⟩, hb⟩
  have h3 : l.countP p = (l.take j).countP p + (l.drop j).countP p := by
    rw [← List.countP_append, List.take_append_drop]
  omega
/-- an entry is written once. -/
theorem Hist.once {l : List Dd} (h : Hist l) {i j : Nat} {a b : Dd} (hi : l[i]? = some a) (hj : l[j]? = some b) {e : En} (ha : e ∈ a.w) (hb : e ∈ b.w) : i = j := by
  have h1 := (h.can.2 a (List.mem_of_getElem? hi)).1 e ha
  unfold writersN at h1
  rcases Nat.lt_trichotomy i j with hij | hij | hij
  · have := countP_two (p := fun d => decide (e ∈ d.w)) hij hi hj (by simpa using ha) (by simpa using hb)
    omega
  · exact hij
  · have := countP_two (p := fun d => decide (e ∈ d.w)) hij hj hi (by simpa using hb) (by simpa using ha)
    omega
/-- what was read was written. -/
theorem Hist.from {l : List Dd} (h : Hist l) {i : Nat} {d : Dd} (hd : l[i]? = some d) {e : En} (he : e ∈ d.r) (hv : 0 < e.v) : ∃ (j : Nat) (b : Dd), l[j]? = some b ∧ e ∈ b.w := by
  have h1 := (h.can.2 d (List.mem_of_getElem? hd)).2 e he hv
  unfold writersN at h1
  obtain ⟨b, hb, hbe⟩ := List.countP_pos_iff.1 (show 0 < l.countP fun d => decide (e ∈ d.w) by omega)
  obtain ⟨j, hj, rfl⟩ := List.getElem_of_mem hb
  exact ⟨j, _, List.getElem?_eq_getElem hj, by simpa using hbe⟩

theorem ahead_iff {a b : Dd} (hb : OkR b.w 1) : Ahead a b ↔ Younger a.w b.r 0 ∨ Needs a b := by
  unfold Ahead Needs Younger
  constructor
  · rintro (h | ⟨x, hx, y, hy, h1, h2, h3⟩ | ⟨x, hx, y, hy, h1, h2, h3⟩)
    · exact .inl h
    · exact .inr ⟨y, hy, .inr ⟨x, hx, h1, by omega⟩⟩
    · exact .inr ⟨y, hy, .inl ⟨x, hx, h1, by omega⟩⟩
  · rintro (h | ⟨w, hw, ⟨e, he, h1, h2⟩ | ⟨e, he, h1, h2⟩⟩)
    · exact .inl h
    · have := hb w hw; unfold okE at this
      exact .inr (.inr ⟨e, he, w, hw, h1, by omega, by omega⟩)
    · have := hb w hw; unfold okE at this
      exact .inr (.inl ⟨e, he, w, hw, h1, by omega, by omega⟩)

/-- does no deed read what it, or something younger than it, wrote? -/
def NoSelf (l : List Dd) : Prop := ∀ d ∈ l, ¬ Younger d.w d.r 0
/-- can k be next, as the document tells it? -/
def PickR (l : List Dd) (S : List Nat) (k : Nat) : Prop := k ∉ S ∧ ∃ d, l[k]? = some d ∧ Next (nowS l S) d ∧ ∀ i x, l[i]? = some x → i ∉ S → i ≠ k → ¬ Needs x d
structure InvS (l : List Dd) (S : List Nat) : Prop where
  no : ∀ j ∈ S, ∀ k, k < l.length → k ∉ S → ¬ Ahd l k j
  le : ∀ j ∈ S, ∀ d, l[j]? = some d → ∀ w ∈ d.w, w.v ≤ nowS l S (place w)
  val : ∀ p, nowS l S p = 0 ∨ ∃ j ∈ S, ∃ d, l[j]? = some d ∧ ∃ w ∈ d.w, place w = p ∧ w.v = nowS l S p
theorem InvS.nil {l : List Dd} : InvS l [] := ⟨fun _ h => (by cases h), fun _ h => (by cases h), fun p => .inl rfl⟩

theorem pick_iff {l : List Dd} (h : Hist l) (hs : NoSelf l) {S : List Nat} (hi : InvS l S) (k : Nat) : Pick (Ahd l) l.length S k ↔ PickR l S k := by
  constructor
  · rintro ⟨hk, hkS, hno⟩
    have hd : l[k]? = some l[k] := List.getElem?_eq_getElem hk
    generalize l[k] = d at hd
    refine ⟨hkS, d, hd, ⟨fun e he => ?_, fun e he => ?_⟩, fun i x hx hiS hik hn => ?_⟩
    · have hoke := h.okr hd he
      have hle : nowS l S (place e) ≤ e.v := by
        rcases hi.val (place e) with h0 | ⟨j, hj, b, hb, w, hw, hp, hv⟩
        · rw [h0]; exact hoke.2.2.2.2
        · apply Classical.byContradiction
          intro hlt
          have hokw := h.okw hb hw
          refine hi.no j hj k hk hkS ⟨d, b, hd, hb, .inr (.inr ⟨e, he, w, hw, (place_alike hoke hokw).1 hp.symm, hokw.2.2.2.2, by omega⟩)⟩
      rcases Int.lt_or_le 0 e.v with hv | hv
      · obtain ⟨j, b, hb, heb⟩ := h.from hd he hv
        have hyo : Younger b.w d.r 0 := ⟨e, heb, e, he, by simp [alike], by omega, by omega⟩
        have hjk : j ≠ k := by
          rintro rfl
          rw [hd] at hb; cases hb
          exact hs d (List.mem_of_getElem? hd) hyo
        have hjS : j ∈ S := Classical.byContradiction fun hjS => hno j (List.getElem?_eq_some_iff.1 hb).1 hjS hjk ⟨b, d, hb, hd, .inl hyo⟩
        have := hi.le j hjS b hb e heb
        omega
      · have h0 := hoke.2.2.2.2
        rcases hi.val (place e) with h1 | ⟨j, hj, b, hb, w, hw, hp, hv2⟩
        · omega
        · have := (h.okw hb hw).2.2.2.2; omega
    · have hoke := h.okw hd he
      rcases hi.val (place e) with h0 | ⟨j, hj, b, hb, w, hw, hp, hv⟩
      · have := hoke.2.2.2.2; omega
      · apply Classical.byContradiction
        intro hlt
        have hokw := h.okw hb hw
        have hal := (place_alike hoke hokw).1 hp.symm
        rcases Int.lt_or_le e.v w.v with hlt2 | hle2
        · exact hi.no j hj k hk hkS ⟨d, b, hd, hb, .inr (.inl ⟨e, he, w, hw, hal, hokw.2.2.2.2, by omega⟩)⟩
        · have hew : e = w := en_eq hal (by omega)
          subst hew
          have := h.once hd hb he hw
          subst this
          exact hkS hj
    · exact hno i (List.getElem?_eq_some_iff.1 hx).1 hiS hik ⟨x, d, hx, hd, (ahead_iff (h.ws hd).okR).2 (.inr hn)⟩
  · rintro ⟨hkS, d, hd, hnx, hno⟩
    refine ⟨(List.getElem?_eq_some_iff.1 hd).1, hkS, ?_⟩
    rintro i hil hiS hik ⟨a, b, ha, hb, hab⟩
    rw [hd] at hb; cases hb
    rcases (ahead_iff (h.ws hd).okR).1 hab with ⟨w, hw, r, hr, hal, _, hle⟩ | hn
    · have hokw := h.okw ha hw
      have hokr := h.okr hd hr
      have h1 := hnx.1 r hr
      have hpl := (place_alike hokw hokr).2 hal
      rcases hi.val (place r) with h0 | ⟨j, hj, c, hc, w2, hw2, hp, hv⟩
      · have := hokw.2.2.2.2; omega
      · have hokw2 := h.okw hc hw2
        have hal2 := (place_alike hokw hokw2).1 (hpl.trans hp.symm)
        rcases Int.lt_or_le w.v w2.v with hlt2 | hle2
        · exact hi.no j hj i hil hiS ⟨a, c, ha, hc, .inr (.inl ⟨w, hw, w2, hw2, hal2, hokw2.2.2.2.2, by omega⟩)⟩
        · have hew : w = w2 := en_eq hal2 (by omega)
          subst hew
          have := h.once ha hc hw hw2
          subst this
          exact hiS hj
    · exact hno i a ha hiS hik hn

theorem InvS.next {l : List Dd} (h : Hist l) {S : List Nat} (hi : InvS l S) {i : Nat} (hp : Pick (Ahd l) l.length S i) (hr : PickR l S i) : InvS l (S ++ [i]) := by
  obtain ⟨_, d, hd, hnx, _⟩ := hr
  have hu := (h.ws hd).uniq
  refine ⟨fun j hj k hk hkS => ?_, fun j hj b hb w hw => ?_, fun p => ?_⟩
  · have hkS' : k ∉ S ∧ k ≠ i := by simpa using hkS
    rcases List.mem_append.1 hj with hj | hj
    · exact hi.no j hj k hk hkS'.1
    · simp at hj; subst hj
      exact hp.2.2 k hk hkS'.1 hkS'.2
  · rw [nowS_snoc' hd]
    rcases List.mem_append.1 hj with hj | hj
    · have h1 := hi.le j hj b hb w hw
      rcases after_cases (nowS l S) hu (place w) with ⟨h2, _⟩ | ⟨e, he, hpe, h2⟩
      · rw [h2]; exact h1
      · have := hnx.2 e he
        rw [hpe] at this; omega
    · simp at hj; subst hj
      rw [hd] at hb; cases hb
      rw [after_mem hu hw]; exact Int.le_refl _
  · rw [nowS_snoc' hd]
    rcases after_cases (nowS l S) hu p with ⟨h2, _⟩ | ⟨e, he, hpe, h2⟩
    · rw [h2]
      rcases hi.val p with h0 | ⟨j, hj, b, hb, w, hw, hp, hv⟩
      · exact .inl h0
      · exact .inr ⟨j, List.mem_append_left _ hj, b, hb, w, hw, hp, hv⟩
    · exact .inr ⟨i, by simp, d, hd, e, he, hpe, h2.symm⟩

/-- picked, the first ones that can be. -/
def ChainR (l : List Dd) (S : List Nat) : Prop := ∀ (t k : Nat), S[t]? = some k → PickR l (S.take t) k ∧ ∀ j, j < k → ¬ PickR l (S.take t) j
theorem chain_inv {l : List Dd} (h : Hist l) (hs : NoSelf l) {S : List Nat} (hc : Chain (Ahd l) l.length S) : ∀ t, t ≤ S.length → InvS l (S.take t) := by
  intro t
  induction t with
  | zero => intro _; simpa using InvS.nil
  | succ t ih =>
    intro ht
    have hi := ih (by omega)
    have h1 := hc t _ (List.getElem?_eq_getElem (show t < S.length by omega))
    rw [List.take_succ_eq_append_getElem (show t < S.length by omega)]
    exact hi.next h h1.1 ((pick_iff h hs hi _).1 h1.1)
theorem chain_iff {l : List Dd} (h : Hist l) (hs : NoSelf l) {S : List Nat} : Chain (Ahd l) l.length S ↔ ChainR l S := by
  constructor
  · intro hc t k hk
    have hi := chain_inv h hs hc t (by have := (List.getElem?_eq_some_iff.1 hk).1; omega)
    have h1 := hc t k hk
    exact ⟨(pick_iff h hs hi k).1 h1.1, fun j hj hh => h1.2 j hj ((pick_iff h hs hi j).2 hh)⟩
  · intro hc
    have key : ∀ t, t ≤ S.length → InvS l (S.take t) := by
      intro t
      induction t with
      | zero => intro _; simpa using InvS.nil
      | succ t ih =>
        intro ht
        have hi := ih (by omega)
        have h1 := hc t _ (List.getElem?_eq_getElem (show t < S.length by omega))
        rw [List.take_succ_eq_append_getElem (show t < S.length by omega)]
        exact hi.next h ((pick_iff h hs hi _).2 h1.1) h1.1
    intro t k hk
    have hi := key t (by have := (List.getElem?_eq_some_iff.1 hk).1; omega)
    have h1 := hc t k hk
    exact ⟨(pick_iff h hs hi k).2 h1.1, fun j hj hh => h1.2 j hj ((pick_iff h hs hi j).1 hh)⟩

/-- rows of picks: two that are as long as each other are one. -/
theorem pick_unique {P : List Nat → Nat → Prop} : ∀ {S T : List Nat} (_ : ∀ (t k : Nat), S[t]? = some k → P (S.take t) k ∧ ∀ j, j < k → ¬ P (S.take t) j) (_ : ∀ (t k : Nat), T[t]? = some k → P (T.take t) k ∧ ∀ j, j < k → ¬ P (T.take t) j) (t : Nat), t ≤ S.length → t ≤ T.length → S.take t = T.take t := by
  intro S T hS hT t
  induction t with
  | zero => intros; simp
  | succ t ih =>
    intro h1 h2
    have he := ih (by omega) (by omega)
    have hs := hS t _ (List.getElem?_eq_getElem (show t < S.length by omega))
    have ht := hT t _ (List.getElem?_eq_getElem (show t < T.length by omega))
    rw [List.take_succ_eq_append_getElem (show t < S.length by omega), List.take_succ_eq_append_getElem (show t < T.length by omega), he]
    rw [he] at hs
    congr 2
    rcases Nat.lt_trichotomy S[t] T[t] with h | h | h
    · exact absurd hs.1 (ht.2 _ h)
    · exact h
    · exact absurd ht.1 (hs.2 _ h)

/-- where a deed reads what it wrote, it is never picked. -/
theorem never {l : List Dd} (h : Hist l) {i : Nat} {d : Dd} (hd : l[i]? = some d) (hy : Younger d.w d.r 0) (S : List Nat) : ¬ PickR l S i := by
  rintro ⟨_, d', hd', hnx, _⟩
  rw [hd] at hd'; cases hd'
  obtain ⟨w, hw, r, hr, hal, _, hle⟩ := hy
  have h1 := hnx.1 r hr
  have h2 := hnx.2 w hw
  have hpl := (place_alike (h.okw hd hw) (h.okr hd hr)).2 hal
  rw [hpl] at h2; omega

/-! orders -/
/-- one behind the other, each can come next. -/
def Ser (l : List Dd) (S : List Nat) : Prop := ∀ (t k : Nat), S[t]? = some k → k ∉ S.take t ∧ ∃ d, l[k]? = some d ∧ Next (nowS l (S.take t)) d
theorem Ser.le_succ {l : List Dd} (h : Hist l) {S : List Nat} (hs : Ser l S) {t : Nat} (ht : t < S.length) (p : Nat) : nowS l (S.take t) p ≤ nowS l (S.take (t + 1)) p := by
  obtain ⟨_, d, hd, hnx⟩ := hs t _ (List.getElem?_eq_getElem ht)
  rw [List.take_succ_eq_append_getElem ht, nowS_snoc' hd]
  rcases after_cases (nowS l (S.take t)) (h.ws hd).uniq p with ⟨h2, _⟩ | ⟨e, he, hpe, h2⟩
  · omega
  · have := hnx.2 e he
    rw [hpe] at this; omega
theorem Ser.le {l : List Dd} (h : Hist l) {S : List Nat} (hs : Ser l S) {t u : Nat} (htu : t ≤ u) (hu : u ≤ S.length) (p : Nat) : nowS l (S.take t) p ≤ nowS l (S.take u) p := by
  induction u with
  | zero => have : t = 0 := by omega
            subst this; exact Int.le_refl _
  | succ u ih =>
    rcases Nat.lt_or_ge u t with h1 | h1
    · have : t = u + 1 := by omega
      subst this; exact Int.le_refl _
    · exact Int.le_trans (ih h1 (by omega)) (hs.le_succ h (by omega) p)
theorem Ser.ahead {l : List Dd} (h : Hist l) {S : List Nat} (hs : Ser l S) {t u i k : Nat} (hi : S[t]? = some i) (hk : S[u]? = some k) (ha : Ahd l i k) : i = k ∨ t < u := by
  apply Classical.byContradiction
  intro hn
  have hne : i ≠ k := fun hh => hn (.inl hh)
  have hut : u < t := by
    rcases Nat.lt_trichotomy u t with h1 | h1 | h1
    · exact h1
    · subst h1; rw [hi] at hk; cases hk; exact absurd rfl hne
    · exact absurd (.inr h1) hn
  obtain ⟨a, b, hla, hlb, hab⟩ := ha
  obtain ⟨_, a', ha', hna⟩ := hs t i hi
  obtain ⟨_, b', hb', hnb⟩ := hs u k hk
  rw [hla] at ha'; cases ha'
  rw [hlb] at hb'; cases hb'
  have htl := (List.getElem?_eq_some_iff.1 hi).1
  have hul := (List.getElem?_eq_some_iff.1 hk).1
  have hwr : ∀ w ∈ b.w, w.v ≤ nowS l (S.take t) (place w) := by
    intro w hw
    have h1 := hs.le h (show u + 1 ≤ t by omega) (by omega) (place w)
    have h2 : nowS l (S.take (u + 1)) (place w) = w.v := by
      rw [List.take_succ_eq_append_getElem hul]
      have : S[u] = k := (List.getElem?_eq_some_iff.1 hk).2
      rw [this, nowS_snoc' hlb, after_mem (h.ws hlb).uniq hw]
    omega
  rcases hab with ⟨w, hw, r, hr, hal, _, hle⟩ | ⟨w, hw, x, hx, hal, _, hle⟩ | ⟨r, hr, x, hx, hal, _, hle⟩
  · have h1 := hnb.1 r hr
    have h2 := hs.le h (Nat.le_of_lt hut) (by omega) (place r)
    have h3 := hna.2 w hw
    have hpl := (place_alike (h.okw hla hw) (h.okr hlb hr)).2 hal
    rw [hpl] at h3; omega
  · have h1 := hwr x hx
    have h3 := hna.2 w hw
    have hpl := (place_alike (h.okw hla hw) (h.okw hlb hx)).2 hal
    rw [hpl] at h3; omega
  · have h1 := hwr x hx
    have h3 := hna.1 r hr
    have hpl := (place_alike (h.okr hla hr) (h.okw hlb hx)).2 hal
    rw [hpl] at h3; omega
theorem Ser.noSelf {l : List Dd} (h : Hist l) {S : List Nat} (hs : Ser l S) {t i : Nat} (hi : S[t]? = some i) {d : Dd} (hd : l[i]? = some d) : ¬ Younger d.w d.r 0 := by
  rintro ⟨w, hw, r, hr, hal, _, hle⟩
  obtain ⟨_, d', hd', hnx⟩ := hs t i hi
  rw [hd] at hd'; cases hd'
  have h1 := hnx.1 r hr
  have h2 := hnx.2 w hw
  have hpl := (place_alike (h.okw hd hw) (h.okr hd hr)).2 hal
  rw [hpl] at h2; omega
theorem Ser.nodup {l : List Dd} {S : List Nat} (hs : Ser l S) : S.Nodup := by
  unfold List.Nodup
  rw [List.pairwise_iff_getElem]
  intro i j hi hj hij he
  refine (hs j _ (List.getElem?_eq_getElem hj)).1 ?_
  rw [← he, List.mem_take_iff_getElem]
  exact ⟨i, by omega, rfl⟩
theorem Ser.lt {l : List Dd} {S : List Nat} (hs : Ser l S) : ∀ x ∈ S, x < l.length := by
  intro x hx
  obtain ⟨t, ht, rfl⟩ := List.getElem_of_mem hx
  obtain ⟨_, d, hd, _⟩ := hs t _ (List.getElem?_eq_getElem ht)
  exact (List.getElem?_eq_some_iff.1 hd).1
/-- numbers below n, none twice, n of them: all. -/
theorem all_of_nodup : ∀ {n : Nat} {S : List Nat}, S.Nodup → (∀ x ∈ S, x < n) → S.length = n → ∀ k, k < n → k ∈ S := by
  intro n S hn hl hlen k hk
  apply Classical.byContradiction
  intro hkS
  have h1 : (k :: S).Nodup := List.nodup_cons.2 ⟨hkS, hn⟩
  have h2 : (k :: S) ⊆ List.range n := by
    intro x hx
    rcases List.mem_cons.1 hx with rfl | hx
    · simpa using hk
    · simpa using hl x hx
  have h3 := List.Nodup.length_le_of_subset h1 h2
  simp at h3; omega
/-- an order of all that is serial: whoever is first of those that are left can be picked. -/
theorem Ser.pick {l : List Dd} (h : Hist l) {S : List Nat} (hs : Ser l S) (hlen : S.length = l.length) {T : List Nat} {t k : Nat} (hk : S[t]? = some k) (hkT : k ∉ T) (hT : ∀ u j, u < t → S[u]? = some j → j ∈ T) : Pick (Ahd l) l.length T k := by
  have hall := all_of_nodup hs.nodup hs.lt hlen
  refine ⟨hs.lt k (List.mem_of_getElem? hk), hkT, fun i hi hiT hik ha => ?_⟩
  obtain ⟨u, hu, rfl⟩ := List.getElem_of_mem (hall i hi)
  rcases hs.ahead h (List.getElem?_eq_getElem hu) hk ha with h1 | h1
  · exact hik h1
  · exact hiT (hT u _ h1 (List.getElem?_eq_getElem hu))
/-- where there is a serial order of all, some one can be picked as long as one is left. -/
theorem Ser.some_pick {l : List Dd} (h : Hist l) {S : List Nat} (hs : Ser l S) (hlen : S.length = l.length) {T : List Nat} (hT : T.length < l.length) : ∃ k, Pick (Ahd l) l.length T k := by
  have hex : ∃ (t k : Nat), S[t]? = some k ∧ k ∉ T := by
    apply Classical.byContradiction
    intro hn
    have hsub : S ⊆ T := by
      intro x hx
      obtain ⟨t, ht, rfl⟩ := List.getElem_of_mem hx
      exact Classical.byContradiction fun hh => hn ⟨t, _, List.getElem?_eq_getElem ht, hh⟩
    have := List.Nodup.length_le_of_subset hs.nodup hsub
    omega
  have hmin : ∃ t : Nat, (∃ k, S[t]? = some k ∧ k ∉ T) ∧ ∀ u, u < t → ¬ ∃ k, S[u]? = some k ∧ k ∉ T := by
    obtain ⟨t, hkt⟩ := hex
    induction t using Nat.strongRecOn with
    | ind t ih =>
      rcases Classical.em (∃ u, u < t ∧ ∃ k, S[u]? = some k ∧ k ∉ T) with ⟨u, hu, hk⟩ | hno
      · exact ih u hu hk
      · exact ⟨t, hkt, fun u hu hk => hno ⟨u, hu, hk⟩⟩
  obtain ⟨t, ⟨k, hk, hkT⟩, hno⟩ := hmin
  exact ⟨k, hs.pick h hlen hk hkT fun u j hu hj => Classical.byContradiction fun hh => hno u hu ⟨j, hj, hh⟩⟩
/-- what was picked is serial. -/
theorem chain_ser {l : List Dd} (h : Hist l) (hs : NoSelf l) {S : List Nat} (hc : Chain (Ahd l) l.length S) : Ser l S := by
  intro t k hk
  have hi := chain_inv h hs hc t (by have := (List.getElem?_eq_some_iff.1 hk).1; omega)
  obtain ⟨h1, d, hd, hnx, _⟩ := (pick_iff h hs hi k).1 (hc t k hk).1
  exact ⟨h1, d, hd, hnx⟩
end Go.Proofs.Ythlfemjbeihmbaa.HL
