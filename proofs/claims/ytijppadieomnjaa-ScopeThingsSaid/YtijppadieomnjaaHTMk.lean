/- A row that grows and shrinks; a block on its way, as cells. Conditions: none (lemmas). -/
import Derived.Test.YtijppadieomnjaaHTMh
import Derived.Test.YtijppadieomnjaaHTDg
import Derived.Test.YtijppadieomnjaaHTDe
namespace Go.Proofs.Ytijppadieomnjaa.HT
open Go

/-- a row of a function's own that grows and shrinks, in memory from lo on. -/
structure Stk (H : Heap) (lo : Nat) (s : Sl) (sz : Nat) (L : List (List HV)) : Prop where
  lon : lo ≤ H.n
  szs : ∀ l ∈ L, l.length = sz
  mem : (s = ⟨none, 0, 0, none⟩ ∧ L = []) ∨ ∃ b cap cs, s = ⟨some (b, 0), L.length, cap, some sz⟩ ∧ 0 < cap ∧ L.length ≤ cap ∧ lo ≤ b ∧ b < H.n ∧ H.get b = .cells cs false ∧ cs.length = cap * sz ∧ cs.take (L.length * sz) = L.flatten
theorem Stk.nil {H : Heap} {lo : Nat} (h : lo ≤ H.n) (sz : Nat) : Stk H lo ⟨none, 0, 0, none⟩ sz [] := ⟨h, by simp, .inl ⟨rfl, rfl⟩⟩
theorem Stk.len {H : Heap} {lo sz : Nat} {s : Sl} {L : List (List HV)} (h : Stk H lo s sz L) : s.len = L.length := by
  rcases h.mem with ⟨rfl, rfl⟩ | ⟨b, cap, cs, rfl, _⟩ <;> rfl
theorem Stk.keeps {H H' : Heap} {lo sz : Nat} {s : Sl} {L : List (List HV)} (h : Stk H lo s sz L) (k : Keeps H H') : Stk H' lo s sz L :=
  ⟨Nat.le_trans h.lon k.n, h.szs, by
    rcases h.mem with h1 | ⟨b, cap, cs, h1, h2, h3, h4, h5, h6, h7⟩
    · exact .inl h1
    · exact .inr ⟨b, cap, cs, h1, h2, h3, h4, Nat.lt_of_lt_of_le h5 k.n, by rw [k.get b h5]; exact h6, h7⟩⟩
/-- one more. -/
theorem Stk.add {α : Type} {Q : α → Heap → Prop} {H : Heap} {lo sz by_ : Nat} {s : Sl} {L : List (List HV)} (h : Stk H lo s sz L) {l : List HV} (hl : l.length = sz) (hsz : 0 < sz) (hr : (L.length + 1) * by_ ≤ room) (hr2 : L.length + 1 ≤ room) {f : Sl → M α}
    (hf : ∀ s' H', Stk H' lo s' sz (L ++ [l]) → But (fun b => lo ≤ b) H H' → wp (f s') Q H') : wp (apd s sz by_ 1 l f) Q H := by
  have hlen := h.len
  have hlo := h.lon
  have hg : (decide ((s.len + 1) * by_ ≤ room) && decide (l.length = 1 * sz) && decide (0 < sz) && decide (s.len + 1 ≤ room)) = true := by
    rw [hlen]; simp [hl, hsz, hr, hr2]
  have hszs : ∀ x ∈ L ++ [l], x.length = sz := fun x hx => by
    rcases List.mem_append.1 hx with hx | hx
    · exact h.szs x hx
    · simp at hx; subst hx; exact hl
  unfold apd
  rw [hg]
  rcases h.mem with ⟨rfl, rfl⟩ | ⟨b, cap, cs, rfl, h2, h3, h4, h5, h6, h7, h8⟩
  · refine wp_of (m' := f ⟨some (H.n, 0), 1, 1, some sz⟩) (H' := H.push (.cells l false)) (fun n => rfl) (hf _ _ ⟨by simp [Heap.push]; omega, hszs, .inr ⟨H.n, 1, l, rfl, by omega, by simp, hlo, by simp [Heap.push], by simp [Heap.push], by omega, ?_⟩⟩ (Keeps.push H _).but)
    rw [List.nil_append, List.flatten_singleton, List.length_singleton, Nat.one_mul, ← hl, List.take_length]
  · have hfl : L.flatten.length = L.length * sz := flatten_length h.szs
    by_cases hc : L.length + 1 ≤ cap
    · have hin : (L.length + 1) * sz ≤ cap * sz := Nat.mul_le_mul_right _ hc
      rw [Nat.succ_mul] at hin
      have hput : 0 + L.length * sz + l.length ≤ cs.length := by omega
      refine wp_of (m' := f ⟨some (b, 0), L.length + 1, cap, some sz⟩) (H' := H.set b (.cells (putN cs (0 + L.length * sz) l) false)) (fun n => ?_) (hf _ _ ⟨by simp [Heap.set]; omega, hszs, .inr ⟨b, cap, putN cs (0 + L.length * sz) l, by simp, h2, by simp; omega, h4, h5, by simp [Heap.set], by rw [putN_lenW hput]; exact h7, ?_⟩⟩ ((But.refl (fun x => lo ≤ x) H).set (b := b) h4 _))
      · show (if L.length + 1 ≤ cap then _ else _ : Option (α × Heap)) = _
        rw [if_pos hc]
        show stN b (0 + L.length * sz) l _ H n = _
        unfold stN
        simp only [h6]
        rw [show decide (0 + L.length * sz + l.length ≤ cs.length) = true from by simpa using hput]
        rfl
      · rw [List.flatten_append, ← h8]
        simp only [List.length_append, List.length_singleton, List.flatten_singleton, putN, Nat.zero_add]
        rw [Nat.succ_mul, List.append_assoc, List.take_append, List.take_take, List.length_take]
        rw [Nat.min_eq_right (by omega : L.length * sz ≤ L.length * sz + sz), Nat.min_eq_left (by omega : L.length * sz ≤ cs.length)]
        rw [show L.length * sz + sz - L.length * sz = sz by omega, List.take_append_of_le_length (by omega), ← hl, List.take_length]
    · have hcap : cap = L.length := by omega
      subst hcap
      have hcs : cs = L.flatten := by rw [← h8, ← h7, List.take_length]
      have hget : ∀ (x : Nat), ((H.set b .dead).push (.cells ((L ++ [l]).flatten) false)).get x = if x = H.n then .cells ((L ++ [l]).flatten) false else if x = b then .dead else H.get x := fun _ => rfl
      refine wp_of (m' := f ⟨some (H.n, 0), L.length + 1, L.length + 1, some sz⟩) (H' := (H.set b .dead).push (.cells ((L ++ [l]).flatten) false)) (fun n => ?_) (hf _ _ ⟨by simp [Heap.push, Heap.set]; omega, hszs, .inr ⟨H.n, L.length + 1, _, by simp, by omega, by simp, hlo, by simp [Heap.push, Heap.set], by rw [hget, if_pos rfl], ?_, ?_⟩⟩ ⟨by simp [Heap.push, Heap.set], fun x hx hm => ?_⟩)
      · show (if L.length + 1 ≤ L.length then _ else _ : Option (α × Heap)) = _
        rw [if_neg (by omega)]
        simp only [h6]
        unfold gxN
        rw [show decide (0 + L.length * sz ≤ cs.length) = true from by simp [h7]]
        have e1 : (cs.drop 0).take (L.length * sz) = L.flatten := by rw [List.drop_zero, ← h7, List.take_length, hcs]
        have e2 : (decide (sz = sz) && decide (0 = 0) && decide (cs.length = L.length * sz) && !false) = true := by simp [h7]
        simp only [gd, e1, nw, h7, decide_true, Bool.and_self, Bool.not_false]
        simp [Heap.set]
      · rw [flatten_length hszs]; simp
      · rw [← flatten_length hszs, List.take_length]
      · rw [hget, if_neg (by omega), if_neg (fun e => hm (by omega))]
/-- the last one. -/
theorem Stk.last {α : Type} {Q : α → Heap → Prop} {H : Heap} {lo sz : Nat} {s : Sl} {L : List (List HV)} {l : List HV} (h : Stk H lo s sz (L ++ [l])) {j : Int} (hj : j = (L.length : Int)) {g : Nat → Nat → List HV → M α} (hg : ∀ b o, wp (g b o l) Q H) :
    wp (ix s j sz fun b o => ldN b o sz fun cs => g b o cs) Q H := by
  subst hj
  have hl : l.length = sz := h.szs l (by simp)
  rcases h.mem with ⟨_, hh⟩ | ⟨b, cap, cs, rfl, h2, h3, h4, h5, h6, h7, h8⟩
  · simp at hh
  · have hfl : L.flatten.length = L.length * sz := flatten_length fun x hx => h.szs x (by simp [hx])
    unfold ix
    refine wp_gd (by simp) (wp_gd (by simp only [List.length_append, List.length_singleton, decide_eq_true_eq]; omega) ?_)
    show wp (mP (some (b, 0)) _) _ _
    rw [mP_eq']
    rw [List.length_append, List.length_singleton] at h3 h8
    have hin : (L.length + 1) * sz ≤ cap * sz := Nat.mul_le_mul_right _ h3
    rw [Nat.succ_mul] at hin h8
    refine wp_ldNo h6 (by rw [Int.toNat_natCast]; omega) ?_
    have : (cs.drop (0 + (L.length : Int).toNat * sz)).take sz = l := by
      have e := congrArg (List.drop (L.length * sz)) h8
      rw [List.drop_take, List.flatten_append, List.flatten_singleton, ← hfl, List.drop_left] at e
      rw [Nat.zero_add, Int.toNat_natCast, ← hfl]
      rw [show L.flatten.length + sz - L.flatten.length = sz by omega] at e
      exact e
    rw [this]; exact hg _ _
/-- a block on its way. -/
structure Lo where
  th : Th
  tx : Nat → ByteArray
  out : Nat → ByteArray
  ta : Nat → Int
  la : Nat → ByteArray
  r : Nat → Int
  pl : Int
structure LoL (y : List HV) (o : Lo) : Prop where
  len : y.length = 41
  th : ThL (y.take 23) o.th
  tx : ∀ i, i < 3 → y[23 + i]? = some (.str (o.tx i))
  out : ∀ i, i < 3 → y[26 + i]? = some (.str (o.out i))
  ta : ∀ i, i < 4 → y[29 + i]? = some (I (o.ta i))
  la : ∀ i, i < 3 → y[33 + i]? = some (.str (o.la i))
  r : ∀ i, i < 4 → y[36 + i]? = some (I (o.r i))
  pl : y[40]? = some (I o.pl)
def updS (f : Nat → ByteArray) (i : Nat) (v : ByteArray) : Nat → ByteArray := fun j => if j = i then v else f j
section
variable {y : List HV} {o : Lo}
theorem set_take {n e : Nat} (h : n ≤ e) (v : HV) : (y.set e v).take n = y.take n := by
  rw [List.take_set_of_le h]
theorem LoL.setPl (h : LoL y o) (v : Int) : LoL (y.set 40 (I v)) { o with pl := v } := by
  have hl := h.len
  refine ⟨by simpa using hl, by rw [set_take (by omega)]; exact h.th, fun i hi => ?_, fun i hi => ?_, fun i hi => ?_, fun i hi => ?_, fun i hi => ?_, by rw [List.getElem?_set_self (by omega)]⟩
  all_goals rw [List.getElem?_set_ne (by omega)]
  · exact h.tx i hi
  · exact h.out i hi
  · exact h.ta i hi
  · exact h.la i hi
  · exact h.r i hi
end
/-- a model: things, what arrives, what goes out, tallies. -/
structure MoL (y : List HV) (o : Lo) : Prop where
  len : y.length = 33
  th : ThL (y.take 23) o.th
  tx : ∀ i, i < 3 → y[23 + i]? = some (.str (o.tx i))
  out : ∀ i, i < 3 → y[26 + i]? = some (.str (o.out i))
  ta : ∀ i, i < 4 → y[29 + i]? = some (I (o.ta i))
theorem MoL.only {y y' : List HV} {o : Lo} (h : MoL y o) (h' : MoL y' o) : y = y' := by
  have e := h.th.only h'.th
  refine List.ext_getElem? fun i => ?_
  by_cases h23 : i < 23
  · have := congrArg (fun l : List HV => l[i]?) e
    simp only [List.getElem?_take, if_pos h23] at this
    exact this
  · by_cases h26 : i < 26
    · have e : i = 23 + (i - 23) := by omega
      rw [e, h.tx _ (by omega), h'.tx _ (by omega)]
    · by_cases h29 : i < 29
      · have e : i = 26 + (i - 26) := by omega
        rw [e, h.out _ (by omega), h'.out _ (by omega)]
      · by_cases h33 : i < 33
        · have e : i = 29 + (i - 29) := by omega
          rw [e, h.ta _ (by omega), h'.ta _ (by omega)]
        · rw [List.getElem?_eq_none (by have := h.len; omega), List.getElem?_eq_none (by have := h'.len; omega)]
end Go.Proofs.Ytijppadieomnjaa.HT
namespace Go.Proofs.Ytijppadieomnjaa.HT
open Go

def nxt (o : Lo) : Lo := { o with pl := wr (o.pl + 1) }
/-- one instruction of a block: what is, and the ways out; none: it can't be as yet. -/
def stepB (c : Ins) (o : Lo) (ws : List Lo) : Option (Lo × List Lo) :=
  match plainF c o.pl o.r with
  | some (pl', r') => some ({ o with pl := pl', r := r' }, ws)
  | none =>
    if (deedF c o.r).2.1 = true then
      if c.op = 14 ∧ (doF o.th o.tx (deedF c o.r).1).1 < 0 then none
      else some (nxt { o with th := (doF o.th o.tx (deedF c o.r).1).2, r := if (deedF c o.r).2.2 = true then updI o.r c.a.toNat (doF o.th o.tx (deedF c o.r).1).1 else o.r }, ws)
    else if c.op = 15 then some (nxt { o with out := updS o.out c.a.toNat (o.out c.a.toNat ++ strB [IntKind.wrap .u8 (o.r c.b.toNat)]) }, ws)
    else if c.op = 16 then some (nxt { o with la := updS o.la c.a.toNat (o.la c.a.toNat ++ strB [IntKind.wrap .u8 c.b]) }, ws)
    else if c.op = 18 then some (nxt { o with ta := updI o.ta c.a.toNat (sumI (o.ta c.a.toNat) c.b) }, ws)
    else if c.op = 20 then some (nxt o, { o with pl := c.a } :: ws)
    else if c.op = 19 then (match ws with | [] => none | w :: ws' => some (w, ws'))
    else if c.op = 21 then some (nxt o, [])
    else some (nxt o, ws)
/-- a block's run from where it is: to what it comes. -/
inductive Runs (p : List Ins) : Lo → List Lo → Option Lo → Prop
  | done {o ws c} (h : p[o.pl.toNat]? = some c) (h5 : c.op = 5) : Runs p o ws (some o)
  | wait {o ws c} (h : p[o.pl.toNat]? = some c) (h5 : c.op ≠ 5) (hs : stepB c o ws = none) : Runs p o ws none
  | step {o ws c o' ws' res} (h : p[o.pl.toNat]? = some c) (h5 : c.op ≠ 5) (hs : stepB c o ws = some (o', ws')) (hr : Runs p o' ws' res) : Runs p o ws res
theorem Runs.only {p : List Ins} {o : Lo} {ws : List Lo} {a : Option Lo} (h : Runs p o ws a) : ∀ {b}, Runs p o ws b → b = a := by
  induction h with
  | done h h5 => intro b hb; cases hb with
    | done => rfl
    | wait h' h5' => rw [h] at h'; cases h'; exact absurd h5 h5'
    | step h' h5' => rw [h] at h'; cases h'; exact absurd h5 h5'
  | wait h h5 hs => intro b hb; cases hb with
    | done h' h5' => rw [h] at h'; cases h'; exact absurd h5' h5
    | wait => rfl
    | step h' h5' hs' => rw [h] at h'; cases h'; rw [hs] at hs'; cases hs'
  | step h h5 hs hr ih => intro b hb; cases hb with
    | done h' h5' => rw [h] at h'; cases h'; exact absurd h5' h5
    | wait h' h5' hs' => rw [h] at h'; cases h'; rw [hs] at hs'; cases hs'
    | step h' h5' hs' hr' => rw [h] at h'; cases h'; rw [hs] at hs'; cases hs'; exact ih hr'

/-- what holds of a block after k steps. -/
structure LoOk (k : Nat) (o : Lo) : Prop where
  f : Short o.th.f 1000
  p : ∀ i, i < 3 → 0 ≤ o.th.p i
  tx : ∀ i, i < 3 → (o.tx i).size ≤ 1000
  out : ∀ i, i < 3 → (o.out i).size ≤ 2000 + k
  la : ∀ i, i < 3 → (o.la i).size ≤ k
theorem LoOk.up {k : Nat} {o : Lo} (h : LoOk k o) : LoOk (k + 1) o :=
  ⟨h.f, h.p, h.tx, fun i hi => by have := h.out i hi; omega, fun i hi => by have := h.la i hi; omega⟩
theorem LoOk.setPl {k : Nat} {o : Lo} (h : LoOk k o) (v : Int) : LoOk k { o with pl := v } := ⟨h.f, h.p, h.tx, h.out, h.la⟩
theorem LoOk.nxt {k : Nat} {o : Lo} (h : LoOk k o) : LoOk k (nxt o) := h.setPl _
theorem Short.upd {fs : Nat → Fil} {n i : Nat} {f : Fil} (h : Short fs n) (hf : i < 6 → f.2.size ≤ n) : Short (updF fs i f) n := by
  intro j hj
  unfold updF
  split
  · rename_i e; subst e; exact hf hj
  · exact h j hj
theorem putF_short {f : Fil} {a b : Int} (h : f.2.size ≤ 1000) : (putF f a b).2.size ≤ 1000 := by
  unfold putF
  split
  · exact h
  · rw [putG_size]; omega
theorem cutF_short {f : Fil} {a : Int} (h : f.2.size ≤ 1000) : (cutF f a).2.size ≤ 1000 := by
  unfold cutF
  split
  · exact h
  · rw [cutG_size]; omega
theorem doF_ok {t : Th} {tx : Nat → ByteArray} {d : De} (hok : d.ok) (h : Short t.f 1000) (hp : ∀ i, i < 3 → 0 ≤ t.p i) (htx : ∀ i, i < 3 → (tx i).size ≤ 1000) : Short (doF t tx d).2.f 1000 ∧ ∀ i, i < 3 → 0 ≤ (doF t tx d).2.p i := by
  unfold doF
  simp only
  split
  · exact ⟨h, hp⟩
  split
  · exact ⟨h, hp⟩
  split
  · exact ⟨h, hp⟩
  split
  · exact ⟨h.upd fun hi => putF_short (h _ hi), hp⟩
  split
  · exact ⟨h.upd fun hi => h _ hi, hp⟩
  split
  · exact ⟨h.upd fun hi => by show (0 : Nat) ≤ 1000; omega, hp⟩
  split
  · refine ⟨?_, hp⟩
    show Short (renF _ _ _) _
    unfold renF
    split
    · intro j hj
      unfold updF
      split
      · show (0 : Nat) ≤ 1000; omega
      · split
        · have := hok.f (by omega); exact h _ (by omega)
        · exact h j hj
    · exact h
  split
  · exact ⟨h.upd fun hi => cutF_short (h _ hi), hp⟩
  split
  · rename_i hlt
    refine ⟨h, fun i hi => ?_⟩
    show 0 ≤ updI t.p d.a.toNat (wr (t.p d.a.toNat + 1)) i
    unfold updI
    split
    · rename_i e; subst e
      have h1 := hp _ hi
      have h2 := htx _ hi
      rw [wr_small (by omega) (by omega)]; omega
    · exact hp i hi
  · exact ⟨h, hp⟩
end Go.Proofs.Ytijppadieomnjaa.HT
namespace Go.Proofs.Ytijppadieomnjaa.HT
open Go

def PlIn (at_ e : Nat) (o : Lo) : Prop := (at_ : Int) < o.pl ∧ o.pl ≤ e
def sumB (p : List Ins) : List Lo → Int
  | [] => 0
  | w :: ws => Bd p w.pl.toNat + sumB p ws
structure StOk (p : List Ins) (at_ e k : Nat) (o : Lo) (ws : List Lo) : Prop where
  ok : LoOk k o
  ww : ∀ w ∈ ws, LoOk k w
  po : PlIn at_ e o
  pw : ∀ w ∈ ws, PlIn at_ e w
  m : Bd p o.pl.toNat + sumB p ws + k ≤ 400
theorem sumB_len {p : List Ins} (hc : CanB p) {at_ e : Nat} (h : EndAt p at_ e) : ∀ {ws : List Lo}, (∀ w ∈ ws, PlIn at_ e w) → (ws.length : Int) ≤ sumB p ws
  | [], _ => by simp [sumB]
  | w :: ws, hw => by
    have h1 := sumB_len hc h (ws := ws) fun x hx => hw x (by simp [hx])
    have h2 := hw w (by simp)
    have := h.le
    unfold PlIn at h2
    have h3 := Bd_pos hc (i := w.pl.toNat) (by omega)
    simp only [sumB, List.length_cons]
    omega
/-- an instruction within a block. -/
theorem in_blk {p : List Ins} (hc : CanB p) {at_ e n : Nat} (he : EndAt p at_ e) (h1 : at_ < n) (h2 : n ≤ e) (hn : n < p.length) : (p[n]).op ≠ 0 ∧ (p[n]).op ≠ 4 ∧ ((p[n]).op = 5 → n = e) := by
  have hop := opn_in hc.shaped he.b he.le he.no n h1 h2
  have hB := opn_le_end hc.shaped hn
  have ho := (hc.one n hn).out
  rw [← hB, hop] at ho
  refine ⟨fun h => by have := ho (.inl h); omega, fun h => by have := ho (.inr h); omega, fun h => ?_⟩
  apply Classical.byContradiction
  intro hne
  exact he.no n hn h1 (by omega) h
theorem imax_ge (a b : Int) : a ≤ imax a b ∧ b ≤ imax a b := by unfold imax; split <;> omega
theorem StOk.here {p : List Ins} (hc : CanB p) {at_ e k : Nat} {o : Lo} {ws : List Lo} (he : EndAt p at_ e) (h : StOk p at_ e k o ws) :
    ∃ n : Nat, o.pl = n ∧ at_ < n ∧ n ≤ e ∧ ∃ hn : n < p.length, p[o.pl.toNat]? = some p[n] ∧ RngB p[n] := by
  have h1 := h.po
  have := he.le
  unfold PlIn at h1
  refine ⟨o.pl.toNat, by omega, by omega, by omega, by omega, ?_, (hc.one _ _).fits.rngB⟩
  rw [List.getElem?_eq_getElem]
theorem StOk.step {p : List Ins} (hc : CanB p) {at_ e k : Nat} {o o' : Lo} {ws ws' : List Lo} {c : Ins} (he : EndAt p at_ e) (h : StOk p at_ e k o ws) (hp : p[o.pl.toNat]? = some c) (h5 : c.op ≠ 5) (hs : stepB c o ws = some (o', ws')) :
    StOk p at_ e (k + 1) o' ws' := by
  obtain ⟨n, hpl, h1, h2, hn, hg, hr⟩ := h.here hc he
  rw [hg] at hp
  cases hp
  obtain ⟨i0, i4, i5⟩ := in_blk hc he h1 h2 hn
  have hne : n ≠ e := fun hh => by subst hh; exact h5 (he.fin hn)
  have hlen := hc.len
  have hB := Bd_eq hc.fwd hn
  have hw : wr (o.pl + 1) = (n : Int) + 1 := by rw [hpl]; exact wr_small (by omega) (by omega)
  have hm := h.m
  rw [hpl, Int.toNat_natCast] at hm
  have up : ∀ w ∈ ws, LoOk (k + 1) w := fun w hw => (h.ww w hw).up
  -- the next place
  have nx : ∀ o'' : Lo, LoOk (k + 1) o'' → o''.pl = o.pl → (p[n]).op ≠ 19 → ((p[n]).op = 3 → (p[n]).c ≠ 2) → (p[n]).op ≠ 20 → StOk p at_ e (k + 1) (nxt o'') ws := by
    intro o'' ho hpl' h19 h3 h20
    refine ⟨ho.nxt, up, ⟨?_, ?_⟩, h.pw, ?_⟩
    · show _ < wr (o''.pl + 1); rw [hpl', hw]; omega
    · show wr (o''.pl + 1) ≤ _; rw [hpl', hw]; omega
    · show Bd p (wr (o''.pl + 1)).toNat + _ + _ ≤ _
      rw [hpl', hw, show ((n : Int) + 1).toNat = n + 1 by omega]
      have : Bd p (n + 1) + 1 ≤ Bd p n := by
        rw [hB]; unfold oneB
        rw [if_neg (by omega), if_neg h20]
        have := (imax_ge (Bd p (n + 1)) (Bd p (p[n]).a.toNat)).1
        split
        · rename_i e3
          rw [if_neg (h3 e3)]; omega
        · omega
      omega
  unfold stepB at hs
  cases hpf : plainF p[n] o.pl o.r with
  | some q =>
    obtain ⟨pl', r'⟩ := q
    rw [hpf] at hs
    cases hs
    have hoo : LoOk (k + 1) { o with r := r' } := ⟨h.ok.up.f, h.ok.up.p, h.ok.up.tx, h.ok.up.out, h.ok.up.la⟩
    unfold plainF at hpf
    split at hpf
    · cases hpf; exact nx _ hoo rfl (by omega) (by omega) (by omega)
    split at hpf
    · cases hpf; exact nx _ hoo rfl (by omega) (by omega) (by omega)
    split at hpf
    · rename_i e3
      split at hpf
      · cases hpf
        obtain ⟨g1, g2⟩ := goal_in hc he hn h1 h2 (.inl e3)
        refine ⟨hoo.setPl _, up, ⟨by show _ < (p[n]).a; omega, g2⟩, h.pw, ?_⟩
        show Bd p (p[n]).a.toNat + _ + _ ≤ _
        have : Bd p (p[n]).a.toNat + 1 ≤ Bd p n := by
          rw [hB]; unfold oneB
          rw [if_neg (by omega), if_neg (by omega), if_pos e3]
          have := (imax_ge (Bd p (n + 1)) (Bd p (p[n]).a.toNat)).2
          split <;> omega
        omega
      · rename_i hgo
        cases hpf
        exact nx _ hoo rfl (by omega) (fun _ h2 => hgo (.inl h2)) (by omega)
    · cases hpf
  | none =>
    rw [hpf] at hs
    have h123 : (p[n]).op ≠ 3 := by
      intro e3
      unfold plainF at hpf
      rw [if_neg (by omega), if_neg (by omega), if_pos e3] at hpf
      split at hpf <;> cases hpf
    simp only at hs
    split at hs
    · rename_i hd
      have hdo := deedF_ok hr o.r hd
      have hsh := doF_ok hdo h.ok.f h.ok.p h.ok.tx
      have hop : (p[n]).op ≠ 19 ∧ (p[n]).op ≠ 20 := by
        constructor <;> (intro e; unfold deedF at hd; simp [e] at hd)
      split at hs
      · cases hs
      · cases hs
        exact nx _ ⟨hsh.1, hsh.2, h.ok.up.tx, h.ok.up.out, h.ok.up.la⟩ rfl hop.1 (by omega) hop.2
    split at hs
    · cases hs
      refine nx _ ⟨h.ok.up.f, h.ok.up.p, h.ok.up.tx, fun i hi => ?_, h.ok.up.la⟩ rfl (by omega) (by omega) (by omega)
      show (updS _ _ _ i).size ≤ _
      unfold updS
      split
      · rename_i ei; subst ei
        rw [ByteArray.size_append, strB_one]
        have := h.ok.out _ hi; omega
      · exact h.ok.up.out i hi
    split at hs
    · cases hs
      refine nx _ ⟨h.ok.up.f, h.ok.up.p, h.ok.up.tx, h.ok.up.out, fun i hi => ?_⟩ rfl (by omega) (by omega) (by omega)
      show (updS _ _ _ i).size ≤ _
      unfold updS
      split
      · rename_i ei; subst ei
        rw [ByteArray.size_append, strB_one]
        have := h.ok.la _ hi; omega
      · exact h.ok.up.la i hi
    split at hs
    · cases hs
      exact nx _ ⟨h.ok.up.f, h.ok.up.p, h.ok.up.tx, h.ok.up.out, h.ok.up.la⟩ rfl (by omega) (by omega) (by omega)
    split at hs
    · rename_i e20
      cases hs
      obtain ⟨g1, g2⟩ := goal_in hc he hn h1 h2 (.inr e20)
      refine ⟨h.ok.up.nxt, ?_, ⟨by show _ < wr (o.pl + 1); rw [hw]; omega, by show wr (o.pl + 1) ≤ _; rw [hw]; omega⟩, ?_, ?_⟩
      · intro w hw'
        rcases List.mem_cons.1 hw' with rfl | hw'
        · exact h.ok.up.setPl _
        · exact up w hw'
      · intro w hw'
        rcases List.mem_cons.1 hw' with rfl | hw'
        · exact ⟨by show _ < (p[n]).a; omega, g2⟩
        · exact h.pw w hw'
      · show Bd p (wr (o.pl + 1)).toNat + (Bd p (p[n]).a.toNat + sumB p ws) + _ ≤ _
        rw [hw, show ((n : Int) + 1).toNat = n + 1 by omega]
        have : Bd p n = 1 + Bd p (n + 1) + Bd p (p[n]).a.toNat := by
          rw [hB]; unfold oneB
          rw [if_neg (by omega), if_pos e20]
        omega
    split at hs
    · have hb := Bd_pos hc hn
      cases ws with
      | nil => cases hs
      | cons w ws =>
        cases hs
        refine ⟨(h.ww _ (by simp)).up, fun x hx => (h.ww x (by simp [hx])).up, h.pw _ (by simp), fun x hx => h.pw x (by simp [hx]), ?_⟩
        simp only [sumB] at hm
        omega
    split at hs
    · cases hs
      have hn0 := nx o h.ok.up rfl (by omega) (by omega) (by omega)
      have := sumB_len hc he h.pw
      refine ⟨hn0.ok, by simp, hn0.po, by simp, ?_⟩
      have := hn0.m
      simp only [sumB]
      omega
    · cases hs
      exact nx o h.ok.up rfl (by omega) (by omega) (by omega)
end Go.Proofs.Ytijppadieomnjaa.HT
