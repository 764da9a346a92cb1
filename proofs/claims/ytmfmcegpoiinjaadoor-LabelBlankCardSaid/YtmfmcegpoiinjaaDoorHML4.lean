/- Local memory with slices that grow. Conditions: none (lemmas). -/
import Derived.Test.YtmfmcegpoiinjaaDoorHMLt
import Derived.Test.YtmfmcegpoiinjaaDoorHML3
namespace Go.Proofs.YtmfmcegpoiinjaaDoor.HM
open Go

theorem wp_apdY {α : Type} {Q : α → Heap → Prop} {H H0 : Heap} {s : Sl} {sz by_ : Nat} {ls : List (List HV)} (h : Own H0 H s sz ls) {l : List HV} (hl : l.length = sz) (hsz : 0 < sz) (hr : (ls.length + 1) * by_ ≤ room) (hr2 : ls.length + 1 ≤ room) {f : Sl → M α}
    (hf : ∀ s' H', Own H0 H' s' sz (ls ++ [l]) → (∀ b, b < H.n → s.p ≠ some (b, 0) → H'.get b = H.get b) → H.n ≤ H'.n → s'.p = some (H.n, 0) → (∀ b, b < H.n → H'.ty b = H.ty b) → wp (f s') Q H') : wp (apd s sz by_ 1 l f) Q H := by
  have hlen : s.len = ls.length := h.slR.len
  have hk := h.keeps
  have hroom : room ≤ 9223372036854775807 := by decide
  unfold apd
  have hg : (decide ((s.len + 1) * by_ ≤ room) && decide (l.length = 1 * sz) && decide (0 < sz) && decide (s.len + 1 ≤ room)) = true := by
    rw [hlen]; simp [hl, hsz, hr, hr2]
  have hszs : ∀ x ∈ ls ++ [l], x.length = sz := fun x hx => by
    rcases List.mem_append.1 hx with hx | hx
    · exact h.szs x hx
    · simp at hx; subst hx; exact hl
  rw [hg]
  rcases h.mem with ⟨rfl, rfl⟩ | ⟨b, rfl, h1, h2, h3⟩
  · refine wp_of (m' := f ⟨some (H.n, 0), 1, 1, some sz⟩) (H' := H.push (.cells l false)) (fun n => rfl) (hf _ _ ⟨hk.trans (Keeps.push _ _), hszs, by simp, .inr ⟨H.n, rfl, hk.n, by simp [Heap.push], by simp [Heap.push]⟩⟩ (fun b hb _ => (Keeps.push H _).get b hb) (by simp [Heap.push]) rfl ?_)
    intro b hb; simp only [Heap.push]; rw [if_neg (by omega)]
  · have hfl : (ls.flatten).length = ls.length * sz := flatten_length h.szs
    have hget : ∀ (x : Nat), ((H.set b .dead).push (.cells ((ls ++ [l]).flatten) false)).get x = if x = H.n then .cells ((ls ++ [l]).flatten) false else if x = b then .dead else H.get x := fun _ => rfl
    refine wp_of (m' := f ⟨some (H.n, 0), ls.length + 1, ls.length + 1, some sz⟩) (H' := (H.set b .dead).push (.cells ((ls ++ [l]).flatten) false)) (fun n => ?_) (hf _ _ ⟨?_, hszs, by simp; omega, .inr ⟨H.n, by simp, hk.n, by simp [Heap.push, Heap.set], by rw [hget, if_pos rfl]⟩⟩ ?_ (by simp [Heap.push, Heap.set]) rfl ?_)
    · show (if ls.length + 1 ≤ ls.length then _ else _ : Option (α × Heap)) = _
      rw [if_neg (by omega)]
      simp only [h3]
      unfold gxN
      rw [show decide (0 + ls.length * sz ≤ ls.flatten.length) = true from by simp [hfl]]
      have e1 : (ls.flatten.drop 0).take (ls.length * sz) = ls.flatten := by rw [List.drop_zero, ← hfl, List.take_length]
      have e2 : (decide (sz = sz) && decide (0 = 0) && decide (ls.flatten.length = ls.length * sz) && !false) = true := by simp [hfl]
      simp only [gd, e1, nw, hfl, decide_true, Bool.and_self, Bool.not_false]
      simp [Heap.set]
    · exact ⟨by have := hk.n; simp [Heap.push, Heap.set]; omega, fun x hx => by
        have := hk.n
        rw [hget, if_neg (by omega), if_neg (by omega)]; exact hk.get x hx⟩
    · intro x hx hne
      rw [hget, if_neg (by omega), if_neg (fun hh => hne (by rw [hh]))]
    · intro x hx
      show (if x = H.n then none else H.ty x) = H.ty x
      rw [if_neg (by omega)]

abbrev GSl := Sl × Nat × List (List HV)
/-- blocks that stay, and slices that grow, all made since H0, each by itself. -/
structure Lg (H0 H : Heap) (fx : List (Nat × HObj)) (ss : List GSl) : Prop where
  lm : Lm H0 H fx
  own : ∀ e ∈ ss, Own H0 H e.1 e.2.1 e.2.2
  dj : ∀ (i j : Nat) (a b : GSl) (x : Nat), ss[i]? = some a → ss[j]? = some b → a.1.p = some (x, 0) → b.1.p = some (x, 0) → i = j
  df : ∀ e ∈ ss, ∀ x, e.1.p = some (x, 0) → ∀ p ∈ fx, p.1 ≠ x
theorem Own.blk {H0 H : Heap} {s : Sl} {sz : Nat} {ls : List (List HV)} (h : Own H0 H s sz ls) {x : Nat} (hp : s.p = some (x, 0)) : H0.n ≤ x ∧ x < H.n := by
  rcases h.mem with ⟨rfl, _⟩ | ⟨b, rfl, h1, h2, _⟩
  · cases hp
  · cases hp; exact ⟨h1, h2⟩
section
variable {H0 H : Heap} {fx : List (Nat × HObj)} {ss : List GSl}
theorem Lg.of (h : Lm H0 H fx) : Lg H0 H fx [] := ⟨h, fun e he => (by cases he), fun i j a b x h1 => (by simp at h1), fun e he => (by cases he)⟩
/-- one more slice, empty. -/
theorem Lg.nil (h : Lg H0 H fx ss) (sz : Nat) : Lg H0 H fx (ss ++ [(⟨none, 0, 0, none⟩, sz, [])]) := by
  refine ⟨h.lm, fun e he => ?_, fun i j a b x h1 h2 h3 h4 => ?_, fun e he x hx => ?_⟩
  · rcases List.mem_append.1 he with he | he
    · exact h.own e he
    · simp at he; subst he; exact Own.nil h.lm.l.k sz
  · rw [List.getElem?_append] at h1 h2
    split at h1 <;> split at h2
    · exact h.dj i j a b x h1 h2 h3 h4
    · have := List.mem_of_getElem? h2
      simp at this; subst this; cases h4
    · have := List.mem_of_getElem? h1
      simp at this; subst this; cases h3
    · have := List.mem_of_getElem? h2
      simp at this; subst this; cases h4
  · rcases List.mem_append.1 he with he | he
    · exact h.df e he x hx
    · simp at he; subst he; cases hx
theorem Lg.keeps {H' : Heap} (h : Lg H0 H fx ss) (k : Kp H H') : Lg H0 H' fx ss := ⟨h.lm.keeps k, fun e he => (h.own e he).keep k.k, h.dj, h.df⟩
theorem Lg.kp (h : Lg H0 H fx ss) : Kp H0 H := h.lm.kp
/-- a block that stays turns. -/
theorem Lg.set {i b : Nat} {o : HObj} (h : Lg H0 H fx ss) (hi : fx[i]? = some (b, o)) (o' : HObj) : Lg H0 (H.set b o') (fx.set i (b, o')) ss := by
  have hmem := List.mem_of_getElem? hi
  refine ⟨h.lm.set hi o', fun e he => ?_, h.dj, fun e he x hx p hp => ?_⟩
  · have ho := h.own e he
    refine ⟨ho.keeps.set (h.lm.ge hi) o', ho.szs, ho.lt, ?_⟩
    rcases ho.mem with h1 | ⟨c, h1, h2, h3, h4⟩
    · exact .inl h1
    · refine .inr ⟨c, h1, h2, h3, ?_⟩
      have : c ≠ b := fun hh => h.df e he c (by rw [h1]) _ hmem hh.symm
      simp only [Heap.set]; rw [if_neg this]; exact h4
  · rcases List.mem_or_eq_of_mem_set hp with hp | rfl
    · exact h.df e he x hx p hp
    · exact h.df e he x hx (b, o) hmem
theorem Lg.push (h : Lg H0 H fx ss) (o : HObj) : Lg H0 (H.push o) (fx ++ [(H.n, o)]) ss := by
  refine ⟨h.lm.push o, fun e he => (h.own e he).keep (Keeps.push _ _), h.dj, fun e he x hx p hp => ?_⟩
  rcases List.mem_append.1 hp with hp | hp
  · exact h.df e he x hx p hp
  · simp at hp; subst hp
    have := ((h.own e he).blk hx).2
    simp only; omega
section
variable {α : Type} {Q : α → Heap → Prop}
theorem wp_stG {b o : Nat} {cs : List HV} {v : HV} {m : M α} (i : Nat) (h : Lg H0 H fx ss) (hi : fx[i]? = some (b, .cells cs false)) (ho : o < cs.length) (hv : v.sc = true)
    (hf : ∀ H', Lg H0 H' (fx.set i (b, .cells (cs.set o v) false)) ss → wp m Q H') : wp (stC b o v m) Q H :=
  wp_stC (h.lm.get hi) ho hv (hf _ (h.set hi _))
theorem wp_ldL {b o : Nat} {cs : List HV} {ro : Bool} {v : HV} {f : HV → M α} (i : Nat) (h : Lg H0 H fx ss) (hi : fx[i]? = some (b, .cells cs ro)) (hv : cs[o]? = some v) (hf : wp (f v) Q H) : wp (ldC b o f) Q H := wp_ldM i h.lm hi hv hf
theorem wp_puG {b : Nat} {s : ByteArray} {v : HV} {es es' : List (HV × HV)} {m : M α} (i : Nat) (h : Lg H0 H fx ss) (hi : fx[i]? = some (b, .spc (.map es))) (hq : puS es s v = some es')
    (hf : ∀ H', Lg H0 H' (fx.set i (b, .spc (.map es'))) ss → wp m Q H') : wp (puM b s v m) Q H := wp_pu (h.lm.get hi) hq (hf _ (h.set hi _))
theorem wp_nwG {cs : List HV} {f : Nat → M α} (h : Lg H0 H fx ss) (hf : ∀ H' b, b = H.n → Lg H0 H' (fx ++ [(b, .cells cs false)]) ss → wp (f b) Q H') : wp (nw cs f) Q H :=
  wp_nw (hf _ _ rfl (h.push _))
theorem wp_nwSG {s : Spc} {f : Nat → M α} (h : Lg H0 H fx ss) (hf : ∀ H' b, b = H.n → Lg H0 H' (fx ++ [(b, .spc s)]) ss → wp (f b) Q H') : wp (nwS s f) Q H := by
  have := hf _ _ rfl (h.push (.spc s))
  exact this
/-- append. -/
theorem wp_apdG {s : Sl} {sz by_ : Nat} {ls : List (List HV)} {l : List HV} {f : Sl → M α} (i : Nat) (h : Lg H0 H fx ss) (hi : ss[i]? = some (s, sz, ls)) (hl : l.length = sz) (hsz : 0 < sz) (hr : (ls.length + 1) * by_ ≤ room) (hr2 : ls.length + 1 ≤ room)
    (hf : ∀ s' H', Lg H0 H' fx (ss.set i (s', sz, ls ++ [l])) → wp (f s') Q H') : wp (apd s sz by_ 1 l f) Q H := by
  have hmem := List.mem_of_getElem? hi
  have hil := (List.getElem?_eq_some_iff.1 hi).1
  refine wp_apdY (h.own _ hmem) hl hsz hr hr2 fun s' H' ho hk hn hp hty => hf s' H' ?_
  have hkeep : ∀ p ∈ fx, H'.get p.1 = H.get p.1 := fun p hp2 => hk p.1 (h.lm.l.at_ p hp2).2.1 (fun hh => h.df _ hmem _ hh p hp2 rfl)
  refine ⟨⟨⟨ho.keeps, h.lm.l.nd, fun p hp2 => ?_⟩, fun b hb => (hty b (Nat.lt_of_lt_of_le hb h.lm.l.k.n)).trans (h.lm.t b hb)⟩, fun e he => ?_, fun a b u v x h1 h2 h3 h4 => ?_, fun e he x hx p hp2 => ?_⟩
  · obtain ⟨h1, h2, h3⟩ := h.lm.l.at_ p hp2
    exact ⟨h1, Nat.lt_of_lt_of_le h2 hn, by rw [hkeep p hp2]; exact h3⟩
  · obtain ⟨j, hj⟩ := List.mem_iff_getElem?.1 he
    rw [List.getElem?_set] at hj
    split at hj
    · rename_i hij; subst hij
      cases hj
      exact ho
    · rename_i hij
      have he2 := List.mem_of_getElem? hj
      have ho2 := h.own e he2
      refine ⟨ho.keeps, ho2.szs, ho2.lt, ?_⟩
      rcases ho2.mem with h1 | ⟨c, h1, h2, h3, h4⟩
      · exact .inl h1
      · refine .inr ⟨c, h1, h2, Nat.lt_of_lt_of_le h3 hn, ?_⟩
        rw [hk c h3 (fun hh => hij (h.dj i j _ _ c hi hj hh (by rw [h1])))]
        exact h4
  · rw [List.getElem?_set] at h1 h2
    split at h1 <;> split at h2
    · omega
    · rename_i q1 q2
      cases h1
      simp only at h3
      rw [hp] at h3; cases h3
      have := ((h.own v (List.mem_of_getElem? h2)).blk h4).2
      omega
    · rename_i q1 q2
      cases h2
      simp only at h4
      rw [hp] at h4; cases h4
      have := ((h.own u (List.mem_of_getElem? h1)).blk h3).2
      omega
    · exact h.dj a b u v x h1 h2 h3 h4
  · rcases List.mem_or_eq_of_mem_set he with he | rfl
    · exact h.df e he x hx p hp2
    · simp only at hx
      rw [hp] at hx; cases hx
      have := (h.lm.l.at_ p hp2).2.1
      omega
end
end
end Go.Proofs.YtmfmcegpoiinjaaDoor.HM
namespace Go.Proofs.YtmfmcegpoiinjaaDoor.HM
open Go

/-- a name, its line, its place. -/
structure Pl where
  name : Bs
  line : Int
  at_ : Int
abbrev Pl.cs (p : Pl) : List HV := [.str (S p.name), I p.line, I p.at_]
/-- what was read: instructions, marks, goals. -/
structure Sht where
  prog : List Ins
  marks : List Pl
  goals : List Pl
open Classical in
/-- one more line. -/
noncomputable def takeS (n : Int) (s : Bs) (st : Sht) : Option Sht := match said s with
  | none => none
  | some (.mark m) => if m ∈ st.marks.map Pl.name then none else some { st with marks := st.marks ++ [⟨m, n, st.prog.length⟩] }
  | some (.ins x g) => if 48 ≤ st.prog.length then none else some ⟨st.prog ++ [x], st.marks, if g = [] then st.goals else st.goals ++ [⟨g, n, st.prog.length⟩]⟩
def mapE (l : List Pl) : List (HV × HV) := l.map fun p => (.str (S p.name), I p.at_)
theorem lk_mapE : ∀ (l : List Pl) (m : Bs), lkS (mapE l) (S m) = some ((l.find? fun p => decide (p.name = m)).map fun p => I p.at_)
  | [], m => rfl
  | p :: l, m => by
    simp only [mapE, List.map_cons, lkS]
    by_cases h : p.name = m
    · subst h; simp
    · have : ¬ S m = S p.name := fun e => h (S_inj e).symm
      rw [decide_eq_false this]
      simp only
      rw [List.find?_cons_of_neg (by simpa using h)]
      exact lk_mapE l m
theorem find_none {l : List Pl} {m : Bs} (h : m ∉ l.map Pl.name) : (l.find? fun p => decide (p.name = m)) = none := by
  rw [List.find?_eq_none]
  intro p hp
  simp only [decide_eq_true_eq]
  intro e
  exact h (List.mem_map.2 ⟨p, hp, e⟩)
theorem find_some {l : List Pl} {m : Bs} (h : m ∈ l.map Pl.name) : ∃ p, (l.find? fun p => decide (p.name = m)) = some p := by
  cases e : l.find? fun p => decide (p.name = m) with
  | some p => exact ⟨p, rfl⟩
  | none =>
    obtain ⟨p, hp, rfl⟩ := List.mem_map.1 h
    have := List.find?_eq_none.1 e p hp
    simp at this
theorem lk_no {l : List Pl} {m : Bs} (h : m ∉ l.map Pl.name) : lkS (mapE l) (S m) = some none := by rw [lk_mapE, find_none h]; rfl
theorem lk_yes {l : List Pl} {m : Bs} (h : m ∈ l.map Pl.name) : ∃ p, (l.find? fun p => decide (p.name = m)) = some p ∧ lkS (mapE l) (S m) = some (some (I p.at_)) := by
  obtain ⟨p, hp⟩ := find_some h
  exact ⟨p, hp, by rw [lk_mapE, hp]; rfl⟩
theorem pu_mapE : ∀ (l : List Pl) (m : Bs) (v : HV), m ∉ l.map Pl.name → puS (mapE l) (S m) v = some (mapE l ++ [(.str (S m), v)])
  | [], m, v, _ => rfl
  | p :: l, m, v, h => by
    have hne : ¬ S m = S p.name := fun e => h (by rw [S_inj e]; simp)
    simp only [mapE, List.map_cons, puS]
    rw [decide_eq_false hne]
    simp only
    have := pu_mapE l m v (fun hm => h (by simp only [List.map_cons]; exact List.mem_cons_of_mem _ hm))
    simp only [mapE] at this
    rw [this]
    rfl
abbrev ShC (sp sm sg : Sl) (bm : Nat) : HObj := .cells [.sl sp, .sl sm, .mp (some bm), .sl sg] false
/-- a sheet in memory. -/
def ShG (H0 H : Heap) (rest : List (Nat × HObj)) (bs bm : Nat) (st : Sht) : Prop := ∃ sp sm sg, Lg H0 H ((bs, ShC sp sm sg bm) :: (bm, .spc (.map (mapE st.marks))) :: rest)
  [(sp, 4, st.prog.map Ins.cs), (sm, 3, st.marks.map Pl.cs), (sg, 3, st.goals.map Pl.cs)]
theorem S_nil : S ([] : Bs) = ByteArray.mk #[] := rfl
section
variable {D : HV → List HV → M HV} {H0 H : Heap} {Q : HV → Heap → Prop}
theorem label_take_wp (hG : Gl H0) {rest : List (Nat × HObj)} {bs bm : Nat} {st : Sht} {n : Int} {l : Bs} (hl : l.length ≤ 4096) (hp : st.prog.length ≤ 48) (hm : st.marks.length ≤ 5000) (hg : st.goals.length ≤ 5000)
    (hS : ShG H0 H rest bs bm st) (h1 : ∀ st' H', takeS n l st = some st' → ShG H0 H' rest bs bm st' → Q (.bool true) H') (h2 : ∀ H', takeS n l st = none → ShG H0 H' rest bs bm st → Q (.bool false) H') :
    wp (f_label_sheet_take D [.ptr (some (bs, 0)), I n, .str (S l)]) Q H := by
  obtain ⟨sp, sm, sg, hL⟩ := hS
  have hG1 := hG.kp hL.kp
  have hroom : room = 140737488355328 := rfl
  have hlp : sp.len = st.prog.length := by have := (hL.own _ (List.mem_of_getElem? (i := 0) rfl)).slR.len; simpa using this
  unfold f_label_sheet_take
  refine step (wp_bnd (label_parse_wp hG1 hl (fun x H1 k1 hx => ?_) (fun m g a b c d H1 k1 hx => ?_)))
  · have L1 := hL.keeps k1
    cases x with
    | mark m =>
      have hts : takeS n l st = (open Classical in if m ∈ st.marks.map Pl.name then none else some { st with marks := st.marks ++ [⟨m, n, st.prog.length⟩] }) := by unfold takeS; rw [hx]
      have hne : m ≠ [] := by
        unfold said at hx
        split at hx
        · split at hx
          · rename_i hn; cases hx; intro e; have := hn.1; rw [e] at this; simp at this
          · cases hx
        · split at hx
          · cases hx
          · split at hx
            · cases hx
            · cases hx
      show wp (asT (HV.tup [.agg [.str (S m), .str (S []), I 0, I 0, I 0, I 0], .bool true]) _) _ _
      refine step ?_
      refine wp_blk ?_
      refine step ⟨fun c => ?_, fun c => ?_⟩
      rotate_left
      · exfalso
        rw [beq_iff_eq, toList_S, ← S_nil, toList_S] at c
        exact hne c
      refine wp_ldL 0 L1 rfl rfl ?_
      refine step ?_
      by_cases hmem : m ∈ st.marks.map Pl.name
      · obtain ⟨p, _, hlk⟩ := lk_yes hmem
        refine wp_lk (L1.lm.get (i := 1) rfl) hlk ?_
        rw [if_pos hmem] at hts
        refine step ?_
        exact h2 _ hts ⟨sp, sm, sg, L1⟩
      · refine wp_lk (L1.lm.get (i := 1) rfl) (lk_no hmem) ?_
        rw [if_neg hmem] at hts
        refine step ?_
        refine wp_ldL 0 L1 rfl rfl ?_
        refine step ?_
        refine wp_ldL 0 L1 rfl rfl ?_
        refine step ?_
        refine wp_puG 1 L1 rfl (pu_mapE st.marks m _ hmem) fun H2 L2 => ?_
        refine step ?_
        refine wp_ldL 0 L2 rfl rfl ?_
        refine step ?_
        refine wp_ldL 0 L2 rfl rfl ?_
        refine step ?_
        refine wp_apdG 1 L2 rfl rfl (by omega) (by simp; omega) (by simp; omega) fun s' H3 L3 => ?_
        refine step ?_
        refine wp_stG 0 L3 rfl (by simp) rfl fun H4 L4 => ?_
        refine step ?_
        refine h1 _ _ hts ⟨sp, s', sg, ?_⟩
        have e1 : mapE (st.marks ++ [⟨m, n, st.prog.length⟩]) = mapE st.marks ++ [(.str (S m), I (sp.len : Int))] := by simp [mapE, hlp]
        have e2 : (st.marks ++ [(⟨m, n, st.prog.length⟩ : Pl)]).map Pl.cs = st.marks.map Pl.cs ++ [[.str (S m), I n, I (sp.len : Int)]] := by simp [hlp]
        simp only [e1, e2]
        exact L4
    | ins x g =>
      have hts : takeS n l st = (if 48 ≤ st.prog.length then none else some ⟨st.prog ++ [x], st.marks, if g = [] then st.goals else st.goals ++ [⟨g, n, st.prog.length⟩]⟩) := by unfold takeS; rw [hx]
      show wp (asT (HV.tup [.agg [.str (S []), .str (S g), I x.op, I x.a, I x.b, I x.c], .bool true]) _) _ _
      refine step ?_
      refine wp_blk ?_
      refine step ⟨fun c => ?_, fun c => ?_⟩
      · exfalso
        rw [← S_nil, toList_S] at c
        exact absurd c (by decide)
      refine wp_ldL 0 L1 rfl rfl ?_
      refine step ⟨fun c48 => ?_, fun c48 => ?_⟩
      · rw [if_pos (by omega)] at hts
        exact h2 _ hts ⟨sp, sm, sg, L1⟩
      rw [if_neg (by omega)] at hts
      -- the instruction is taken in
      have fin : ∀ (gs : List Pl) (sg' : Sl) (H2 : Heap), (takeS n l st = some ⟨st.prog ++ [x], st.marks, gs⟩) → Lg H0 H2 ((bs, ShC sp sm sg' bm) :: (bm, .spc (.map (mapE st.marks))) :: rest) [(sp, 4, st.prog.map Ins.cs), (sm, 3, st.marks.map Pl.cs), (sg', 3, gs.map Pl.cs)] →
          wp (ldC bs 0 fun v_8 => asSl v_8 fun x96 => apd x96 4 32 1 [I x.op, I x.a, I x.b, I x.c] fun x100 => stC bs 0 (.sl x100) (ret (.ret [.bool true]))) (PFin Q) H2 := by
        intro gs sg' H2 ht L2
        refine wp_ldL 0 L2 rfl rfl ?_
        refine step ?_
        refine wp_apdG 0 L2 rfl rfl (by omega) (by simp; omega) (by simp; omega) fun s' H3 L3 => ?_
        refine wp_stG 0 L3 rfl (by simp) rfl fun H4 L4 => ?_
        refine step ?_
        refine h1 _ _ ht ⟨s', sm, sg', ?_⟩
        simp only [List.map_append, List.map_cons, List.map_nil]
        exact L4
      refine ⟨fun c => ?_, fun c => ?_⟩
      · have hg0 : g ≠ [] := by
          rw [beq_eq_false_iff_ne, toList_S, ← S_nil, toList_S] at c
          exact c
        rw [if_neg hg0] at hts
        refine wp_ldL 0 L1 rfl rfl ?_
        refine step ?_
        refine wp_ldL 0 L1 rfl rfl ?_
        refine step ?_
        refine wp_apdG 2 L1 rfl rfl (by omega) (by simp; omega) (by simp; omega) fun s' H3 L3 => ?_
        refine step ?_
        refine wp_stG 0 L3 rfl (by simp) rfl fun H4 L4 => ?_
        refine step ?_
        refine fin _ s' H4 hts ?_
        have e2 : (st.goals ++ [(⟨g, n, st.prog.length⟩ : Pl)]).map Pl.cs = st.goals.map Pl.cs ++ [[.str (S g), I n, I (sp.len : Int)]] := by simp [hlp]
        simp only [e2]
        exact L4
      · have hg0 : g = [] := by
          rw [beq_iff_eq, toList_S, ← S_nil, toList_S] at c
          exact c
        rw [if_pos hg0] at hts
        exact fin _ sg H1 hts L1
  · have hts : takeS n l st = none := by unfold takeS; rw [hx]
    refine step ?_
    refine wp_blk ?_
    refine step ?_
    exact h2 _ hts ⟨sp, sm, sg, hL.keeps k1⟩
end
end Go.Proofs.YtmfmcegpoiinjaaDoor.HM
