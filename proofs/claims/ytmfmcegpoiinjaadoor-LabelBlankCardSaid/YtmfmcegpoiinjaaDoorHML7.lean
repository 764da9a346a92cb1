/- label: the lines of a text: walked. Conditions: the variables of the package (Gl). -/
import Derived.Test.YtmfmcegpoiinjaaDoorHML4
namespace Go.Proofs.YtmfmcegpoiinjaaDoor.HM
open Go

section
variable {H0 H : Heap} {fx : List (Nat × HObj)} {ss : List GSl}
theorem Lg.perm {fx' : List (Nat × HObj)} (h : Lg H0 H fx ss) (hp : fx'.Perm fx) : Lg H0 H fx' ss :=
  ⟨⟨⟨h.lm.l.k, (hp.map Prod.fst).nodup_iff.2 h.lm.l.nd, fun p hm => h.lm.l.at_ p (hp.mem_iff.1 hm)⟩, h.lm.t⟩, h.own, h.dj, fun e he x hx p hm => h.df e he x hx p (hp.mem_iff.1 hm)⟩
/-- a block that was made meanwhile. -/
theorem Lg.add {H' : Heap} {b : Nat} {o : HObj} (h : Lg H0 H fx ss) (k : Kp H H') (hb : b = H.n) (hn : b < H'.n) (hg : H'.get b = o) : Lg H0 H' (fx ++ [(b, o)]) ss := by
  have h' := h.keeps k
  refine ⟨⟨⟨h'.lm.l.k, ?_, fun p hp => ?_⟩, h'.lm.t⟩, h'.own, h'.dj, fun e he x hx p hp => ?_⟩
  · rw [List.map_append, List.nodup_append]
    refine ⟨h.lm.l.nd, by simp, fun a ha c hc => ?_⟩
    obtain ⟨p, hp, rfl⟩ := List.mem_map.1 ha
    have := (h.lm.l.at_ p hp).2.1
    simp at hc; omega
  · rcases List.mem_append.1 hp with hp | hp
    · exact h'.lm.l.at_ p hp
    · simp at hp; subst hp
      exact ⟨by have := h.lm.l.k.n; omega, hn, hg⟩
  · rcases List.mem_append.1 hp with hp | hp
    · exact h'.df e he x hx p hp
    · simp at hp; subst hp
      have := ((h.own e he).blk hx).2
      simp only; omega
end
section
variable {D : HV → List HV → M HV}
/-- the iterator over lines. -/
theorem label_lines_1_wp {H : Heap} {x0 : HV} {b1 : Nat} {t : Bs} {J : Nat → Heap → Nat → Prop} {X : Heap → Prop} (hG : Gl H) (ht : t.length ≤ 4096) (hb : H.get b1 = .cells [.str (S t)] false)
    (start : ∀ H' bp, bp = H.n → Kp H H' → bp < H'.n → H'.get bp = .cells ((cutAt 10 t).map fun x => .str (S x)) false → J 0 H' bp)
    (pc : ∀ i H' bp, J i H' bp → bp < H'.n ∧ H'.get bp = .cells ((cutAt 10 t).map fun x => .str (S x)) false)
    (skip : ∀ i H' bp, (cutAt 10 t)[i]? = some [] → J i H' bp → J (i + 1) H' bp)
    (round : ∀ i H' bp s, (cutAt 10 t)[i]? = some s → s ≠ [] → J i H' bp → wp (D x0 [I ((i : Int) + 1), .str (S s)]) (fun r H2 => (r = .bool true ∧ J (i + 1) H2 bp) ∨ (r = .bool false ∧ X H2)) H') :
    wp (f_label_lines_1 D [x0, .ptr (some (b1, 0))]) (fun _ H' => (∃ bp, J (cutAt 10 t).length H' bp) ∨ X H') H := by
  unfold f_label_lines_1
  refine step ?_
  refine wp_ldG hb rfl ?_
  refine step ?_
  refine wp_bnd (Split_wp2 hG (by omega) fun H1 bp hbp k1 hn1 hg => ?_)
  refine step ?_
  have hcl := cut_count 10 t
  have hJ := start H1 bp hbp k1 (by omega) hg
  refine wp_for (σ := Unit) (cutAt 10 t).length (by omega) rfl (fun _ i => [I i]) (out := fun _ => []) (fun _ _ => rfl) rfl (fun i _ H' => J i H' bp) () rfl hJ ?_ ?_
  · rintro i _ H' hi hJi
    have hat : (cutAt 10 t)[i]? = some (cutAt 10 t)[i] := List.getElem?_eq_getElem hi
    obtain ⟨p1, p2⟩ := pc i H' bp hJi
    have hr : RStrs H' ⟨some (bp, 0), (cutAt 10 t).length, (cutAt 10 t).length, none⟩ (cutAt 10 t) := RStrs.of (xs := cutAt 10 t) (o := 0) p1 p2 (by omega) rfl (by simp) rfl (Nat.le_refl _)
    have hw : wr ((i : Int) + 1) = (i : Int) + 1 := wr_small (by omega) (by omega)
    refine wp_atS hr hi fun b o => ?_
    refine wp_jn ?_
    refine step ⟨fun c => ?_, fun c => ?_⟩
    · rw [beq_eq_false_iff_ne, toList_S, ← S_nil, toList_S] at c
      rw [hw]
      refine wp_bnd ((round i H' bp _ hat c hJi).mono fun r H2 hq => ?_)
      rcases hq with ⟨rfl, hq⟩ | ⟨rfl, hq⟩
      · refine step ?_
        exact ⟨(), by rw [hw], hq⟩
      · refine step ?_
        exact .inr hq
    · rw [beq_iff_eq, toList_S, ← S_nil, toList_S] at c
      exact ⟨(), rfl, skip i H' bp (by rw [hat, c]) hJi⟩
  · rintro _ H' hJn
    refine step ?_
    exact .inl ⟨bp, hJn⟩
end
end Go.Proofs.YtmfmcegpoiinjaaDoor.HM
namespace Go.Proofs.YtmfmcegpoiinjaaDoor.HM
open Go

/-- line by line, from a number on: what was read, or the line at which it fails. -/
noncomputable def passS : Nat → List Bs → Sht → Sum Sht Nat
  | _, [], st => .inl st
  | i, s :: ls, st => match s with
    | [] => passS (i + 1) ls st
    | c :: r => match takeS ((i : Int) + 1) (c :: r) st with
      | none => .inr (i + 1)
      | some st' => passS (i + 1) ls st'
def setA (p : List Ins) (i : Nat) (a : Int) : List Ins := p.modify i fun x => { x with a := a }
/-- goals get their places. -/
def linkS : List Pl → List Pl → List Ins → Sum (List Ins) Int
  | [], _, p => .inl p
  | g :: gs, ms, p => match ms.find? fun m => decide (m.name = g.name) with
    | none => .inr g.line
    | some m => linkS gs ms (setA p g.at_.toNat m.at_)
/-- what a text says: instructions, marks; or the line and the error. -/
noncomputable def readS (t : Bs) : Sum (List Ins × List Pl) (Int × Int) :=
  if 4096 < t.length then .inr (0, 3)
  else match passS 0 (cutAt 10 t) ⟨[], [], []⟩ with
    | .inr n => .inr (n, 60)
    | .inl st => match linkS st.goals st.marks st.prog with
      | .inr n => .inr (n, 5)
      | .inl p => .inl (p, st.marks)

/-- bounds of what was read behind so many lines. -/
structure ShB (i : Nat) (st : Sht) : Prop where
  p : st.prog.length ≤ 48
  m : st.marks.length ≤ i
  g : st.goals.length ≤ st.prog.length
  at_ : ∀ g ∈ st.goals, 0 ≤ g.at_ ∧ g.at_ < st.prog.length
theorem ShB.take {i : Nat} {st st' : Sht} {n : Int} {s : Bs} (h : ShB i st) (e : takeS n s st = some st') : ShB (i + 1) st' := by
  unfold takeS at e
  split at e
  · cases e
  · split at e
    · cases e
    · cases e
      exact ⟨h.p, by simp; have := h.m; omega, h.g, h.at_⟩
  · split at e
    · cases e
    · rename_i x g _ hlt
      cases e
      have h1 := h.p
      have h2 := h.m
      have h3 := h.g
      refine ⟨by simp; omega, by simp only; omega, ?_, ?_⟩
      · simp only
        split
        · simp; omega
        · simp; omega
      · intro y hy
        simp only at hy ⊢
        split at hy
        · have := h.at_ y hy; simp; omega
        · rcases List.mem_append.1 hy with hy | hy
          · have := h.at_ y hy; simp; omega
          · simp at hy; subst hy; simp; omega
theorem ShB.up {i j : Nat} {st : Sht} (h : ShB i st) (hij : i ≤ j) : ShB j st := ⟨h.p, Nat.le_trans h.m hij, h.g, h.at_⟩

section
variable {D : DD} {H0 H : Heap}
/-- a round over a line. -/
theorem label_read_round {Q : HV → Heap → Prop} (hG : Gl H0) {b2 b3 b4 b5 bs bm lp : Nat} {st : Sht} {l : Bs} {n : Int} {tl : List (Nat × HObj)} {ws : List (Nat × HV)} (hl : l.length ≤ 4096) (hb : ShB 5000 st)
    (hws : ws = [(2, .ptr (some (b2, 0))), (3, .ptr (some (b3, 0))), (4, .ptr (some (b4, 0))), (5, .ptr (some (b5, 0)))])
    (hS : ShG H0 H ((b2, .cells [.ptr none] false) :: (b3, .cells [I 0] false) :: (b4, .cells [I 0] false) :: (b5, .cells [.ptr (some (bs, 0))] false) :: (lp, .spc (.loop 96110293 ws .ready none)) :: tl) bs bm st)
    (h1 : ∀ st' H', takeS n l st = some st' → ShG H0 H' ((b2, .cells [.ptr none] false) :: (b3, .cells [I 0] false) :: (b4, .cells [I 0] false) :: (b5, .cells [.ptr (some (bs, 0))] false) :: (lp, .spc (.loop 96110293 ws .ready none)) :: tl) bs bm st' → Q (.bool true) H')
    (h2 : ∀ H', takeS n l st = none → ShG H0 H' ((b2, .cells [.ptr none] false) :: (b3, .cells [I n] false) :: (b4, .cells [I 60] false) :: (b5, .cells [.ptr (some (bs, 0))] false) :: (lp, .spc (.loop 96110293 ws .done (some .ret))) :: tl) bs bm st → Q (.bool false) H') :
    wp (r0_label_read D lp ws [I n, .str (S l)]) (PRnd lp Q) H := by
  unfold r0_label_read
  subst hws
  refine wp_gdS rfl ?_
  show wp (uP [.ptr (some (b2, 0)), .ptr (some (b3, 0)), .ptr (some (b4, 0)), .ptr (some (b5, 0))] _) _ _
  refine step ?_
  generalize hws : [((2 : Nat), HV.ptr (some (b2, 0))), (3, .ptr (some (b3, 0))), (4, .ptr (some (b4, 0))), (5, .ptr (some (b5, 0)))] = ws at *
  obtain ⟨sp, sm, sg, hL⟩ := hS
  refine wp_busyL (hL.lm.get (i := 6) rfl) ?_
  have L1 := hL.set (i := 6) rfl (.spc (.loop 96110293 ws .busy none))
  refine step ?_
  refine wp_ldL 5 L1 rfl rfl ?_
  refine step ?_
  have hp := hb.p
  have hm := hb.m
  have hg := hb.g
  refine wp_bnd (label_take_wp hG hl hp hm (by omega) ⟨sp, sm, sg, L1⟩ (fun st' H' e hS' => ?_) (fun H' e hS' => ?_))
  · obtain ⟨sp', sm', sg', L2⟩ := hS'
    refine step ?_
    refine wp_nY (L2.lm.get (i := 6) rfl) (h1 st' _ e ⟨sp', sm', sg', ?_⟩)
    exact L2.set (i := 6) rfl _
  · obtain ⟨sp', sm', sg', L2⟩ := hS'
    refine step ?_
    refine wp_stG 2 L2 rfl (by simp) rfl fun H3 L3 => ?_
    refine step ?_
    refine wp_stG 3 L3 rfl (by simp) rfl fun H4 L4 => ?_
    refine step ?_
    refine wp_stG 4 L4 rfl (by simp) rfl fun H5 L5 => ?_
    refine wp_rY (L5.lm.get (i := 6) rfl) (h2 _ e ⟨sp', sm', sg', ?_⟩)
    exact L5.set (i := 6) rfl _
end
end Go.Proofs.YtmfmcegpoiinjaaDoor.HM
namespace Go.Proofs.YtmfmcegpoiinjaaDoor.HM
open Go

theorem perm8 {α : Type} (a b c m s d e f : α) : [s, m, a, b, c, d, f, e].Perm [a, b, c, m, s, d, e, f] := by
  refine List.Perm.symm ?_
  refine (List.perm_middle (l₁ := [a, b, c, m]) (a := s) (l₂ := [d, e, f])).trans (List.Perm.cons s ?_)
  refine (List.perm_middle (l₁ := [a, b, c]) (a := m) (l₂ := [d, e, f])).trans (List.Perm.cons m ?_)
  exact List.Perm.cons a (List.Perm.cons b (List.Perm.cons c (List.Perm.cons d (List.Perm.swap f e []))))
theorem flatten_set {sz : Nat} : ∀ {ls : List (List HV)} {i k : Nat} {l : List HV} {v : HV}, (∀ x ∈ ls, x.length = sz) → ls[i]? = some l → k < sz → ls.flatten.set (i * sz + k) v = (ls.set i (l.set k v)).flatten
  | [], i, k, l, v, _, h, _ => by simp at h
  | x :: ls, 0, k, l, v, hs, h, hk => by
    simp at h; subst h
    have := hs x List.mem_cons_self
    simp only [List.flatten_cons, List.set_cons_zero]
    rw [Nat.zero_mul, Nat.zero_add, List.set_append_left _ _ (by omega)]
  | x :: ls, i + 1, k, l, v, hs, h, hk => by
    have hx := hs x List.mem_cons_self
    simp only [List.flatten_cons, List.set_cons_succ]
    rw [List.set_append_right _ _ (by rw [hx, Nat.succ_mul]; omega)]
    rw [show (i + 1) * sz + k - x.length = i * sz + k by rw [hx, Nat.succ_mul]; omega]
    rw [flatten_set (fun y hy => hs y (List.mem_cons_of_mem _ hy)) (by simpa using h) hk]
section
variable {H0 H : Heap} {fx : List (Nat × HObj)} {ss : List GSl} {α : Type} {Q : α → Heap → Prop}
/-- a field of an element of a slice of one's own turns. -/
theorem wp_ixSt {s : Sl} {sz : Nat} {ls : List (List HV)} {i k : Nat} {l : List HV} {v : HV} {m : M α} (j : Nat) (h : Lg H0 H fx ss) (hj : ss[j]? = some (s, sz, ls)) (hi : ls[i]? = some l) (hk : k < sz) (hv : v.sc = true)
    (hf : ∀ H', Lg H0 H' fx (ss.set j (s, sz, ls.set i (l.set k v))) → wp m Q H') : wp (ix s (i : Int) sz fun b o => stC b (o + k) v m) Q H := by
  have hmem := List.mem_of_getElem? hj
  have hjl := (List.getElem?_eq_some_iff.1 hj).1
  have ho := h.own _ hmem
  have hil := (List.getElem?_eq_some_iff.1 hi).1
  have hszs := ho.szs
  rcases ho.mem with ⟨e1, e2⟩ | ⟨b, e1, h1, h2, h3⟩
  · simp only at e2; subst e2; simp at hi
  simp only at e1 h3 hszs
  subst e1
  have hfl := flatten_length hszs
  have hmul : i * sz + sz ≤ ls.length * sz := by rw [← Nat.succ_mul]; exact Nat.mul_le_mul_right _ hil
  unfold ix
  refine wp_gdD (by omega) (wp_gdD (by simp only; omega) ?_)
  rw [mP_eq']
  show wp (stC b (0 + (i : Int).toNat * sz + k) v m) Q H
  rw [show 0 + (i : Int).toNat * sz + k = i * sz + k by simp]
  refine wp_stC h3 (by omega) hv ?_
  rw [flatten_set hszs hi hk]
  refine hf _ ?_
  have hnf : ∀ p ∈ fx, p.1 ≠ b := h.df _ hmem b rfl
  refine ⟨⟨⟨ho.keeps.set h1 _, h.lm.l.nd, fun p hp => ?_⟩, h.lm.t⟩, fun e he => ?_, fun u v' x y z q1 q2 q3 q4 => ?_, fun e he x hx p hp => ?_⟩
  · obtain ⟨g1, g2, g3⟩ := h.lm.l.at_ p hp
    refine ⟨g1, g2, ?_⟩
    simp only [Heap.set]; rw [if_neg (hnf p hp)]; exact g3
  · obtain ⟨c, hc⟩ := List.mem_iff_getElem?.1 he
    rw [List.getElem?_set] at hc
    split at hc
    · cases hc
      refine ⟨ho.keeps.set h1 _, fun y hy => ?_, by simpa using ho.lt, .inr ⟨b, by simp, h1, h2, by simp [Heap.set]⟩⟩
      rcases List.mem_or_eq_of_mem_set hy with hy | rfl
      · exact hszs y hy
      · simp only [List.length_set]; exact hszs l (List.mem_of_getElem? hi)
    · rename_i hne
      have he2 := List.mem_of_getElem? hc
      have ho2 := h.own e he2
      refine ⟨ho2.keeps.set h1 _, ho2.szs, ho2.lt, ?_⟩
      rcases ho2.mem with g1 | ⟨d, g1, g2, g3, g4⟩
      · exact .inl g1
      · refine .inr ⟨d, g1, g2, g3, ?_⟩
        have : d ≠ b := fun hh => hne (h.dj j c _ _ b hj hc rfl (by rw [g1, hh]))
        simp only [Heap.set]; rw [if_neg this]; exact g4
  · rw [List.getElem?_set] at q1 q2
    split at q1 <;> split at q2
    · omega
    · rename_i w1 w2
      subst w1; cases q1
      exact h.dj j v' _ _ z hj q2 q3 q4
    · rename_i w1 w2
      subst w2; cases q2
      exact h.dj u j _ _ z q1 hj q3 q4
    · exact h.dj u v' _ _ z q1 q2 q3 q4
  · rcases List.mem_or_eq_of_mem_set he with he | rfl
    · exact h.df e he x hx p hp
    · exact h.df _ hmem x hx p hp
end
theorem passS_end {i : Nat} {st : Sht} : passS i [] st = .inl st := by rw [passS]
theorem setA_len {p : List Ins} {i : Nat} {a : Int} : (setA p i a).length = p.length := by simp [setA]
theorem setA_map {p : List Ins} {i : Nat} {a : Int} (hi : i < p.length) : (setA p i a).map Ins.cs = (p.map Ins.cs).set i ((Ins.cs p[i]).set 1 (I a)) := by
  apply List.ext_getElem?
  intro j
  unfold setA
  rw [List.getElem?_map, List.getElem?_modify, List.getElem?_set, List.getElem?_map]
  by_cases h : i = j
  · subst h
    rw [if_pos rfl, List.getElem?_eq_getElem hi]
    simp [hi]
  · rw [if_neg h]
    cases p[j]? <;> simp [h]
theorem passS_nil {i : Nat} {ls : List Bs} {st : Sht} : passS i ([] :: ls) st = passS (i + 1) ls st := by rw [passS]
theorem passS_no {i : Nat} {s : Bs} {ls : List Bs} {st : Sht} (hs : s ≠ []) (h : takeS ((i : Int) + 1) s st = none) : passS i (s :: ls) st = .inr (i + 1) := by
  cases s with
  | nil => exact absurd rfl hs
  | cons c r => rw [passS]; simp only [h]
theorem passS_yes {i : Nat} {s : Bs} {ls : List Bs} {st st' : Sht} (hs : s ≠ []) (h : takeS ((i : Int) + 1) s st = some st') : passS i (s :: ls) st = passS (i + 1) ls st' := by
  cases s with
  | nil => exact absurd rfl hs
  | cons c r => rw [passS]; simp only [h]

abbrev RF (b2 b3 b4 b5 b1 lp bs : Nat) (t : Bs) (ws : List (Nat × HV)) (n e : Int) (st : LoopState) (pd : Option Code) (tl : List (Nat × HObj)) : List (Nat × HObj) :=
  (b2, .cells [.ptr none] false) :: (b3, .cells [I n] false) :: (b4, .cells [I e] false) :: (b5, .cells [.ptr (some (bs, 0))] false) :: (lp, .spc (.loop 96110293 ws st pd)) :: (b1, .cells [.str (S t)] false) :: tl
section
variable {H : Heap} {Q : HV → Heap → Prop}
theorem label_read_wp {cl : List (Nat × Clo)} {rn : List (Nat × Rnd)} {D0 : DD} (hc : lkA cl n_label_lines_1 = some f_label_lines_1) (hr : lkA rn 96110293 = some r0_label_read) (hG : Gl H) {t : Bs} (htl : t.length ≤ 9223372036854775807)
    (h1 : ∀ p ms H' bs sp sm sg bm, readS t = .inl (p, ms) → Kp H H' → H'.get bs = ShC sp sm sg bm → bs < H'.n → RProg H' sp p → Own H H' sm 3 (ms.map Pl.cs) → Q (.tup [.ptr (some (bs, 0)), I 0, I 0]) H')
    (h2 : ∀ n e H', readS t = .inr (n, e) → Kp H H' → Q (.tup [.ptr none, I n, I e]) H') : wp (f_label_read (stepD cl rn (stepD cl rn D0)) [.str (S t)]) Q H := by
  unfold f_label_read
  have hsz := S_size t
  refine step ?_
  refine wp_nwG (Lg.of (Lm.nil H)) fun Ha b2 e2 La => ?_
  refine wp_nwG La fun Hb b3 e3 Lb => ?_
  refine wp_nwG Lb fun Hc b4 e4 Lc => ?_
  refine step ⟨fun c => ?_, fun c => ?_⟩
  · have hrd : readS t = .inr (0, 3) := by unfold readS; rw [if_pos (by omega)]
    refine wp_stG 0 Lc rfl (by simp) rfl fun Hd Ld => ?_
    refine wp_stG 1 Ld rfl (by simp) rfl fun He Le => ?_
    refine wp_stG 2 Le rfl (by simp) rfl fun Hf Lf => ?_
    refine wp_ldL 0 Lf rfl rfl ?_
    refine step ?_
    refine wp_ldL 1 Lf rfl rfl ?_
    refine step ?_
    refine wp_ldL 2 Lf rfl rfl ?_
    refine step ?_
    exact h2 0 3 Hf hrd Lf.kp
  have ht : t.length ≤ 4096 := by omega
  refine wp_nwSG Lc fun Hd bm em Ld => ?_
  refine wp_nwG Ld fun He bs es Le => ?_
  refine wp_nwG Le fun Hf b5 e5 Lf => ?_
  refine wp_stG 5 Lf rfl (by simp) rfl fun Hg Lgg => ?_
  refine wp_bnd ?_
  unfold f_label_lines
  refine step ?_
  refine wp_nwG Lgg fun Hh b1 e1 Lh => ?_
  refine step ?_
  refine wp_blk (wp_ny ?_)
  refine wp_nwL ?_
  have Li := Lh.push (.spc (.loop 96110293 [(2, .ptr (some (b2, 0))), (3, .ptr (some (b3, 0))), (4, .ptr (some (b4, 0))), (5, .ptr (some (b5, 0)))] .ready none))
  generalize hws : [((2 : Nat), HV.ptr (some (b2, 0))), (3, .ptr (some (b3, 0))), (4, .ptr (some (b4, 0))), (5, .ptr (some (b5, 0)))] = ws at *
  generalize hlp : Hh.n = lp at *
  generalize hHi : Hh.push (.spc (.loop 96110293 ws .ready none)) = Hi at *
  have L0 := (((Li.perm (perm8 _ _ _ _ _ _ _ _)).nil 4).nil 3).nil 3
  have hS0 : ShG H Hi (RF b2 b3 b4 b5 b1 lp bs t ws 0 0 .ready none []) bs bm ⟨[], [], []⟩ := ⟨_, _, _, L0⟩
  clear La Lb Lc Ld Le Lf Lgg Lh Li L0
  have hGi : Gl Hi := by obtain ⟨_, _, _, q⟩ := hS0; exact hG.kp q.kp
  have hb1 : Hi.get b1 = .cells [.str (S t)] false := by obtain ⟨_, _, _, q⟩ := hS0; exact q.lm.get (i := 7) rfl
  -- what holds ahead of line i
  have iter := label_lines_1_wp (D := stepD cl rn D0) (x0 := .yld lp) (J := fun i H' bp => ∃ st, ShB i st ∧ i ≤ (cutAt 10 t).length ∧ passS i ((cutAt 10 t).drop i) st = passS 0 (cutAt 10 t) ⟨[], [], []⟩ ∧ ShG H H' (RF b2 b3 b4 b5 b1 lp bs t ws 0 0 .ready none [(bp, .cells ((cutAt 10 t).map fun x => .str (S x)) false)]) bs bm st)
    (X := fun H' => ∃ (n : Nat) (st : Sht) (bp : Nat), passS 0 (cutAt 10 t) ⟨[], [], []⟩ = .inr n ∧ ShG H H' (RF b2 b3 b4 b5 b1 lp bs t ws n 60 .done (some .ret) [(bp, .cells ((cutAt 10 t).map fun x => .str (S x)) false)]) bs bm st)
    hGi ht hb1 (fun H' bp hbp k hn hg => ?_) (fun i H' bp ⟨st, _, _, _, sp, sm, sg, hL⟩ => ⟨hL.lm.lt (i := 8) rfl, hL.lm.get (i := 8) rfl⟩) (fun i H' bp hi ⟨st, q1, q2, q3, q4⟩ => ?_) (fun i H' bp s hi hs ⟨st, q1, q2, q3, q4⟩ => ?_)
  · refine wp_bnd (wp_clo hc ?_)
    refine iter.mono ?_
    rintro r H1 (⟨bp, st, q1, _, q3, q4⟩ | ⟨n, st, bp, q1, q4⟩)
    · rw [List.drop_eq_nil_of_le (Nat.le_refl _), passS_end] at q3
      obtain ⟨sp, sm, sg, q⟩ := q4
      refine wp_endL0 (q.lm.get (i := 6) rfl) (by simp) ?_
      have L := q.set (i := 6) rfl (.spc (.loop 96110293 ws .exhausted none))
      generalize H1.set lp (.spc (.loop 96110293 ws .exhausted none)) = H2 at L
      have hrd : readS t = match linkS st.goals st.marks st.prog with
          | .inr n => .inr (n, 5)
          | .inl p => .inl (p, st.marks) := by unfold readS; rw [if_neg (by omega), ← q3] <;> rfl
      refine step ?_
      refine wp_ldL 5 L rfl rfl ?_
      refine step ?_
      refine wp_ldL 0 L rfl rfl ?_
      refine step ?_
      have hgl : sg.len = st.goals.length := by have := (L.own _ (List.mem_of_getElem? (i := 2) rfl)).slR.len; simpa using this
      have hg1 := q1.p
      have hg2 := q1.g
      refine wp_for (σ := Unit) st.goals.length (by omega) (by rw [hgl]) (fun _ i => [I i]) (out := fun _ => []) (fun _ _ => rfl) rfl
        (fun i _ H' => ∃ p, p.length = st.prog.length ∧ linkS (st.goals.drop i) st.marks p = linkS st.goals st.marks st.prog ∧ Lg H H' ((bs, ShC sp sm sg bm) :: (bm, .spc (.map (mapE st.marks))) :: RF b2 b3 b4 b5 b1 lp bs t ws 0 0 .exhausted none [(bp, .cells ((cutAt 10 t).map fun x => .str (S x)) false)]) [(sp, 4, p.map Ins.cs), (sm, 3, st.marks.map Pl.cs), (sg, 3, st.goals.map Pl.cs)])
        () rfl ⟨st.prog, rfl, rfl, L⟩ ?_ ?_
      · rintro i _ H3 hi ⟨p, hpl, hlk, L3⟩
        have hrow : Rows Pl.cs 3 H3 sg st.goals := (L3.own _ (List.mem_of_getElem? (i := 2) rfl)).slR
        rw [List.drop_eq_getElem_cons hi] at hlk
        refine wp_at hrow hi fun b o => ?_
        generalize hge : st.goals[i] = g at hlk
        have hgm : g ∈ st.goals := by rw [← hge]; exact List.getElem_mem hi
        obtain ⟨a0, a1⟩ := q1.at_ g hgm
        show wp (uS [.str (S g.name), I g.line, I g.at_] _) _ _
        refine step ?_
        refine wp_ldL 5 L3 rfl rfl ?_
        refine step ?_
        refine wp_ldL 0 L3 rfl rfl ?_
        refine step ?_
        cases hf : st.marks.find? fun m => decide (m.name = g.name) with
        | none =>
          refine wp_lk (L3.lm.get (i := 1) rfl) (show lkS (mapE st.marks) (S g.name) = some none by rw [lk_mapE, hf]; rfl) ?_
          rw [linkS, hf] at hlk
          simp only at hlk
          rw [← hlk] at hrd
          refine step ?_
          refine wp_stG 2 L3 rfl (by simp) rfl fun H4 L4 => ?_
          refine wp_stG 3 L4 rfl (by simp) rfl fun H5 L5 => ?_
          refine wp_stG 4 L5 rfl (by simp) rfl fun H6 L6 => ?_
          refine wp_ldL 2 L6 rfl rfl ?_
          refine step ?_
          refine wp_ldL 3 L6 rfl rfl ?_
          refine step ?_
          refine wp_ldL 4 L6 rfl rfl ?_
          refine step ?_
          exact h2 _ 5 H6 hrd L6.kp
        | some m =>
          refine wp_lk (L3.lm.get (i := 1) rfl) (show lkS (mapE st.marks) (S g.name) = some (some (I m.at_)) by rw [lk_mapE, hf]; rfl) ?_
          rw [linkS, hf] at hlk
          simp only at hlk
          refine step ?_
          refine wp_ldL 5 L3 rfl rfl ?_
          refine step ?_
          refine wp_ldL 0 L3 rfl rfl ?_
          refine step ?_
          have hil : g.at_.toNat < p.length := by omega
          rw [show g.at_ = ((g.at_.toNat : Nat) : Int) by omega]
          refine wp_ixSt 0 L3 rfl (i := g.at_.toNat) (k := 1) (l := Ins.cs p[g.at_.toNat]) (by rw [List.getElem?_map, List.getElem?_eq_getElem hil]; rfl) (by omega) rfl fun H4 L4 => ?_
          rw [← setA_map hil] at L4
          refine step ?_
          exact ⟨(), rfl, setA p g.at_.toNat m.at_, by rw [setA_len, hpl], hlk, L4⟩
      · rintro _ H3 ⟨p, hpl, hlk, L3⟩
        rw [List.drop_eq_nil_of_le (Nat.le_refl _)] at hlk
        rw [linkS] at hlk
        rw [← hlk] at hrd
        refine step ?_
        refine wp_ldL 5 L3 rfl rfl ?_
        refine step ?_
        refine wp_stG 2 L3 rfl (by simp) rfl fun H4 L4 => ?_
        refine wp_stG 3 L4 rfl (by simp) rfl fun H5 L5 => ?_
        refine wp_stG 4 L5 rfl (by simp) rfl fun H6 L6 => ?_
        refine wp_ldL 2 L6 rfl rfl ?_
        refine step ?_
        refine wp_ldL 3 L6 rfl rfl ?_
        refine step ?_
        refine wp_ldL 4 L6 rfl rfl ?_
        refine step ?_
        exact h1 p st.marks H6 bs sp sm sg bm hrd L6.kp (L6.lm.get (i := 0) rfl) (L6.lm.lt (i := 0) rfl) (L6.own _ (List.mem_of_getElem? (i := 0) rfl)).slR (L6.own _ (List.mem_of_getElem? (i := 1) rfl))
    · obtain ⟨sp, sm, sg, q⟩ := q4
      have hrd : readS t = .inr (n, 60) := by unfold readS; rw [if_neg (by omega), q1]
      refine wp_endLr (q.lm.get (i := 6) rfl) (by simp) ?_
      have L := q.set (i := 6) rfl (.spc (.loop 96110293 ws .exhausted (some .ret)))
      refine wp_ldL 2 L rfl rfl ?_
      refine step ?_
      refine wp_ldL 3 L rfl rfl ?_
      refine step ?_
      refine wp_ldL 4 L rfl rfl ?_
      refine step ?_
      exact h2 _ 60 _ hrd L.kp
  · refine ⟨⟨[], [], []⟩, ⟨by simp, by simp, by simp, by simp⟩, by omega, rfl, ?_⟩
    obtain ⟨sp, sm, sg, q⟩ := hS0
    exact ⟨sp, sm, sg, q.add k hbp hn hg⟩
  · have hil := (List.getElem?_eq_some_iff.1 hi).1
    rw [List.drop_eq_getElem_cons hil] at q3
    have : (cutAt 10 t)[i] = [] := (List.getElem?_eq_some_iff.1 hi).2
    rw [this, passS_nil] at q3
    exact ⟨st, q1.up (by omega), by omega, q3, q4⟩
  · have hil := (List.getElem?_eq_some_iff.1 hi).1
    have hse : (cutAt 10 t)[i] = s := (List.getElem?_eq_some_iff.1 hi).2
    rw [List.drop_eq_getElem_cons hil, hse] at q3
    have hcl := cut_count 10 t
    have hsl := cut_len 10 t s (List.mem_of_getElem? hi)
    obtain ⟨sp, sm, sg, q⟩ := q4
    refine wp_rnd (q.lm.get (i := 6) rfl) hr (label_read_round hG (by omega) (q1.up (by omega)) hws.symm ⟨sp, sm, sg, q⟩ (fun st' H2 he hS => ?_) (fun H2 he hS => ?_))
    · rw [passS_yes hs he] at q3
      exact .inl ⟨rfl, st', q1.take he, by omega, q3, hS⟩
    · rw [passS_no hs he] at q3
      exact .inr ⟨rfl, i + 1, st, bp, q3.symm, hS⟩
end
end Go.Proofs.YtmfmcegpoiinjaaDoor.HM
