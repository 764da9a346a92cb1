/- the restatement of labels: Said walked. Conditions: none. -/
import Derived.Test.YtmfmcegpoiinjaaDoorHMRb
namespace Go.Proofs.YtmfmcegpoiinjaaDoor.HM
open Go
set_option maxRecDepth 100000

theorem fields_len : ∀ (sh : Bs) (xs : List Bs) (i : Nat) (g : Bs) (f : List Int), xs.length ≠ sh.length → fieldsS sh xs i g f = none := by
  intro sh
  induction sh with
  | nil => intro xs i g f h; cases xs with
    | nil => simp at h
    | cons x xs => rfl
  | cons c sh ih => intro xs i g f h; cases xs with
    | nil => rfl
    | cons x xs =>
      simp only [fieldsS]
      split
      · split
        · exact ih _ _ _ _ (by simpa using h)
        · rfl
      · split
        · exact ih _ _ _ _ (by simpa using h)
        · rfl
/-- all but the first of a row. -/
theorem tail_rows {H : Heap} {s : Sl} {w : Bs} {ws : List Bs} (h : RStrs H s (w :: ws)) :
    RStrs H ⟨bif decide ((s.cap : Int) = 1) then s.p else s.p.map (fun q => (q.1, q.2 + (1 : Int).toNat * 1)), ((s.len : Int) - 1 : Int).toNat, ((s.cap : Int) - 1 : Int).toNat, slOp s.opn (decide ((1 : Int) < (s.cap : Int)))⟩ ws ∨
    (ws = [] ∧ ((s.len : Int) - 1 : Int).toNat = 0) := by
  have hl := h.len
  have hc := SlR.cap h
  have hop := SlR.opn h
  have hlt := h.lt
  rcases Nat.eq_zero_or_pos ws.length with h0 | hpos
  · right
    have := List.eq_nil_of_length_eq_zero h0
    subst this
    exact ⟨rfl, by simp at hl; omega⟩
  · left
    simp only [List.length_cons] at hl hlt
    have hp : (bif decide ((s.cap : Int) = 1) then s.p else s.p.map (fun q => (q.1, q.2 + (1 : Int).toNat * 1))) = s.p.map (fun q => (q.1, q.2 + 1)) := by
      rw [decide_eq_false (by omega)]; rfl
    have ho : slOp s.opn (decide ((1 : Int) < (s.cap : Int))) = s.opn := by
      rw [decide_eq_true (by omega)]; cases s.opn <;> rfl
    rw [hp, ho]
    refine ⟨by simp; omega, by simp; omega, by simp; omega, hop, fun l hl => by obtain ⟨x, _, rfl⟩ := List.mem_map.1 hl; rfl, ?_⟩
    rcases SlR.mem h with ⟨h1, h2⟩ | ⟨b, o, cs, ro, h1, h2, h3, h4, h5⟩
    · simp at h2
    · refine .inr ⟨b, o + 1, cs, ro, by rw [h1]; rfl, h2, h3, by simp at h4 ⊢; omega, ?_⟩
      have e : (cs.drop (o + 1)).take (ws.length * 1) = ((cs.drop o).take ((ws.length + 1) * 1)).drop 1 := by
        rw [List.drop_take, List.drop_drop]; congr 1 <;> omega
      simp only [List.length_map, List.length_cons, List.map_cons] at h5 ⊢
      rw [e, h5]; rfl
section
variable {D : HV → List HV → M HV} {H : Heap} {Q : HV → Heap → Prop}
theorem RSaid_wp {l : Bs} (h0 : l ≠ []) (hl : l.length ≤ 100000)
    (h1 : ∀ x H', Kp H H' → said l = some x → Q (.tup [.agg x.cs, .bool true]) H') (h2 : ∀ m g a b c d H', Kp H H' → said l = none → Q (.tup [.agg (lineC m g a b c d), .bool false]) H') : wp (f_ref26_Said D [.str (S l)]) Q H := by
  unfold f_ref26_Said
  have hsz := S_size l
  have hpos : 0 < l.length := List.length_pos_iff.2 h0
  refine step ⟨by omega, by omega, ?_⟩
  rw [head_at hpos]
  refine ⟨fun c => ⟨by omega, by omega, by omega, by omega, by omega, by omega, ?_⟩, fun c => ?_⟩
  · have hh : l.head? = some 58 := (head_iff' hpos 58).2 (UInt8.toNat_inj.1 (by simpa using (by omega : l[0].toNat = 58)))
    rw [S_ext]
    have e : List.take (((S l).size : Int).toNat - (1 : Int).toNat) (List.drop (1 : Int).toNat l) = l.drop 1 := by
      rw [hsz]; exact List.take_of_length_le (by simp)
    rw [e]
    refine wp_bnd (RName_wp (by simp; omega) fun b hb => step ?_)
    by_cases hn : nameOk (l.drop 1)
    · have : b = true := hb.2 hn
      subst this
      exact h1 (.mark (l.drop 1)) H (Kp.refl H) (by unfold said; rw [if_pos hh, if_pos hn])
    · have : b = false := by cases b with
        | false => rfl
        | true => exact absurd (hb.1 rfl) hn
      subst this
      exact h2 (l.drop 1) [] 0 0 0 0 H (Kp.refl H) (by unfold said; rw [if_pos hh, if_neg hn])
  · have hh : l.head? ≠ some 58 := fun hh => by
      have := (head_iff' hpos 58).1 hh
      rw [this] at c; exact c rfl
    refine wp_bnd (Pieces_wp (c := 32) hl fun H1 s k1 hs => step ?_)
    have hcl := cut_count 32 l
    have hlx2 := cut_len 32 l
    have hs0 : said l = match words.idxOf? ((cutAt 32 l).headD []) with
          | none => none
          | some k => match fieldsS shapes[k]! ((cutAt 32 l).drop 1) 0 [] [0, 0, 0] with
            | some (g, f) => some (.ins ⟨k, f.getD 0 0, f.getD 1 0, f.getD 2 0⟩ g)
            | none => none := by unfold said; rw [if_neg hh]; rfl
    cases hc : cutAt 32 l with
    | nil =>
      exfalso
      cases l with
      | nil => exact h0 rfl
      | cons b r =>
        rw [cutAt] at hc
        split at hc
        · cases hc
        · split at hc <;> cases hc
    | cons w ws =>
    rw [hc] at hs hs0 hcl hlx2
    replace hs0 : said l = match words.idxOf? w with
          | none => none
          | some k => match fieldsS shapes[k]! ws 0 [] [0, 0, 0] with
            | some (g, f) => some (.ins ⟨k, f.getD 0 0, f.getD 1 0, f.getD 2 0⟩ g)
            | none => none := hs0
    have hlen := hs.lenI
    have hcap := SlR.cap hs
    simp only [List.length_cons] at hlen hcl
    refine wp_atS hs (i := 0) (by simp) fun b' o' => step (wp_bnd (ROp_wp (fun k H2 hk k2 => step ?_) (fun H2 hk k2 => step ?_)))
    · replace hk : words[k]? = some w := hk
      have hk22 : k < 22 := (List.getElem?_eq_some_iff.1 hk).1
      rw [idx_some hk] at hs0
      simp only at hs0
      have hB : ∀ {H : Heap} {Q : HV → Heap → Prop}, Q (.str (S shapes[k]!)) H → wp (f_ref26_Behind D [I k]) Q H := fun hq => Behind_wp hk22 hq
      have hfl := fields_len shapes[k]! ws 0 [] [0, 0, 0]
      have hl3 := (sh_at hk22).1
      generalize shapes[k]! = sh at *
      have hsz2 := S_size sh
      refine wp_jnP (ws.length ≠ sh.length) ?_ (fun h3 => step ?_) (fun h3 => step ?_)
      · refine step ⟨fun c => by omega, fun c => wp_bnd (hB (step ?_))⟩
        rw [wr_small (by omega) (by omega), bne_iff_ne]; omega
      · rw [hfl h3] at hs0
        exact h2 [] [] 0 0 0 0 H2 (k1.trans k2) hs0
      · have hlx : ws.length = sh.length := by omega
        refine ⟨by omega, by omega, by omega, by omega, ?_, ?_⟩
        · rcases SlR.opn hs with ho | ho <;> rw [ho] <;> simp [slOk]
        have htl := tail_rows (hs.keeps k2.k)
        generalize hs' : (⟨bif decide ((s.cap : Int) = 1) then s.p else s.p.map (fun q => (q.1, q.2 + (1 : Int).toNat * 1)), ((s.len : Int) - 1 : Int).toNat, ((s.cap : Int) - 1 : Int).toNat, slOp s.opn (decide ((1 : Int) < (s.cap : Int)))⟩ : Sl) = s' at *
        have hrow : ∀ i, i < ws.length → RStrs H2 s' ws := fun i hi => by
          rcases htl with h | ⟨h, _⟩
          · exact h
          · subst h; simp at hi
        have K := k1.trans k2
        refine wp_for (σ := Bs × List Int) ws.length (by omega) (by omega) (fun x i => [I i, .agg [.str (S []), .str (S x.1), I k, I 0, I 0, I 0], .agg (x.2.map I)]) (out := fun x => [.agg [.str (S []), .str (S x.1), I k, I 0, I 0, I 0], .agg (x.2.map I)])
          (fun _ _ => rfl) rfl (fun i x H' => H' = H2 ∧ x.2.length = 3 ∧ fieldsS (sh.drop i) (ws.drop i) i x.1 x.2 = fieldsS sh ws 0 [] [0, 0, 0]) ([], [0, 0, 0]) rfl ⟨rfl, rfl, rfl⟩ ?_ ?_
        · rintro i ⟨g, f⟩ H' hi ⟨rfl, hf3, hst⟩
          have his : i < sh.length := by omega
          simp only at hf3 hst ⊢
          rw [List.drop_eq_getElem_cons hi, List.drop_eq_getElem_cons his] at hst
          simp only [fieldsS] at hst
          have hr := hrow i hi
          have hxi : ws[i].length ≤ 100000 := by
            have := hlx2 ws[i] (List.mem_cons_of_mem _ (List.getElem_mem hi)); omega
          refine wp_atS hr hi fun b o => ?_
          refine step (wp_bnd (hB (step ⟨by omega, by omega, wp_jn (step ?_)⟩)))
          rw [at_S his]
          refine ⟨fun c1 => ?_, fun c1 => ?_⟩
          · have hc : sh[i] = 103 := UInt8.toNat_inj.1 (by simpa using (by omega : (sh[i]).toNat = 103))
            rw [if_pos hc] at hst
            refine wp_bnd (RName_wp (by omega) fun b hb => step ⟨fun e => ?_, fun e => ?_⟩)
            · rw [if_neg (fun hh => by rw [hb.2 hh] at e; cases e)] at hst
              rw [← hst] at hs0
              exact h2 [] [] 0 0 0 0 _ K hs0
            · rw [if_pos (hb.1 e)] at hst
              exact ⟨(ws[i], f), rfl, rfl, hf3, hst⟩
          · have hc : sh[i] ≠ 103 := fun hh => c1 (by rw [hh]; rfl)
            rw [if_neg hc] at hst
            refine wp_bnd (RNum_wp (by omega) (fun n e => step ?_) (fun e => step ?_))
            · rw [e] at hst
              refine ⟨by omega, by omega, by simp [hf3]; omega, ⟨(g, f.set i n), ?_, rfl, by simpa using hf3, hst⟩⟩
              rw [show 0 + (i : Int).toNat * 1 = i by omega, List.map_set]
            · rw [e] at hst
              rw [← hst] at hs0
              exact ⟨by omega, by omega, by simp [hf3]; omega, h2 [] [] 0 0 0 0 _ K hs0⟩
        · rintro ⟨g, f⟩ H' ⟨rfl, hf3, hst⟩
          simp only at hf3 hst ⊢
          rw [List.drop_eq_nil_of_le (by omega), List.drop_eq_nil_of_le (by omega)] at hst
          simp only [fieldsS] at hst
          match f, hf3 with
          | [a, b, c], _ =>
            rw [show List.map I [a, b, c] = [I a, I b, I c] from rfl]
            rw [← hst] at hs0
            exact step (h1 _ _ K hs0)
    · replace hk : ∀ k : Nat, words[k]? ≠ some w := hk
      rw [idx_none hk] at hs0
      simp only at hs0
      refine wp_jnP True ?_ (fun h3 => step (h2 [] [] 0 0 0 0 H2 (k1.trans k2) hs0)) (fun h3 => absurd trivial h3)
      exact step ⟨fun c => by simp, fun c => by omega⟩
end
end Go.Proofs.YtmfmcegpoiinjaaDoor.HM
namespace Go.Proofs.YtmfmcegpoiinjaaDoor.HM
open Go
set_option maxRecDepth 100000

/-- the goals that lines name, from a line's number and a place on. -/
noncomputable def goalsS : Nat → List Bs → Nat → List Pl
  | _, [], _ => []
  | i, s :: ls, k => match s with
    | [] => goalsS (i + 1) ls k
    | c :: r => match said (c :: r) with
      | some (.ins _ g) => (if g = [] then [] else [⟨g, (i : Int) + 1, k⟩]) ++ goalsS (i + 1) ls (k + 1)
      | _ => goalsS (i + 1) ls k
theorem goalsS_nil {i k : Nat} {ls : List Bs} : goalsS i ([] :: ls) k = goalsS (i + 1) ls k := by rw [goalsS]
theorem goalsS_mark {i k : Nat} {s m : Bs} {ls : List Bs} (hs : s ≠ []) (h : said s = some (.mark m)) : goalsS i (s :: ls) k = goalsS (i + 1) ls k := by
  cases s with
  | nil => exact absurd rfl hs
  | cons c r => rw [goalsS]; simp only [h]
theorem goalsS_ins {i k : Nat} {s g : Bs} {x : Ins} {ls : List Bs} (hs : s ≠ []) (h : said s = some (.ins x g)) : goalsS i (s :: ls) k = (if g = [] then [] else [⟨g, (i : Int) + 1, k⟩]) ++ goalsS (i + 1) ls (k + 1) := by
  cases s with
  | nil => exact absurd rfl hs
  | cons c r => rw [goalsS]; simp only [h]
theorem take_mark {n : Int} {s m : Bs} {st st' : Sht} (h : said s = some (.mark m)) (e : takeS n s st = some st') : st' = { st with marks := st.marks ++ [⟨m, n, st.prog.length⟩] } := by
  unfold takeS at e; rw [h] at e
  simp only at e
  split at e
  · cases e
  · cases e; rfl
theorem take_ins {n : Int} {s g : Bs} {x : Ins} {st st' : Sht} (h : said s = some (.ins x g)) (e : takeS n s st = some st') : st' = ⟨st.prog ++ [x], st.marks, if g = [] then st.goals else st.goals ++ [⟨g, n, st.prog.length⟩]⟩ := by
  unfold takeS at e; rw [h] at e
  simp only at e
  split at e
  · cases e
  · cases e; rfl
theorem take_none {n : Int} {s : Bs} {st : Sht} (h : said s = none) : takeS n s st = none := by unfold takeS; rw [h]
/-- what a pass over lines that succeeds leaves. -/
theorem pass_goals : ∀ (ls : List Bs) (i : Nat) (st st' : Sht), passS i ls st = .inl st' → ShB i st →
    st'.goals = st.goals ++ goalsS i ls st.prog.length ∧ ShB (i + ls.length) st' ∧ ∀ s ∈ ls, s ≠ [] → said s ≠ none
  | [], i, st, st', h, hb => by
    rw [passS] at h; cases h
    refine ⟨by simp [goalsS], hb, fun s hs => (by cases hs)⟩
  | [] :: ls, i, st, st', h, hb => by
    rw [passS_nil] at h
    obtain ⟨h1, h2, h3⟩ := pass_goals ls (i + 1) st st' h (hb.up (by omega))
    refine ⟨by rw [goalsS_nil]; exact h1, h2.up (by simp; omega), fun s hs hne => ?_⟩
    rcases List.mem_cons.1 hs with rfl | hs
    · exact absurd rfl hne
    · exact h3 s hs hne
  | (c :: r) :: ls, i, st, st', h, hb => by
    have hne : (c :: r : Bs) ≠ [] := by simp
    cases e : takeS ((i : Int) + 1) (c :: r) st with
    | none => rw [passS_no hne e] at h; cases h
    | some st1 =>
      rw [passS_yes hne e] at h
      obtain ⟨h1, h2, h3⟩ := pass_goals ls (i + 1) st1 st' h (hb.take e)
      refine ⟨?_, h2.up (by simp; omega), fun s hs hn => ?_⟩
      · cases hs : said (c :: r) with
        | none => rw [take_none hs] at e; cases e
        | some x => cases x with
          | mark m =>
            have := take_mark hs e; subst this
            rw [goalsS_mark hne hs]; exact h1
          | ins x g =>
            have := take_ins hs e; subst this
            rw [goalsS_ins hne hs, h1]
            simp only [List.length_append, List.length_cons, List.length_nil]
            split
            · simp
            · simp
      · rcases List.mem_cons.1 hs with rfl | hs
        · intro hh; rw [take_none hh] at e; cases e
        · exact h3 s hs hn
theorem said_mark_head {s m : Bs} (h : said s = some (.mark m)) : s.head? = some 58 ∧ m ≠ [] := by
  unfold said at h
  split at h
  · rename_i hh
    split at h
    · rename_i hn; cases h; exact ⟨hh, fun e => by have := hn.1; rw [e] at this; simp at this⟩
    · cases h
  · split at h
    · cases h
    · split at h
      · cases h
      · cases h
theorem said_ins_head {s g : Bs} {x : Ins} (h : said s = some (.ins x g)) : s.head? ≠ some 58 := by
  unfold said at h
  split at h
  · split at h
    · cases h
    · cases h
  · rename_i hh; exact hh
theorem find_at {l : List Pl} {w : Bs} : ((l.map fun m => ((m.name, m.at_) : Bs × Int)).find? fun x => decide (x.1 = w)) = (l.find? fun m => decide (m.name = w)).map fun m => (m.name, m.at_) := by
  rw [List.find?_map]; rfl
theorem beq_nil {m : Bs} (h : m ≠ []) : ((S m).toList == (ByteArray.mk #[]).toList) = false := by
  rw [beq_eq_false_iff_ne, toList_S, ← S_nil, toList_S]; exact h

instance wi_rF4 {Q : HV → Heap → Prop} {H : Heap} {u v w t : HV} : W (ret (.ret [u, v, w, t])) (PFin Q) H (Q (.tup [u, v, w, t]) H) := ⟨wp_rF4⟩
abbrev Pl.mk2 (m : Pl) : List HV := [.str (S m.name), I m.at_]
section
variable {D : HV → List HV → M HV} {H : Heap} {Q : HV → Heap → Prop}
theorem RRead_wp {t : Bs} (htl : t.length ≤ 9223372036854775807)
    (h1 : ∀ p ms H' sp sm, readS t = .inl (p, ms) → Kp H H' → RProg H' sp p → Own H H' sm 2 (ms.map Pl.mk2) → Q (.tup [.sl sp, .sl sm, I 0, I 0]) H')
    (h2 : ∀ n e H', readS t = .inr (n, e) → Kp H H' → Q (.tup [.sl ⟨none, 0, 0, none⟩, .sl ⟨none, 0, 0, none⟩, I n, I e]) H') : wp (f_ref26_Read D [.str (S t)]) Q H := by
  unfold f_ref26_Read
  have hsz := S_size t
  have hroom : room = 140737488355328 := rfl
  refine step ⟨fun c => ?_, fun c => ?_⟩
  · exact h2 0 3 H (by unfold readS; rw [if_pos (by omega)]) (Kp.refl H)
  have ht : t.length ≤ 4096 := by omega
  refine wp_bnd (Pieces_wp (c := 10) (by omega) fun H1 s k1 hs => step ?_)
  have hcl := cut_count 10 t
  have hlx := cut_len 10 t
  have hrd : readS t = match passS 0 (cutAt 10 t) ⟨[], [], []⟩ with
    | .inr n => .inr (n, 60)
    | .inl st => match linkS st.goals st.marks st.prog with
      | .inr n => .inr (n, 5)
      | .inl p => .inl (p, st.marks) := by unfold readS; rw [if_neg (by omega)] <;> rfl
  generalize cutAt 10 t = ls at *
  have L0 := ((Lg.of (Lm.nil H1)).nil 4).nil 2
  refine wp_for (σ := Sl × Sl × Sht) ls.length (by omega) hs.lenI (fun x i => [.sl x.1, .sl x.2.1, I i]) (out := fun x => [.sl x.1, .sl x.2.1]) (fun _ _ => rfl) rfl
    (fun i x H' => Lg H1 H' [] [(x.1, 4, x.2.2.prog.map Ins.cs), (x.2.1, 2, x.2.2.marks.map Pl.mk2)] ∧ ShB i x.2.2 ∧ (∀ m ∈ x.2.2.marks, 0 ≤ m.at_) ∧ passS i (ls.drop i) x.2.2 = passS 0 ls ⟨[], [], []⟩)
    (⟨none, 0, 0, none⟩, ⟨none, 0, 0, none⟩, ⟨[], [], []⟩) rfl ⟨L0, ⟨by simp, by simp, by simp, by simp⟩, by simp, rfl⟩ ?_ ?_
  · rintro i ⟨sp, sm, st⟩ H2 hi ⟨L, hb, hat, hps⟩
    simp only at L hb hat hps ⊢
    have hw : wr ((i : Int) + 1) = (i : Int) + 1 := wr_small (by omega) (by omega)
    have hp48 := hb.p
    have hmi := hb.m
    have hlp : sp.len = st.prog.length := by have := (L.own _ (List.mem_of_getElem? (i := 0) rfl)).slR.len; simpa using this
    have hrm : RMk H2 sm (st.marks.map fun m => (m.name, m.at_)) := by
      have := (L.own _ (List.mem_of_getElem? (i := 1) rfl)).slR
      show SlR _ _ _ _
      rw [List.map_map]; exact this
    have hxl := hlx ls[i] (List.getElem_mem hi)
    rw [List.drop_eq_getElem_cons hi] at hps
    refine wp_blk (wp_atS (hs.keeps L.kp.k) hi fun b o => ?_)
    generalize ls[i] = x at *
    refine step ⟨fun c => ?_, fun c => ?_⟩
    · rw [beq_iff_eq, toList_S, ← S_nil, toList_S] at c
      subst c
      rw [passS_nil] at hps
      exact ⟨(sp, sm, st), rfl, L, hb.up (by omega), hat, hps⟩
    rw [beq_eq_false_iff_ne, toList_S, ← S_nil, toList_S] at c
    have bad : takeS ((i : Int) + 1) x st = none → ∀ H', Kp H2 H' → Q (.tup [.sl ⟨none, 0, 0, none⟩, .sl ⟨none, 0, 0, none⟩, I (wr ((i : Int) + 1)), I 60]) H' := fun hh H' k => by
      rw [passS_no c hh] at hps
      rw [← hps] at hrd
      rw [hw]
      exact h2 _ 60 H' hrd ((k1.trans L.kp).trans k)
    have good : ∀ st', takeS ((i : Int) + 1) x st = some st' → passS (i + 1) (ls.drop (i + 1)) st' = passS 0 ls ⟨[], [], []⟩ ∧ ShB (i + 1) st' := fun st' hh => by
      rw [passS_yes c hh] at hps
      exact ⟨hps, hb.take hh⟩
    refine wp_bnd (RSaid_wp c (by omega) (fun y H3 k3 hy => ?_) (fun m g a b c d H3 k3 hy => ?_))
    · have L3 := L.keeps k3
      cases y with
      | mark m =>
        have hm0 := (said_mark_head hy).2
        have hmf := beq_nil hm0
        have nof : ∀ {α : Prop}, ((S m).toList == (ByteArray.mk #[]).toList) = true → α := fun hh => by rw [hmf] at hh; cases hh
        show wp (asT (HV.tup [.agg [.str (S m), .str (S []), I 0, I 0, I 0, I 0], .bool true]) _) _ _
        refine step (wp_jn (step ⟨fun _ => ?_, fun hh => nof hh⟩))
        have hts : takeS ((i : Int) + 1) x st = (open Classical in if m ∈ st.marks.map Pl.name then none else some { st with marks := st.marks ++ [⟨m, (i : Int) + 1, st.prog.length⟩] }) := by unfold takeS; rw [hy]
        refine wp_bnd (RAt_wp (hrm.keeps k3.k) (fun z hz => step ⟨fun _ => ?_, fun hh => ?_⟩) (fun hz => step ⟨fun hh => absurd hh (by omega), fun _ => ⟨fun hh => nof hh, fun _ => ⟨fun _ => ?_, fun hh => nof hh⟩⟩⟩))
        · rw [find_at] at hz
          refine bad ?_ _ k3
          rw [hts, if_pos]
          cases hf : st.marks.find? fun m' => decide (m'.name = m) with
          | none => rw [hf] at hz; cases hz
          | some m' =>
            have := List.find?_some hf
            exact List.mem_map.2 ⟨m', List.mem_of_find?_eq_some hf, by simpa using this⟩
        · exfalso
          rw [find_at] at hz
          cases hf : st.marks.find? fun m' => decide (m'.name = m) with
          | none => rw [hf] at hz; cases hz
          | some m' =>
            rw [hf] at hz; cases hz
            exact hh (hat m' (List.mem_of_find?_eq_some hf))
        · rw [find_at] at hz
          have hnm : m ∉ st.marks.map Pl.name := fun hm => by
            obtain ⟨p, hp⟩ := find_some hm
            rw [hp] at hz; cases hz
          rw [if_neg hnm] at hts
          obtain ⟨g1, g2⟩ := good _ hts
          refine wp_apdG 1 L3 rfl rfl (by omega) (by simp; omega) (by simp; omega) fun s' H4 L4 => ?_
          refine step ⟨(sp, s', _), rfl, ?_, g2, ?_, g1⟩
          · simp only [List.map_append, List.map_cons, List.map_nil]
            rw [hlp] at L4
            exact L4
          · intro m' hm'
            rcases List.mem_append.1 hm' with hm' | hm'
            · exact hat m' hm'
            · simp at hm'; subst hm'; simp
      | ins y g =>
        have hmt : ((S ([] : Bs)).toList == (ByteArray.mk #[]).toList) = true := by rw [beq_iff_eq, ← S_nil]
        have nof : ∀ {α : Prop}, ((S ([] : Bs)).toList == (ByteArray.mk #[]).toList) = false → α := fun hh => by rw [hmt] at hh; cases hh
        show wp (asT (HV.tup [.agg [.str (S []), .str (S g), I y.op, I y.a, I y.b, I y.c], .bool true]) _) _ _
        have hts : takeS ((i : Int) + 1) x st = (if 48 ≤ st.prog.length then none else some ⟨st.prog ++ [y], st.marks, if g = [] then st.goals else st.goals ++ [⟨g, (i : Int) + 1, st.prog.length⟩]⟩) := by unfold takeS; rw [hy]
        refine step ?_
        refine wp_jnP (48 ≤ st.prog.length) ?_ (fun hh => step (bad (by rw [hts, if_pos hh]) _ k3)) (fun hh => step ⟨fun hh => nof hh, fun _ => ?_⟩)
        · refine step ⟨fun hh => nof hh, fun _ => ⟨fun _ => ?_, fun hh => nof hh⟩⟩
          rw [beq_iff_eq]; omega
        · rw [if_neg hh] at hts
          obtain ⟨g1, g2⟩ := good _ hts
          refine wp_apdG 0 L3 rfl rfl (by omega) (by simp; omega) (by simp; omega) fun s' H4 L4 => ?_
          refine step ⟨(s', sm, _), rfl, ?_, g2, hat, g1⟩
          simp only [List.map_append, List.map_cons, List.map_nil]
          exact L4
    · refine step (wp_jn (step ?_))
      exact bad (take_none hy) _ k3
  · rintro ⟨sp, sm, st⟩ H2 ⟨L, hb, hat, hps⟩
    simp only at L hb hat hps ⊢
    rw [List.drop_eq_nil_of_le (Nat.le_refl _), passS_end] at hps
    have hpg := pass_goals ls 0 ⟨[], [], []⟩ st hps.symm ⟨by simp, by simp, by simp, by simp⟩
    obtain ⟨q1, q2, q3⟩ := hpg
    simp only [List.nil_append, List.length_nil] at q1
    rw [← hps] at hrd
    simp only at hrd
    have hba := hb.at_
    have hp48 := hb.p
    refine step ?_
    refine wp_for (σ := Nat × List Ins) ls.length (by omega) hs.lenI (fun x i => [I x.1, I i]) (out := fun _ => []) (fun _ _ => rfl) rfl
      (fun i x H' => Lg H1 H' [] [(sp, 4, x.2.map Ins.cs), (sm, 2, st.marks.map Pl.mk2)] ∧ x.2.length = st.prog.length ∧ x.1 ≤ i ∧ (∀ g ∈ goalsS i (ls.drop i) x.1, g ∈ st.goals) ∧ linkS (goalsS i (ls.drop i) x.1) st.marks x.2 = linkS st.goals st.marks st.prog)
      (0, st.prog) rfl ⟨L, rfl, Nat.le_refl _, by rw [q1]; exact fun g hg => hg, by rw [List.drop_zero, ← q1]⟩ ?_ ?_
    · rintro i ⟨k, p⟩ H3 hi ⟨L, hpl, hki, hsub, hlk⟩
      simp only at L hpl hki hsub hlk ⊢
      have hw : wr ((i : Int) + 1) = (i : Int) + 1 := wr_small (by omega) (by omega)
      have hwk : wr ((k : Int) + 1) = ((k + 1 : Nat) : Int) := by rw [wr_small (by omega) (by omega)]; rfl
      have hxl := hlx ls[i] (List.getElem_mem hi)
      have hq3 := q3 ls[i] (List.getElem_mem hi)
      rw [List.drop_eq_getElem_cons hi] at hsub hlk
      have hrm : RMk H3 sm (st.marks.map fun m => (m.name, m.at_)) := by
        have := (L.own _ (List.mem_of_getElem? (i := 1) rfl)).slR
        show SlR _ _ _ _
        rw [List.map_map]; exact this
      refine wp_blk (wp_atS (hs.keeps L.kp.k) hi fun b o => ?_)
      generalize ls[i] = x at *
      have hxs := S_size x
      refine step ?_
      refine wp_jnP (x = [] ∨ x.head? = some 58) ?_ (fun hh => step ?_) (fun hh => step ?_)
      · refine step ⟨fun c => ?_, fun c => ?_⟩
        · rw [beq_iff_eq, toList_S, ← S_nil, toList_S] at c
          simp [c]
        · rw [beq_eq_false_iff_ne, toList_S, ← S_nil, toList_S] at c
          have hpos : 0 < x.length := List.length_pos_iff.2 c
          refine ⟨by omega, by omega, ?_⟩
          rw [head_at hpos, beq_iff_eq, head_iff' hpos]
          constructor
          · intro h; exact .inr (UInt8.toNat_inj.1 (by simpa using (by omega : x[0].toNat = 58)))
          · rintro (h | h)
            · exact absurd h c
            · rw [h]; rfl
      · have hg : goalsS i (x :: ls.drop (i + 1)) k = goalsS (i + 1) (ls.drop (i + 1)) k := by
          by_cases hx0 : x = []
          · rw [hx0, goalsS_nil]
          · have hh2 : x.head? = some 58 := hh.resolve_left hx0
            cases hy : said x with
            | none => exact absurd hy (hq3 hx0)
            | some y => cases y with
              | mark m => exact goalsS_mark hx0 hy
              | ins y g => exact absurd hh2 (said_ins_head hy)
        rw [hg] at hsub hlk
        exact ⟨(k, p), rfl, L, hpl, by omega, hsub, hlk⟩
      · have hx0 : x ≠ [] := fun h => hh (.inl h)
        refine wp_bnd (RSaid_wp hx0 (by omega) (fun y H4 k4 hy => ?_) (fun m g a b c d H4 k4 hy => absurd hy (hq3 hx0)))
        have L4 := L.keeps k4
        cases y with
        | mark m => exact absurd (said_mark_head hy).1 (fun h => hh (.inr h))
        | ins y g =>
          show wp (asT (HV.tup [.agg [.str (S []), .str (S g), I y.op, I y.a, I y.b, I y.c], .bool true]) _) _ _
          rw [goalsS_ins hx0 hy] at hsub hlk
          refine step ?_
          by_cases hg : g = []
          · rw [if_pos hg, List.nil_append] at hsub hlk
            refine wp_jn (step ⟨fun c => ?_, fun c => ?_⟩)
            · rw [hg, beq_eq_false_iff_ne, ← S_nil] at c; exact absurd rfl c
            · exact ⟨(k + 1, p), by rw [hwk], L4, hpl, by omega, hsub, hlk⟩
          · rw [if_neg hg] at hsub hlk
            have hgm := hsub _ (List.mem_append_left _ List.mem_cons_self)
            have hgb := hba _ hgm
            simp only at hgb
            have hkp : k < p.length := by omega
            refine wp_jn (step ⟨fun c => ?_, fun c => by rw [beq_nil hg] at c; cases c⟩)
            rw [List.singleton_append, linkS] at hlk
            refine wp_bnd (RAt_wp (hrm.keeps k4.k) (fun z hz => step ⟨fun hh => ?_, fun hh => ?_⟩) (fun hz => step ⟨fun _ => ?_, fun hh => absurd hh (by omega)⟩))
            · exfalso
              rw [find_at] at hz
              cases hf : st.marks.find? fun m' => decide (m'.name = g) with
              | none => rw [hf] at hz; cases hz
              | some m' =>
                rw [hf] at hz; cases hz
                have := hat m' (List.mem_of_find?_eq_some hf)
                simp only at hh; omega
            · rw [find_at] at hz
              cases hf : st.marks.find? fun m' => decide (m'.name = g) with
              | none => rw [hf] at hz; cases hz
              | some m' =>
                rw [hf] at hz hlk; cases hz
                simp only at hlk
                rw [show ((k : Nat) : Int).toNat = k by omega] at hlk
                refine wp_ixSt 0 L4 rfl (i := k) (k := 1) (l := Ins.cs p[k]) (by rw [List.getElem?_map, List.getElem?_eq_getElem hkp]; rfl) (by omega) rfl fun H5 L5 => ?_
                rw [← setA_map hkp] at L5
                refine step ⟨(k + 1, setA p k m'.at_), by rw [hwk], L5, by rw [setA_len, hpl], by omega, fun g' hg' => hsub g' (List.mem_append_right _ hg'), hlk⟩
            · rw [find_at] at hz
              have hf : (st.marks.find? fun m' => decide (m'.name = g)) = none := by
                cases hf : st.marks.find? fun m' => decide (m'.name = g) with
                | none => rfl
                | some m' => rw [hf] at hz; cases hz
              rw [hf] at hlk
              simp only at hlk
              rw [← hlk] at hrd
              rw [hw]
              exact h2 _ 5 _ hrd ((k1.trans L.kp).trans k4)
    · rintro ⟨k, p⟩ H3 ⟨L, hpl, hki, hsub, hlk⟩
      simp only at L hpl hki hsub hlk ⊢
      rw [List.drop_eq_nil_of_le (Nat.le_refl _), goalsS, linkS] at hlk
      rw [← hlk] at hrd
      refine step (h1 p st.marks H3 sp sm hrd (k1.trans L.kp) (L.own _ (List.mem_of_getElem? (i := 0) rfl)).slR ((L.own _ (List.mem_of_getElem? (i := 1) rfl)).weaken k1.k))
end
end Go.Proofs.YtmfmcegpoiinjaaDoor.HM
