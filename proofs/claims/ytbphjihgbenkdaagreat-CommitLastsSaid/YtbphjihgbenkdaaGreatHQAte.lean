/- Lemmas for the row. Conditions: none. -/
import Derived.Test.YtbphjihgbenkdaaGreatHQAtc
namespace Go.Proofs.YtbphjihgbenkdaaGreat.HQ
set_option linter.unusedVariables false
set_option linter.unusedSectionVars false
set_option linter.unusedSimpArgs false
open Go
section
variable {H0 : Heap} {P : List HP} {D : DD}
theorem draft_All_1_int_v {σ : Type} {p b1 lp : Nat} {l : List (Int × Int)} {F1 F2 : List HP} [fd : Fnd P (rDraft eDI clC 2) p l F1] [fb : Fnd F1 rC b1 [.ptr (some (p, 0))] F2] {Q : HV → List HP → Prop} (q ex : Nat → σ → Prop) (M X : Nat → σ → List HP) (x0 : σ) (hl : l.length ≤ 1000000) (hq : q 0 x0) (h0 : Ent F2 (M 0 x0))
  (round : ∀ (A B C : HP) i e x, l[i]? = some e → q i x → Wp H0 (A :: B :: C :: M i x) (D (.yld lp) [I e.1, I e.2]) (fun a P' => (a = .bool true ∧ ∃ x', q (i + 1) x' ∧ Ent P' (A :: B :: C :: M (i + 1) x')) ∨ (a = .bool false ∧ ex i x ∧ Ent P' (A :: B :: C :: X i x))))
  (h1 : ∀ x, q l.length x → Q (.tup []) (own (rDraft eDI clC 2) p l :: own rC b1 [.ptr (some (p, 0))] :: M l.length x)) (h2 : ∀ i e x, l[i]? = some e → ex i x → Q (.tup []) (own (rDraft eDI clC 2) p l :: own rC b1 [.ptr (some (p, 0))] :: X i x)) :
  Wp H0 P (f_draft_Draft_int_All_1 D [.yld lp, .ptr (some (b1, 0))]) Q := by
 refine Wp.cl ?_
 refine Wp.ent (P' := own (rDraft eDI clC 2) p l :: own rC b1 [.ptr (some (p, 0))] :: M 0 x0) (.cons rfl (.cons rfl h0)) ?_
 unfold f_draft_Draft_int_All_1
 refine Wp.open (rDraft eDI clC 2) p fun s hs => ?_
 refine Wp.row (s := s) fun hr => ?_
 have hlen : s.len = l.length := hr.len
 refine go ?_
 refine Wp.forL (σ := σ) l.length (by omega) (by rw [hr.len]) (fun _ i => [I i]) (out := fun _ => []) (fun _ _ => rfl) q
  (fun i x => own rC p [.sl s] :: own (rRt (some (eDI, none)) clC 2) s l :: own rC b1 [.ptr (some (p, 0))] :: M i x) x0 rfl hq .refl ?_ ?_
 ·intro i x hi hx
  have he : l[i]? = some l[i] := List.getElem?_eq_getElem hi
  generalize l[i] = e at he
  refine Wp.ixN rfl he fun _ _ => ?_
  refine go ?_
  refine (round _ _ _ i e x he hx).mono ?_
  rintro a P' (⟨rfl, x', hx', he'⟩ | ⟨rfl, hex, hX⟩)
  ·refine go ?_
   exact ⟨x', rfl, hx', he'⟩
  ·refine Wp.ent hX (go ?_)
   exact ⟨_, h2 i e x he hex, .fold s hs .refl⟩
 ·intro x hx
  refine go ?_
  exact ⟨_, h1 x hx, .fold s hs .refl⟩
theorem draft_All_1_file_File_v {σ : Type} {p b1 lp : Nat} {l : List (Int × Fl)} {F1 F2 : List HP} [fd : Fnd P (rDraft eDF dfC 3) p l F1] [fb : Fnd F1 rC b1 [.ptr (some (p, 0))] F2] {Q : HV → List HP → Prop} (q ex : Nat → σ → Prop) (M X : Nat → σ → List HP) (x0 : σ) (hl : l.length ≤ 1000000) (hq : q 0 x0) (h0 : Ent F2 (M 0 x0))
  (round : ∀ (A B C : HP) i e x, l[i]? = some e → q i x → Wp H0 (A :: B :: C :: M i x) (D (.yld lp) [I e.1, .agg [.bool e.2.1, .str (S e.2.2)]]) (fun a P' => (a = .bool true ∧ ∃ x', q (i + 1) x' ∧ Ent P' (A :: B :: C :: M (i + 1) x')) ∨ (a = .bool false ∧ ex i x ∧ Ent P' (A :: B :: C :: X i x))))
  (h1 : ∀ x, q l.length x → Q (.tup []) (own (rDraft eDF dfC 3) p l :: own rC b1 [.ptr (some (p, 0))] :: M l.length x)) (h2 : ∀ i e x, l[i]? = some e → ex i x → Q (.tup []) (own (rDraft eDF dfC 3) p l :: own rC b1 [.ptr (some (p, 0))] :: X i x)) :
  Wp H0 P (f_draft_Draft_file_File_All_1 D [.yld lp, .ptr (some (b1, 0))]) Q := by
 refine Wp.cl ?_
 refine Wp.ent (P' := own (rDraft eDF dfC 3) p l :: own rC b1 [.ptr (some (p, 0))] :: M 0 x0) (.cons rfl (.cons rfl h0)) ?_
 unfold f_draft_Draft_file_File_All_1
 refine Wp.open (rDraft eDF dfC 3) p fun s hs => ?_
 refine Wp.row (s := s) fun hr => ?_
 have hlen : s.len = l.length := hr.len
 refine go ?_
 refine Wp.forL (σ := σ) l.length (by omega) (by rw [hr.len]) (fun _ i => [I i]) (out := fun _ => []) (fun _ _ => rfl) q
  (fun i x => own rC p [.sl s] :: own (rRt (some (eDF, none)) dfC 3) s l :: own rC b1 [.ptr (some (p, 0))] :: M i x) x0 rfl hq .refl ?_ ?_
 ·intro i x hi hx
  have he : l[i]? = some l[i] := List.getElem?_eq_getElem hi
  generalize l[i] = e at he
  refine Wp.ixN rfl he fun _ _ => ?_
  refine go ?_
  refine (round _ _ _ i e x he hx).mono ?_
  rintro a P' (⟨rfl, x', hx', he'⟩ | ⟨rfl, hex, hX⟩)
  ·refine go ?_
   exact ⟨x', rfl, hx', he'⟩
  ·refine Wp.ent hX (go ?_)
   exact ⟨_, h2 i e x he hex, .fold s hs .refl⟩
 ·intro x hx
  refine go ?_
  exact ⟨_, h1 x hx, .fold s hs .refl⟩
end
/-! landing, plainly -/
def landG {γ : Type} (cs : List (γ × Int)) (dc : List (Int × γ)) (n : Int) : List (γ × Int) := dc.foldl (fun r e => r.set e.1.toNat (e.2, n)) cs
abbrev landC (cs : List (Int × Int)) (dc : List (Int × Int)) (n : Int) : List (Int × Int) := landG cs dc n
abbrev landF (fs : List (Fl × Int)) (df : List (Int × Fl)) (n : Int) : List (Fl × Int) := landG fs df n
def landP1 (cu : List Int) (n : Int) (ps : List (Int × Int)) (s : Nat) : List (Int × Int) := if 0 < (cu[s]?).getD 0 then ps.set s (((ps[s]?).map Prod.fst).getD 0 + (cu[s]?).getD 0, n) else ps
def landP (ps : List (Int × Int)) (cu : List Int) (n : Int) (k : Nat) : List (Int × Int) := (List.range k).foldl (landP1 cu n) ps
def landT (v : Vw) (t : Tri) : Vw := ⟨landC v.cells t.dc (v.clock + 1), landF v.files t.df (v.clock + 1), v.texts, landP v.places t.cu (v.clock + 1) 3, v.clock + 1⟩
theorem landG_len {γ : Type} {cs : List (γ × Int)} {dc : List (Int × γ)} {n : Int} : (landG cs dc n).length = cs.length := by
 unfold landG
 induction dc generalizing cs with
 | nil => rfl
 | cons e r ih => rw [List.foldl_cons, ih]; simp
theorem landC_len {cs dc : List (Int × Int)} {n : Int} : (landC cs dc n).length = cs.length := landG_len
theorem landF_len {fs : List (Fl × Int)} {df : List (Int × Fl)} {n : Int} : (landF fs df n).length = fs.length := landG_len
theorem landP_len {ps : List (Int × Int)} {cu : List Int} {n : Int} : ∀ {k : Nat}, (landP ps cu n k).length = ps.length
 | 0 => rfl
 | k + 1 => by
  unfold landP
  rw [List.range_succ, List.foldl_append]
  have := landP_len (ps := ps) (cu := cu) (n := n) (k := k)
  unfold landP at this
  simp only [List.foldl_cons, List.foldl_nil, landP1]
  split <;> simp [this]
theorem landG_snoc {γ : Type} {cs : List (γ × Int)} {dc : List (Int × γ)} {n : Int} {i : Nat} {e : Int × γ} (h : dc[i]? = some e) : landG cs (dc.take (i + 1)) n = (landG cs (dc.take i) n).set e.1.toNat (e.2, n) := by
 obtain ⟨hi, rfl⟩ := List.getElem?_eq_some_iff.1 h
 unfold landG
 rw [List.take_succ_eq_append_getElem hi, List.foldl_append]; rfl
theorem landC_snoc {cs dc : List (Int × Int)} {n : Int} {i : Nat} {e : Int × Int} (h : dc[i]? = some e) : landC cs (dc.take (i + 1)) n = (landC cs (dc.take i) n).set e.1.toNat (e.2, n) := landG_snoc h
theorem landF_snoc {fs : List (Fl × Int)} {df : List (Int × Fl)} {n : Int} {i : Nat} {e : Int × Fl} (h : df[i]? = some e) : landF fs (df.take (i + 1)) n = (landF fs (df.take i) n).set e.1.toNat (e.2, n) := landG_snoc h
theorem landP_succ {ps : List (Int × Int)} {cu : List Int} {n : Int} {k : Nat} : landP ps cu n (k + 1) = landP1 cu n (landP ps cu n k) k := by
 unfold landP; rw [List.range_succ, List.foldl_append]; rfl
theorem landP_at {ps : List (Int × Int)} {cu : List Int} {n : Int} : ∀ {k s : Nat}, k ≤ s → (landP ps cu n k)[s]? = ps[s]?
 | 0, _, _ => rfl
 | k + 1, s, h => by
  rw [landP_succ]
  unfold landP1
  split
  ·rw [List.getElem?_set, if_neg (by omega)]; exact landP_at (by omega)
  ·exact landP_at (by omega)
class SeaLand [Sea] : Prop where
 ai : lkA Sea.cl n_draft_Draft_int_All_1 = some f_draft_Draft_int_All_1
 af : lkA Sea.cl n_draft_Draft_file_File_All_1 = some f_draft_Draft_file_File_All_1
 rl : lkA Sea.rn 45135019 = some r0_attempt_Attempt_Land
 ro : lkA Sea.rn 82349159 = some r0_sheet_Sheet_Over
section
variable {H0 : Heap} {P F F' : List HP} {Q : HV → List HP → Prop} [Sea] [SeaOk] {n : Nat}
omit [Sea] [SeaOk] in
theorem attempt_Valid_v {D : DD} {p : Nat} {x : TrS} {v : Vw} [fd : Fnd P rTry p x F] [fv : Fnd F rView x.w v F'] (ok : VOk v) (hr : RdsOk x.t.rd)
  (h : Q (.bool (validB v x.t.rd)) (own rTry p x :: F)) : Wp H0 P (f_attempt_Attempt_Valid D [.ptr (some (p, 0))]) Q := by
 refine Wp.cl ?_
 unfold f_attempt_Attempt_Valid
 refine Wp.open rTry p fun y _ => ?_
 refine go fun h0 w0 h1 w1 h2 w2 h3 w3 h4 w4 h5 w5 h6 w6 h7 w7 h8 w8 h9 w9 h10 w10 h11 w11 => ?_
 refine attempt_View_Now_v ok ?_
 refine go fun h12 w12 => ⟨⟨⟨Was.eq w12 w11, Was.eq w11 w10, Was.eq w10 w9, Was.eq w9 w8, Was.eq w8 w7, Was.eq w7 w6, Was.eq w6 w5, Was.eq w5 w4, Was.eq w4 w3, Was.eq w3 w2, Was.eq w2 w1, Was.eq w1 w0, trivial⟩, trivial⟩, ?_⟩
 refine reads_Set_Valid_v hr ?_
 refine go ?_
 exact ⟨_, h, .fold y trivial .refl⟩
variable [SeaLand]
omit [SeaOk] in
theorem sheet_Over_v {p t : Nat} {df : List (Int × Fl)} {fs : List (Fl × Int)} {w : Int} [fd : Fnd P rSheet p df F] [ft : Fnd F rTome t fs F'] (ok : DfOk df) (hi : ∀ e ∈ df, e.1 < 6) (hg : ∀ e ∈ df, goodF e.2) (hf : fs.length = 6)
  (h : ∀ r, Q (I r) (own rSheet p df :: own rTome t (landF fs df w) :: F')) : Wp H0 P (f_sheet_Sheet_Over (lv (n + 2)) [.ptr (some (p, 0)), .ptr (some (t, 0)), I w]) Q := by
 refine Wp.cl ?_
 refine Wp.ent (P' := own rSheet p df :: own rTome t fs :: F') (.cons rfl (.cons rfl .refl)) ?_
 unfold f_sheet_Sheet_Over
 refine go fun b4 b5 b7 => ?_
 refine sheet_Draft_v fun d => ?_
 refine go ?_
 unfold f_draft_Draft_file_File_All
 refine go fun b1 => ?_
 refine go fun lp => ?_
 rw [lv_succ]
 refine Wp.clo SeaLand.af ?_
 show Wp H0 _ (f_draft_Draft_file_File_All_1 (lv (n + 1)) [.yld lp, .ptr (some (b1, 0))]) _
 have hdl := ok.le
 refine draft_All_1_file_File_v (σ := Int) (l := df) (p := d) (fun _ _ => True) (fun _ _ => False)
  (fun i k => own rX lp (.loop 82349159 [(4, .ptr (some (b4, 0))), (5, .ptr (some (b5, 0))), (7, .ptr (some (b7, 0)))] .ready none) :: own rC p [.ptr (some (d, 0))] :: own rC b7 [I k] :: own rC b5 [I w] :: own rC b4 [.ptr (some (t, 0))] :: own rTome t (landF fs (df.take i) w) :: F')
  (fun _ _ => []) 0 (by omega) trivial (.cons rfl (.cons rfl (.cons rfl (.cons rfl (.cons rfl (.cons rfl .refl)))))) ?_ ?_ ?_
 ·intro A B C i e k he _
  have hm := List.mem_of_getElem? he
  have hei := hi e hm
  have he0 := (ok.i e hm).1
  obtain ⟨z, hz⟩ : ∃ z, (landF fs (df.take i) w)[e.1.toNat]? = some z := ⟨_, List.getElem?_eq_getElem (by rw [landF_len]; omega)⟩
  rw [lv_succ]
  refine Wp.rnd (l := lp) SeaLand.ro ?_
  unfold r0_sheet_Sheet_Over
  refine go ?_
  refine tome_Set_v he0 hz (hg e hm) ?_
  refine go ?_
  exact .inl ⟨rfl, wr (k + 1), trivial, .pick (.pick (.pick (.cons rfl (.cons rfl (.cons rfl (.cons rfl (.cons rfl (.cons (landF_snoc he).symm .refl))))))))⟩
 ·intro k _
  rw [List.take_length]
  refine go ?_
  exact ⟨_, h k, .fold d trivial (.cons rfl (.cons rfl (.cons rfl (Ent.weak (Ent.weak (Ent.weak (Ent.weak (Ent.weak .refl))))))))⟩
 ·intro i e k _ q
  exact q.elim
end
section
variable {H0 : Heap} {P F F' : List HP} {Q : HV → List HP → Prop} [Sea] [SeaOk] [SeaLand] {n : Nat}
omit [SeaOk] in
theorem attempt_Land_v {p : Nat} {x : TrS} {v : Vw} [fd : Fnd P rTry p x F] [fv : Fnd F rView x.w v F'] (hv : VwP v) (ht : TOk v x.t) (hc : 0 ≤ v.clock ∧ v.clock ≤ 1000000000)
  (h : Q (.bool (validB v x.t.rd)) (own rTry p x :: own rView x.w (if validB v x.t.rd = true then landT v x.t else v) :: F')) : Wp H0 P (f_attempt_Attempt_Land (lv (n + 2)) [.ptr (some (p, 0))]) Q := by
 refine Wp.cl ?_
 unfold f_attempt_Attempt_Land
 refine go (attempt_Valid_v hv.ok ht.rk ?_)
 cases hvd : validB v x.t.rd with
 | false =>
  rw [hvd] at h
  refine go ?_
  exact ⟨_, h, .cons rfl (.cons rfl .refl)⟩
 | true =>
 rw [hvd, if_pos rfl] at h
 have hw : wr (v.clock + 1) = v.clock + 1 := wr_small (by omega) (by omega)
 refine Wp.open rTry p fun y _ => ?_
 refine Wp.open rView x.w fun z _ => ?_
 refine go fun b3 => ?_
 unfold f_draft_Draft_int_All
 refine go fun b1 => ?_
 refine go fun lp => ?_
 rw [lv_succ, hw]
 refine Wp.clo SeaLand.ai ?_
 show Wp H0 _ (f_draft_Draft_int_All_1 (lv (n + 1)) [.yld lp, .ptr (some (b1, 0))]) _
 have hdl := ht.dc.le
 refine draft_All_1_int_v (σ := Unit) (l := x.t.dc) (p := y.dc) (fun _ _ => True) (fun _ _ => False)
  (fun i _ => own rX lp (.loop 45135019 [(3, .ptr (some (b3, 0)))] .ready none) :: own rC b3 [.ptr (some (x.w, 0))] :: own rC x.w [.ptr (some (z.1, 0)), .ptr (some (z.2.1, 0)), .ptr (some (z.2.2, 0)), I (v.clock + 1)] :: own (rRow clC 2) z.1 (landC v.cells (x.t.dc.take i) (v.clock + 1)) ::
   own rTome z.2.1 v.files :: own rFeed z.2.2 (v.texts, v.places) :: own rC p (trC x y) :: own rSet y.set (x.t.rd, x.t.stamp) :: own rSheet y.sh x.t.df :: own rCur y.cu x.t.cu :: F')
  (fun _ _ => []) () (by omega) trivial (.cons rfl (.cons rfl (.cons rfl (.cons rfl (.cons rfl (.cons rfl (.cons rfl (.cons rfl (.cons rfl (.cons rfl .refl)))))))))) ?_ ?_ ?_
 ·intro A B C i e _ he _
  have hm := List.mem_of_getElem? he
  have hei := ht.dc.i e hm
  obtain ⟨u, hu⟩ : ∃ u, (landC v.cells (x.t.dc.take i) (v.clock + 1))[e.1.toNat]? = some u := ⟨_, List.getElem?_eq_getElem (by rw [landC_len, hv.ok.c]; omega)⟩
  rw [lv_succ]
  refine Wp.rnd (l := lp) SeaLand.rl ?_
  unfold r0_attempt_Attempt_Land
  refine go ?_
  refine cell_Row_int_Set_v (x' := (e.2, v.clock + 1)) hei.1 hu ?_
  refine go ?_
  exact .inl ⟨rfl, (), trivial, .pick (.pick (.pick (.cons rfl (.cons rfl (.cons rfl (.cons (landC_snoc he).symm (.cons rfl (.cons rfl (.cons rfl (.cons rfl (.cons rfl (.cons rfl .refl))))))))))))⟩
 ·intro _ _
  rw [List.take_length]
  refine go ?_
  refine sheet_Over_v ht.df ht.d6 ht.fl hv.ok.f fun r => ?_
  refine go ?_
  have hcl := ht.cu
  refine Wp.forL (σ := Unit) 3 (by decide) rfl (fun _ i => [I i]) (out := fun _ => []) (fun _ _ => rfl) (fun _ _ => True)
   (fun s _ => own rFeed z.2.2 (v.texts, landP v.places x.t.cu (v.clock + 1) s) :: own rCur y.cu x.t.cu :: own rC p (trC x y) :: own rC b3 [.ptr (some (x.w, 0))] :: own rC x.w [.ptr (some (z.1, 0)), .ptr (some (z.2.1, 0)), .ptr (some (z.2.2, 0)), I (v.clock + 1)] ::
    own (rRow clC 2) z.1 (landC v.cells x.t.dc (v.clock + 1)) :: own rTome z.2.1 (landF v.files x.t.df (v.clock + 1)) :: own rSet y.set (x.t.rd, x.t.stamp) :: own (rDraft eDI clC 2) y.dc x.t.dc :: own rSheet y.sh x.t.df :: F') () rfl trivial ?_ ?_ ?_
  ·exact .cons rfl (.cons rfl (.cons rfl (.cons rfl (.cons rfl (.cons rfl (.cons rfl (.cons rfl (.cons rfl (.cons rfl (Ent.weak (Ent.weak .refl)))))))))))
  ·intro s _ hs _
   obtain ⟨c, hcu⟩ : ∃ c, x.t.cu[s]? = some c := ⟨_, List.getElem?_eq_getElem (by omega)⟩
   obtain ⟨pl, hpl⟩ : ∃ c, v.places[s]? = some c := ⟨_, List.getElem?_eq_getElem (by rw [hv.ok.p]; omega)⟩
   obtain ⟨l, htx⟩ : ∃ c, v.texts[s]? = some c := ⟨_, List.getElem?_eq_getElem (by rw [hv.ok.t]; omega)⟩
   have hc0 := ht.cr _ _ hcu
   have hcn := ht.cn _ _ _ _ hcu hpl htx
   have hx0 := hv.pl _ _ _ hpl htx
   have hl0 := hv.tx _ (List.mem_of_getElem? htx)
   have hpl' : (landP v.places x.t.cu (v.clock + 1) s)[s]? = some pl := by rw [landP_at (Nat.le_refl _), hpl]
   refine go ?_
   refine cursor_Read_v ⟨by omega, by omega⟩ (by simpa using hcu) ?_
   refine go ⟨fun g => ?_, fun g => ?_⟩
   ·refine feed_Place_v (by omega) (by simpa using hpl') ?_
    refine go ?_
    rw [wr_small (by omega) (by omega)]
    refine feed_Take_v (by omega) (by omega) (by simpa using htx) (by simpa using hpl') (by omega) (by omega) ?_
    refine go ?_
    refine ⟨(), rfl, trivial, .cons ?_ (.cons rfl (.cons rfl (.cons rfl (.cons rfl (.cons rfl (.cons rfl (.cons rfl (.cons rfl (.cons rfl .refl)))))))))⟩
    rw [landP_succ]
    unfold landP1
    rw [hcu, hpl', if_pos (by simpa using g)]
    simp
   ·refine ⟨(), rfl, trivial, .cons ?_ (.cons rfl (.cons rfl (.cons rfl (.cons rfl (.cons rfl (.cons rfl (.cons rfl (.cons rfl (.cons rfl .refl)))))))))⟩
    rw [landP_succ]
    unfold landP1
    rw [hcu, if_neg (by simpa using g)]
  ·intro _ _
   refine go ?_
   refine ⟨_, h, .fold y trivial (.cons rfl (.cons rfl (.cons rfl (.cons rfl (.cons rfl (.fold z trivial (.cons rfl (.cons rfl (.cons rfl (.cons rfl (Ent.weak .refl)))))))))))⟩
 ·intro i e _ _ q
  exact q.elim
end
end Go.Proofs.YtbphjihgbenkdaaGreat.HQ
