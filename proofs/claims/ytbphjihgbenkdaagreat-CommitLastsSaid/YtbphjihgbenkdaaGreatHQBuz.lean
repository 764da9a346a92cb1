/- Lemmas for the row. Conditions: none. -/
import Derived.Test.YtbphjihgbenkdaaGreatHQBvc
import Derived.Test.YtbphjihgbenkdaaGreatHQBux
namespace Go.Proofs.YtbphjihgbenkdaaGreat.HQ
set_option linter.unusedVariables false
set_option linter.unusedSectionVars false
set_option linter.unusedSimpArgs false
open Go
abbrev cgC (e : Int × Fl) : List HV := [I e.1, .bool e.2.1, .str (S e.2.2)]
section
variable {H0 : Heap} {P F F1 : List HP} {Q : HV → List HP → Prop} {D : DD}
theorem redo_Read_v {m : Nat} {df : List (Int × Fl)} (ok : DfOk df) (h6 : ∀ e ∈ df, e.1 < 6) (hg : ∀ e ∈ df, goodF e.2) (hm : m ≤ 1099511627776) (h : ∀ s, Q (.tup [I m, .sl s, .bool true]) (own (rR cgC 3) s df :: P)) : Wp H0 P (f_redo_Read D [.str (S (redoL m df))]) Q := by
 refine Wp.cl ?_
 have hroom : room = 140737488355328 := rfl
 have h7 : (128 : Nat) ^ 7 = 562949953421312 := by decide
 have hlen := redoL_len ok hg (show m < 128 ^ 7 by omega)
 have hlen2 : ((df.map redoE).flatten).length ≤ 287 := by unfold redoL at hlen; rw [List.length_append] at hlen; omega
 have hdl := ok.le
 unfold f_redo_Read
 refine go (stylus_Of_v fun b => ?_)
 refine go (Reader_Nat_v (n := m) (rest := (df.map redoE).flatten) (by omega) (by omega) (by unfold redoL at hlen; omega) ?_)
 refine Wp.nil cgC (sz := 3) (by decide) ?_
 refine go ?_
 refine Wp.blk (Wp.loop (fun k vs P' => ∃ (i : Nat) (s : Sl) (la : Int), k = df.length - i ∧ i ≤ df.length ∧ (∀ e ∈ df.drop i, la < e.1) ∧ vs = [.sl s, I la] ∧ Ent P' (own (rR cgC 3) s (df.take i) :: own rC b (rdC ((df.drop i).map redoE).flatten) :: P)) df.length
  ⟨0, _, -1, rfl, Nat.zero_le _, fun e he => by have := (ok.i e he).1; omega, rfl, .cons rfl (.cons rfl .refl)⟩ ?_)
 rintro k vs P' ⟨i, s, la, rfl, hi, hla, rfl, hP⟩
 refine Wp.ent hP ?_
 refine go (Reader_Left_v (l := ((df.drop i).map redoE).flatten) ?_)
 by_cases c : i < df.length
 ·have he : df[i]? = some df[i] := List.getElem?_eq_getElem c
  have hd : df.drop i = df[i] :: df.drop (i + 1) := List.drop_eq_getElem_cons c
  have hem : df[i] ∈ df := List.getElem_mem c
  generalize df[i] = e at he hd hem
  obtain ⟨e0, e8⟩ := ok.i e hem
  have e6 := h6 e hem
  obtain ⟨g1, g2⟩ := hg e hem
  have hlt := hla e (by rw [hd]; exact List.mem_cons_self)
  have hla' : ∀ x ∈ df.drop (i + 1), e.1 < x.1 := fun x hx => by
   obtain ⟨q, hq⟩ := List.mem_iff_getElem?.1 hx
   rw [List.getElem?_drop] at hq
   exact ok.r.lt he hq (by omega)
  have htk : df.take i ++ [e] = df.take (i + 1) := by rw [List.take_add_one, he]; rfl
  have hdl2 : ((df.drop i).map redoE).flatten.length ≤ 287 := by
   have : ((df.map redoE).flatten).length = ((df.take i).map redoE).flatten.length + ((df.drop i).map redoE).flatten.length := by
    rw [← List.length_append, ← List.flatten_append, ← List.map_append, List.take_append_drop]
   omega
  have hfl : ((df.drop i).map redoE).flatten = redoE e ++ ((df.drop (i + 1)).map redoE).flatten := by rw [hd]; rfl
  generalize hrest : ((df.drop (i + 1)).map redoE).flatten = rest at hfl
  have hpos : 0 < ((df.drop i).map redoE).flatten.length := by
   rw [hfl, List.length_append]
   have : 0 < (natL e.1.toNat).length := List.length_pos_iff.2 (natL_ne _)
   unfold redoE
   rw [List.length_append]; omega
  have hint : ((e.1.toNat : Nat) : Int) = e.1 := Int.toNat_of_nonneg e0
  by_cases b1 : e.2.1 = true
  ·have hr : ((df.drop i).map redoE).flatten = natL e.1.toNat ++ (natL 1 ++ (natL e.2.2.length ++ (e.2.2 ++ rest))) := by
    rw [hfl]; unfold redoE; rw [if_pos b1]; simp
   rw [hr] at hpos hdl2 ⊢
   have l1 : (natL 1 ++ (natL e.2.2.length ++ (e.2.2 ++ rest))).length ≤ 287 := by rw [List.length_append] at hdl2; omega
   have l2 : (natL e.2.2.length ++ (e.2.2 ++ rest)).length ≤ 287 := by rw [List.length_append] at l1; omega
   refine go ⟨fun _ => ?_, fun q => absurd (show ((_ : Nat) : Int) > 0 by omega) q⟩
   refine Reader_Nat_v (n := e.1.toNat) (rest := natL 1 ++ (natL e.2.2.length ++ (e.2.2 ++ rest))) (by omega) (by omega) (by omega) ?_
   refine go (Reader_Nat_v (n := 1) (rest := natL e.2.2.length ++ (e.2.2 ++ rest)) (by omega) (by omega) (by omega) ?_)
   refine go (Reader_Text_v (t := e.2.2) (rest := rest) (by omega) (by omega) (by omega) ?_)
   refine go (Reader_Bad_v (l := rest) ?_)
   rw [hint]
   refine go ⟨fun q => by omega, fun _ => ?_⟩
   refine Wp.apd (s := s) (x := e) (f := cgC) (by rw [cgC]; rw [b1]) rfl (by simp; omega) (by simp; omega) fun s2 => ?_
   refine go ?_
   exact ⟨df.length - (i + 1), by omega, i + 1, s2, e.1, rfl, by omega, hla', rfl, .cons htk (.cons (by rw [hrest]) .refl)⟩
  ·have b0 : e.2.1 = false := by simpa using b1
   have hr : ((df.drop i).map redoE).flatten = natL e.1.toNat ++ (natL 0 ++ rest) := by
    rw [hfl]; unfold redoE; rw [if_neg b1]; simp
   have ht0 : e.2.2 = [] := by
    rcases g2 with q | q
    ·exact absurd q b1
    ·exact q
   rw [hr] at hpos hdl2 ⊢
   have l1 : (natL 0 ++ rest).length ≤ 287 := by rw [List.length_append] at hdl2; omega
   refine go ⟨fun _ => ?_, fun q => absurd (show ((_ : Nat) : Int) > 0 by omega) q⟩
   refine Reader_Nat_v (n := e.1.toNat) (rest := natL 0 ++ rest) (by omega) (by omega) (by omega) ?_
   refine go (Reader_Nat_v (n := 0) (rest := rest) (by omega) (by omega) (by omega) ?_)
   refine go ⟨fun q => absurd q (by decide), fun _ => ?_⟩
   refine Reader_Bad_v (l := rest) ?_
   rw [hint]
   refine go ⟨fun q => by omega, fun _ => ?_⟩
   refine Wp.apd (s := s) (x := e) (f := cgC) (by rw [cgC]; rw [b0, ht0]) rfl (by simp; omega) (by simp; omega) fun s2 => ?_
   refine go ?_
   exact ⟨df.length - (i + 1), by omega, i + 1, s2, e.1, rfl, by omega, hla', rfl, .cons htk (.cons (by rw [hrest]) .refl)⟩
 ·have hil : i = df.length := by omega
  subst hil
  rw [List.drop_length, List.take_length]
  refine go ⟨fun q => absurd q (by decide), fun _ => ?_⟩
  refine Reader_Bad_v (l := []) ?_
  refine go ?_
  exact ⟨_, h s, .cons rfl (.weak .refl)⟩
theorem redo_Apply_v {p : Nat} {s : Sl} {df : List (Int × Fl)} {fs : List (Fl × Int)} {n : Int} [fr : FndR P s none (Int × Fl) cgC 3 df F1] [fd : Fnd F1 rTome p fs F] (ok : DfOk df) (h6 : ∀ e ∈ df, e.1 < 6) (hg : ∀ e ∈ df, goodF e.2) (hf : fs.length = 6)
  (h : Q (.tup []) (own rTome p (landG fs df n) :: own (rR cgC 3) s df :: F)) : Wp H0 P (f_redo_Apply D [.ptr (some (p, 0)), .sl s, I n]) Q := by
 refine Wp.cl ?_
 refine Wp.ent (P' := own (rR cgC 3) s df :: own rTome p fs :: F) ((Ent.perm fr.p).trans (Ent.head (fun _ q => q) (Ent.perm fd.p))) ?_
 have hdl := ok.le
 unfold f_redo_Apply
 refine Wp.row (s := s) fun q => ?_
 have hsl := q.len
 refine go ?_
 refine Wp.forL (σ := Unit) df.length (by omega) (by omega) (fun _ i => [I i]) (out := fun _ => []) (fun _ _ => rfl) (fun _ _ => True) (fun i _ => own rTome p (landG fs (df.take i) n) :: own (rR cgC 3) s df :: F) () rfl trivial (.cons rfl (.cons rfl .refl)) ?_ ?_
 ·intro i _ hi _
  obtain ⟨e, he⟩ : ∃ e, df[i]? = some e := ⟨_, List.getElem?_eq_getElem hi⟩
  have hem := List.mem_of_getElem? he
  obtain ⟨e0, e8⟩ := ok.i e hem
  have e6 := h6 e hem
  obtain ⟨y, hy⟩ : ∃ y, (landG fs (df.take i) n)[e.1.toNat]? = some y := ⟨_, List.getElem?_eq_getElem (by rw [landG_len, hf]; omega)⟩
  refine Wp.ixN (s := s) (x := e) (f := cgC) rfl he fun _ _ => ?_
  refine go (tome_Set_v (x := e.2) (n := n) e0 hy (hg e hem) ?_)
  refine go ?_
  exact ⟨(), rfl, trivial, .cons (by rw [landG_snoc he]) .refl⟩
 ·intro _ _
  rw [List.take_length]
  refine go ?_
  exact ⟨_, h, .refl⟩
def replayF (fs : List (Fl × Int)) (l : List (Nat × List (Int × Fl))) : List (Fl × Int) := l.foldl (fun fs e => landG fs e.2 0) fs
theorem replayF_len {l : List (Nat × List (Int × Fl))} : ∀ {fs : List (Fl × Int)}, (replayF fs l).length = fs.length := by
 induction l with
 | nil => intro fs; rfl
 | cons e l ih => intro fs; exact ih.trans landG_len
def lastN (l : List (Nat × List (Int × Fl))) : Nat := l.foldl (fun n e => max n e.1) 0
structure RecOk (e : Nat × List (Int × Fl)) : Prop where
 m : e.1 ≤ 1000000000
 ok : DfOk e.2
 h6 : ∀ x ∈ e.2, x.1 < 6
 g : ∀ x ∈ e.2, goodF x.2
theorem redo_Replay_v {p : Nat} {s : Sl} {l : List (Nat × List (Int × Fl))} {fs : List (Fl × Int)} [fr : FndR P s none Bs lsC 1 (l.map fun e => redoL e.1 e.2) F1] [fd : Fnd F1 rTome p fs F] (ok : ∀ e ∈ l, RecOk e) (hl : l.length ≤ 1000000) (hf : fs.length = 6)
  (h : Q (.tup [I (lastN l), I l.length]) (own rTome p (replayF fs l) :: F)) : Wp H0 P (f_redo_Replay D [.ptr (some (p, 0)), .sl s]) Q := by
 refine Wp.cl ?_
 refine Wp.ent (P' := own (rR lsC 1) s (l.map fun e => redoL e.1 e.2) :: own rTome p fs :: F) ((Ent.perm fr.p).trans (Ent.head (fun _ q => q) (Ent.perm fd.p))) ?_
 unfold f_redo_Replay
 refine Wp.row (s := s) fun q => ?_
 have hsl := q.len
 rw [List.length_map] at hsl
 refine go ?_
 refine Wp.forL (σ := Nat) l.length (by omega) (by omega) (fun x i => [I x, I i]) (out := fun x => [I x]) (fun _ _ => rfl) (fun i x => x = lastN (l.take i)) (fun i _ => own rTome p (replayF fs (l.take i)) :: own (rR lsC 1) s (l.map fun e => redoL e.1 e.2) :: F) 0 rfl rfl (.cons rfl (.cons rfl .refl)) ?_ ?_
 ·rintro i x hi rfl
  obtain ⟨e, he⟩ : ∃ e, l[i]? = some e := ⟨_, List.getElem?_eq_getElem hi⟩
  obtain ⟨o1, o2, o3, o4⟩ := ok e (List.mem_of_getElem? he)
  have hsn : replayF fs (l.take (i + 1)) = landG (replayF fs (l.take i)) e.2 0 := by
   unfold replayF
   rw [List.take_add_one, he, List.foldl_append]; rfl
  have hln : lastN (l.take (i + 1)) = max (lastN (l.take i)) e.1 := by
   unfold lastN
   rw [List.take_add_one, he, List.foldl_append]; rfl
  refine Wp.ixC0 (s := s) (x := redoL e.1 e.2) (f := lsC) rfl (by rw [List.getElem?_map, he]; rfl) rfl fun _ _ => ?_
  refine go (redo_Read_v (m := e.1) (df := e.2) o2 o3 o4 (by omega) fun s2 => ?_)
  refine go ?_
  refine redo_Apply_v (s := s2) (df := e.2) (fs := replayF fs (l.take i)) (n := 0) o2 o3 o4 (by rw [replayF_len, hf]) ?_
  refine go ?_
  refine ⟨lastN (l.take (i + 1)), ?_, rfl, .cons (by rw [hsn]) (.cons rfl (.weak .refl))⟩
  rw [hln]
  by_cases c : (e.1 : Int) > (lastN (l.take i) : Int)
  ·rw [decide_eq_true c, Nat.max_eq_right (by omega)]; rfl
  ·rw [decide_eq_false c, Nat.max_eq_left (by omega)]; rfl
 ·rintro x rfl
  rw [List.take_length]
  refine go ?_
  rw [← hsl] at h
  exact ⟨_, h, .cons rfl (.weak .refl)⟩
end
class SeaTome [Sea] : Prop where
 rb : lkA Sea.rn 38705704 = some r0_tome_Tome_Bytes
def tomeE (i : Nat) (x : Fl × Int) : Bs := if x.1.1 = true then natL i ++ (natL x.1.2.length ++ x.1.2) else []
def tomeF : Nat → List (Fl × Int) → Bs
 | _, [] => []
 | i, x :: l => tomeE i x ++ tomeF (i + 1) l
theorem tomeF_snoc {x : Fl × Int} : ∀ {l : List (Fl × Int)} {i : Nat}, tomeF i (l ++ [x]) = tomeF i l ++ tomeE (i + l.length) x
 | [], i => by simp [tomeF]
 | y :: l, i => by
  show tomeE i y ++ tomeF (i + 1) (l ++ [x]) = (tomeE i y ++ tomeF (i + 1) l) ++ _
  rw [tomeF_snoc, List.append_assoc, List.length_cons, show i + 1 + l.length = i + (l.length + 1) by omega]
theorem tomeE_len {i : Nat} {x : Fl × Int} (hi : i < 128) (hx : x.1.2.length ≤ 32) : (tomeE i x).length ≤ 34 := by
 unfold tomeE
 split
 ·rw [natL_lo hi, natL_lo (by omega)]; simp; omega
 ·simp
theorem tomeF_len : ∀ {l : List (Fl × Int)} {i : Nat}, i + l.length ≤ 100 → (∀ x ∈ l, x.1.2.length ≤ 32) → (tomeF i l).length ≤ 34 * l.length
 | [], _, _, _ => by simp [tomeF]
 | x :: l, i, hi, hx => by
  simp only [List.length_cons] at hi
  have h1 := tomeE_len (i := i) (by omega) (hx x List.mem_cons_self)
  have h2 := tomeF_len (l := l) (i := i + 1) (by omega) fun y hy => hx y (List.mem_cons_of_mem _ hy)
  simp only [tomeF, List.length_append, List.length_cons]; omega
section
variable {H0 : Heap} {P F : List HP} {Q : HV → List HP → Prop} [Sea] [SeaOpen] [SeaTome] {n : Nat}
theorem tome_Bytes_v {p : Nat} {fs : List (Fl × Int)} [fd : Fnd P rTome p fs F] (hf : fs.length = 6) (hg : ∀ x ∈ fs, x.1.2.length ≤ 32) (h : Q (.str (S (tomeF 0 fs))) P) : Wp H0 P (f_tome_Tome_Bytes (lv (n + 4)) [.ptr (some (p, 0))]) Q := by
 refine Wp.cl ?_
 unfold f_tome_Tome_Bytes
 refine Wp.open rTome p fun r _ => ?_
 refine Wp.open (rRow flC 3) r fun s _ => ?_
 refine Wp.row (s := s) fun q => ?_
 have hsl := q.len
 refine Wp.nil byC (sz := 1) (by decide) ?_
 refine go fun b7 b3 => ?_
 refine Wp.ent (P' := own rC b3 [.ptr (some (b7, 0))] :: own rSty b7 [] :: own rC p [.ptr (some (r, 0))] :: own rC r [.sl s] :: own (rR flC 3) s fs :: F) (.cons rfl (.fold (⟨none, 0, 0, none⟩ : Sl) (.inl rfl) (.cons rfl (.cons rfl (.cons rfl (.cons rfl (.cons rfl .refl))))))) ?_
 unfold f_tome_Tome_All
 refine go fun b1 => ?_
 refine go fun lp => ?_
 rw [lv_succ]
 refine Wp.clo SeaOpen.ta ?_
 show Wp H0 _ (f_tome_Tome_All_1 (lv (n + 3)) [.yld lp, .ptr (some (b1, 0))]) _
 unfold f_tome_Tome_All_1
 refine go fun b9 => ?_
 unfold f_cell_Row_file_File_All
 refine go fun b8 => ?_
 refine go fun lq => ?_
 rw [lv_succ]
 refine Wp.clo SeaOpen.ca ?_
 show Wp H0 _ (f_cell_Row_file_File_All_1 (lv (n + 2)) [.yld lq, .ptr (some (b8, 0))]) _
 unfold f_cell_Row_file_File_All_1
 refine go ?_
 refine Wp.forL (σ := Unit) 6 (by decide) (by omega) (fun _ i => [I i]) (out := fun _ => []) (fun _ _ => rfl) (fun _ _ => True) (fun i _ => own rX lq (.loop 71670451 [(2, .ptr (some (b9, 0)))] .ready none) :: own rC b8 [.ptr (some (r, 0))] :: own rC b9 [.yld lp] :: own rX lp (.loop 38705704 [(3, .ptr (some (b3, 0)))] .ready none) :: own rC b1 [.ptr (some (p, 0))] :: own rC b3 [.ptr (some (b7, 0))] :: own rSty b7 (tomeF 0 (fs.take i)) :: own rC p [.ptr (some (r, 0))] :: own rC r [.sl s] :: own (rR flC 3) s fs :: F) () rfl trivial .refl ?_ ?_
 ·intro i _ hi _
  obtain ⟨e, he⟩ : ∃ e, fs[i]? = some e := ⟨_, List.getElem?_eq_getElem (by omega)⟩
  have hel := hg e (List.mem_of_getElem? he)
  have htl : (fs.take i).length = i := by simp; omega
  have hsn : tomeF 0 (fs.take (i + 1)) = tomeF 0 (fs.take i) ++ tomeE i e := by
   rw [List.take_add_one, he]
   have := tomeF_snoc (x := e) (l := fs.take i) (i := 0)
   rw [htl, Nat.zero_add] at this
   exact this
  have hlen : (tomeF 0 (fs.take i)).length ≤ 34 * 6 := by
   have := tomeF_len (l := fs.take i) (i := 0) (by omega) fun x hx => hg x (List.mem_of_mem_take hx)
   omega
  refine Wp.ixN (s := s) (x := e) (f := flC) rfl he fun _ _ => ?_
  refine go ?_
  rw [lv_succ]
  refine Wp.rnd (l := lq) SeaOpen.rt ?_
  unfold r0_tome_Tome_All_1
  refine go ⟨fun c => ?_, fun c => ?_⟩
  ·have et : tomeE i e = natL i ++ (natL e.1.2.length ++ e.1.2) := by unfold tomeE; rw [if_pos c]
   have n1 : (natL i).length = 1 := by rw [natL_lo (by omega)]; rfl
   have n2 : (natL e.1.2.length).length = 1 := by rw [natL_lo (by omega)]; rfl
   rw [lv_succ]
   refine Wp.rnd (l := lp) SeaTome.rb ?_
   unfold r0_tome_Tome_Bytes
   refine go fun b14 => ?_
   refine stylus_NatB_v [i] rfl rfl (by simp only [List.map_cons, List.map_nil, List.flatten_cons, List.flatten_nil, List.length_append, List.length_nil]; omega) (by simp) ?_
   refine go fun b19 => ?_
   refine stylus_TextB_v (by simp only [List.map_cons, List.map_nil, List.flatten_cons, List.flatten_nil, List.length_append, List.length_nil]; omega) ?_
   refine go ?_
   refine go ?_
   refine go ?_
   exact ⟨(), rfl, trivial, .cons rfl (.cons rfl (.cons rfl (.cons rfl (.cons rfl (.cons rfl (.cons (by rw [hsn, et]; simp) .refl))))))⟩
  ·have et : tomeE i e = [] := by unfold tomeE; rw [if_neg (by simp [c])]
   refine go ?_
   exact ⟨(), rfl, trivial, .cons rfl (.cons rfl (.cons rfl (.cons rfl (.cons rfl (.cons rfl (.cons (by rw [hsn, et]; simp) .refl))))))⟩
 ·intro _ _
  refine go ?_
  refine go ?_
  refine go ?_
  rw [List.take_of_length_le (by omega)]
  refine stylus_Bytes_v (bs := tomeF 0 fs) ?_
  refine go ?_
  exact ⟨_, h, .back rTome p (.fold r trivial (.cons rfl (.fold s trivial (.cons rfl (.cons rfl (.weak (.weak (.weak (.weak (.weak (.weak (.weak .refl))))))))))))⟩
theorem image_v {p m : Nat} {fs : List (Fl × Int)} [fd : Fnd P rTome p fs F] (hf : fs.length = 6) (hg : ∀ x ∈ fs, x.1.2.length ≤ 32) (hm : m < 128 ^ 7) (h : Q (.str (S (natL m ++ tomeF 0 fs))) P) : Wp H0 P (f_world_image (lv (n + 4)) [I m, .ptr (some (p, 0))]) Q := by
 refine Wp.cl ?_
 have hnl := natL_len 6 m hm
 have htl := tomeF_len (l := fs) (i := 0) (by omega) hg
 unfold f_world_image
 refine Wp.nil byC (sz := 1) (by decide) ?_
 refine go fun b7 b10 => ?_
 refine Wp.ent (P' := own rSty b7 [] :: own rC b10 [I m] :: P) (.fold (⟨none, 0, 0, none⟩ : Sl) (.inl rfl) (.cons rfl (.cons rfl (.cons rfl .refl)))) ?_
 refine stylus_NatB_v [m] rfl rfl (by simp; omega) (by simp) ?_
 refine go (tome_Bytes_v (fs := fs) hf hg ?_)
 refine go (stylus_Raw_v (l := tomeF 0 fs) (by simp; omega) ?_)
 refine go (stylus_Bytes_v ?_)
 refine go ?_
 have e : ([] ++ (List.map natL [m]).flatten ++ tomeF 0 fs : Bs) = natL m ++ tomeF 0 fs := by simp
 rw [e]
 exact ⟨_, h, .weak .refl⟩
def Dk.setl (d : Dk) (b : Bs) : Dk := ((((d.reset 0).sync.app 0 b).sync).reset 1).sync
theorem Wp.clear {H0 : Heap} {F F1 : List HP} {l p a : Nat} {z : HV} {tr : Bool} {d : Dk} {P : List HP} {Q : HV → List HP → Prop} {D : DD} [fl : Fnd P rC l [.ptr (some (p, 0)), I a, z, .bool tr] F] [fk : Fnd F rDisk p d F1] (ok : DOk' d) (ha : a ≤ 1)
  (h : Q (.tup []) (own rC l (lgC ⟨p, a, 0⟩) :: own rDisk p (d.reset a) :: F1)) : Wp H0 P (f_wal_Log_Clear D [.ptr (some (l, 0))]) Q := by
 refine Wp.cl (Wp.two fl fk ?_)
 unfold f_wal_Log_Clear
 refine go (disk_Reset_v ok ha ?_)
 refine go ?_
 exact ⟨_, h, .cons rfl (.cons rfl .refl)⟩
theorem settle_1 {p v l ep : Nat} {z : Int} {tr : Bool} {img : Bs} {d : Dk} (hi : img.length ≤ 900) (he : ep < 1000000000) (hz : d.now 0 = []) (ok : DOk' d) (hw : d.w.length ≤ 1000)
  (h : ∀ l2, Q (I 0) (own rC v (vaC ⟨p, l2, ep + 1⟩) :: own rC l2 (lgC ⟨p, 0, (stE (ep + 1) img).length + 6⟩) :: own rDisk p (d.setl (closeL (stE (ep + 1) img))) :: F)) :
  Wp H0 (own rC v [.ptr (some (p, 0)), .ptr (some (l, 0)), I ep, .bool false] :: own rC l [.ptr (some (p, 0)), I 1, I z, .bool tr] :: own rDisk p d :: F) (f_vault_Vault_Settle (lv (n + 2)) [.ptr (some (v, 0)), .str (S img)]) Q := by
 refine Wp.cl ?_
 unfold f_vault_Vault_Settle
 have n0 : (natL 0).length = 1 := by rw [natL_lo (by decide)]; rfl
 have h7 : (128 : Nat) ^ 7 = 562949953421312 := by decide
 have n1 := natL_len 6 (ep + 1) (by omega)
 have hsl : (stE (ep + 1) img).length = 1 + ((natL (ep + 1)).length + img.length) := by unfold stE; rw [List.length_append, List.length_append, n0]
 have hss := S_size (stE (ep + 1) img)
 have hwr : wr ((ep : Int) + 1) = ((ep + 1 : Nat) : Int) := by rw [wr_small (by omega) (by omega)]; rfl
 refine Wp.nil byC (sz := 1) (by decide) ?_
 refine go ⟨fun c => by omega, fun _ b19 b26 => ?_⟩
 have eS : ([] ++ ([0, ep + 1].map natL).flatten ++ img : Bs) = stE (ep + 1) img := by unfold stE; simp
 refine Wp.ent (P' := own rSty b19 [] :: own rC b26 [I 0, I ((ep + 1 : Nat) : Int)] :: own rC v [.ptr (some (p, 0)), .ptr (some (l, 0)), I ep, .bool false] :: own rC l [.ptr (some (p, 0)), I 1, I z, .bool tr] :: own rDisk p d :: F) (.fold (⟨none, 0, 0, none⟩ : Sl) (.inl rfl) (.cons rfl (.cons rfl (.cons (by rw [hwr]) (.cons rfl (.cons rfl (.cons rfl .refl))))))) ?_
 refine stylus_NatB_v [0, ep + 1] rfl rfl (by simp; omega) (by simp) ?_
 refine go ?_
 refine stylus_Raw_v (l := img) (by simp; omega) ?_
 rw [eS]
 refine go (stylus_Bytes_v (bs := stE (ep + 1) img) ?_)
 refine go ⟨fun c => ?_, fun _ h0 w0 h1 w1 h2 w2 h3 w3 h4 w4 h5 w5 => ?_⟩
 ·exfalso; omega
 unfold f_wal_Log_Area
 refine go ?_
 refine go fun h6 w6 h7 w7 => ?_
 have e1 : wr (1 - (1 : Int)) = ((0 : Nat) : Int) := rfl
 rw [e1]
 refine wal_Open_e (p := p) (a := 0) (d := d) (by decide) hz fun l2 => ?_
 refine go fun h8 w8 h9 w9 h10 w10 h11 w11 h12 w12 => ⟨⟨⟨Was.eq w12 w11, Was.eq w11 w10, Was.eq w10 w9, Was.eq w9 w8, Was.eq w8 w7, Was.eq w7 w6, Was.eq w6 w5, Was.eq w5 w4, Was.eq w4 w3, Was.eq w3 w2, Was.eq w2 w1, Was.eq w1 w0, trivial⟩, trivial⟩, ?_⟩
 have k1 := ok.reset (a := 0) (by decide) (by omega)
 have k2 := k1.sync
 have hz2 : ((d.reset 0).sync).now 0 = [] := by rw [k1.sync_eq]; rfl
 have hw2 : ((d.reset 0).sync).w = [] := by rw [k1.sync_eq]
 have k3 := k2.app (a := 0) (b := closeL (stE (ep + 1) img)) (by decide) (by rw [hz2, closeL_len]; simp; omega) (by rw [hw2]; decide)
 have k4 := k3.sync
 have hw4 : (((d.reset 0).sync.app 0 (closeL (stE (ep + 1) img))).sync).w = [] := by rw [k3.sync_eq]
 have k5 := k4.reset (a := 1) (by decide) (by rw [hw4]; decide)
 refine wal_Clear_v (l := ⟨p, 0, 0⟩) (d := d) ok (Nat.zero_le 1) ?_
 refine go (wal_Force_v (l := ⟨p, 0, 0⟩) (d := _) k1 ?_)
 refine go (stylus_Bytes_v (bs := stE (ep + 1) img) ?_)
 refine go ?_
 refine wal_Append_v (l := ⟨p, 0, 0⟩) (d := _) (b := stE (ep + 1) img) k2 (Nat.zero_le 1) (Nat.zero_le _) (by omega) (by rw [hz2]; simp; omega) ?_
 refine go (wal_Force_v (l := ⟨p, 0, 0 + ((stE (ep + 1) img).length + 6)⟩) (d := _) k3 ?_)
 refine go (Wp.clear (l := l) (p := p) (a := 1) (d := _) k4 (by decide) ?_)
 refine go (wal_Force_v (l := ⟨p, 1, 0⟩) (d := _) k5 ?_)
 refine go ?_
 exact ⟨_, h l2, .cons (by rw [hwr]) (.cons (by simp) (.cons rfl (.weak (.weak .refl))))⟩
end
abbrev fs0 : List (Fl × Int) := List.replicate 6 (noFl, 0)
theorem replayF_good {l : List (Nat × List (Int × Fl))} (ok : ∀ e ∈ l, RecOk e) : ∀ {fs : List (Fl × Int)}, (∀ x ∈ fs, goodF x.1) → ∀ x ∈ replayF fs l, goodF x.1 := by
 induction l with
 | nil => exact fun h => h
 | cons e l ih =>
  intro fs h
  exact ih (fun x hx => ok x (List.mem_cons_of_mem _ hx)) (landG_mem h fun x hx => (ok e List.mem_cons_self).g x hx)
theorem lastN_le {l : List (Nat × List (Int × Fl))} (ok : ∀ e ∈ l, RecOk e) : lastN l ≤ 1000000000 := by
 unfold lastN
 have key : ∀ (l : List (Nat × List (Int × Fl))) (n : Nat), (∀ e ∈ l, e.1 ≤ 1000000000) → n ≤ 1000000000 → l.foldl (fun n e => max n e.1) n ≤ 1000000000 := by
  intro l
  induction l with
  | nil => exact fun n _ h => h
  | cons e l ih =>
   intro n h hn
   have := h e List.mem_cons_self
   exact ih (max n e.1) (fun x hx => h x (List.mem_cons_of_mem _ hx)) (by omega)
 exact key l 0 (fun e he => (ok e he).m) (by omega)
section
variable {H0 : Heap} {P F : List HP} {Q : HV → List HP → Prop} [Sea] [SeaOpen] [SeaRec] [SeaTome] {n : Nat}
theorem tome_Read_e (h : ∀ t, Q (.tup [.ptr (some (t, 0)), .bool true]) (own rTome t fs0 :: P)) {D : DD} : Wp H0 P (f_tome_Read D [.str (S [])]) Q := by
 refine Wp.cl ?_
 unfold f_tome_Read
 refine go (tome_New_v fun t => ?_)
 refine go (stylus_Of_v fun b => ?_)
 refine go ?_
 refine Wp.blk (Wp.loop (fun k vs P' => vs = [I (-1)] ∧ P' = own rC b (rdC []) :: own rTome t fs0 :: P) 0 ⟨rfl, rfl⟩ ?_)
 rintro k vs P' ⟨rfl, rfl⟩
 refine go (Reader_Left_v (l := []) ?_)
 refine go ⟨fun c => absurd c (by decide), fun _ => ?_⟩
 exact ⟨_, h t, .weak .refl⟩
theorem world_read_0 {m : Nat} (hm : m ≤ 1000000000) (h : ∀ t, Q (.tup [I m, .ptr (some (t, 0)), .bool true]) (own rTome t fs0 :: P)) {D : DD} : Wp H0 P (f_world_read D [.str (S (natL m))]) Q := by
 refine Wp.cl ?_
 have h7 : (128 : Nat) ^ 7 = 562949953421312 := by decide
 have hl := natL_len 6 m (by omega)
 have hne := natL_ne m
 unfold f_world_read
 have en : natL m = natL m ++ [] := (List.append_nil _).symm
 refine go ⟨fun c => ?_, fun _ => ?_⟩
 ·rw [toList_S] at c
  simp at c
  exact absurd c hne
 rw [en]
 refine stylus_Of_v fun b => ?_
 refine go (Reader_Nat_v (n := m) (rest := []) (by omega) (by omega) (by simp; omega) ?_)
 refine go (Reader_Bad_v (l := []) ?_)
 refine go (Reader_Left_v (l := []) ?_)
 refine go (Reader_Raw_v (n := 0) (l := []) (by simp) (by simp) ?_)
 refine go (tome_Read_e fun t => ?_)
 refine go ?_
 exact ⟨_, h t, .cons rfl (.weak .refl)⟩
theorem world_Open_1 {p ep : Nat} {d : Dk} {tail : Bs} {l : List (Nat × List (Int × Fl))} [fd : Fnd P rDisk p d F] (ok : DOk' d) (hdw : d.w.length ≤ 1000)
  (h0 : d.now 0 = []) (hw : d.now 1 = wafs (stE ep (natL 0) :: l.map fun e => 1 :: redoL e.1 e.2) ++ tail) (ht : openW tail = none) (hbs : (d.now 1).length ≤ 1000000) (hr : ∀ e ∈ l, RecOk e) (hn : l.length ≤ 1000000) (he0 : 0 < ep) (he2 : ep < 1000000000)
  (h : ∀ b vw wi tk va, Q (.tup [.ptr (some (b, 0)), I 0]) (own rWd b ⟨vw, wi, tk, p, va, 0, 0, 0, 0, [], lastN l, 0⟩ :: own rView vw { vw0 with files := replayF fs0 l } :: F)) :
  Wp H0 P (f_world_Open (lv (n + 4)) [.ptr (some (p, 0))]) Q := by
 refine Wp.cl ?_
 have h7 : (128 : Nat) ^ 7 = 562949953421312 := by decide
 have n0 : (natL 0).length = 1 := by rw [natL_lo (by decide)]; rfl
 have nep := natL_len 6 ep (by omega)
 have hrl : ∀ e ∈ l, (redoL e.1 e.2).length ≤ 287 := fun e he => redoL_len (hr e he).ok (hr e he).g (by have := (hr e he).m; omega)
 have hgood := replayF_good hr (fs := fs0) (fun x hx => by rw [(List.mem_replicate.1 hx).2]; exact ⟨by decide, .inr rfl⟩)
 have hlast := lastN_le hr
 have nl := natL_len 6 (lastN l) (by omega)
 have hrf : (replayF fs0 l).length = 6 := by rw [replayF_len]; rfl
 unfold f_world_Open
 refine go ?_
 refine vault_Open_1 (ep := ep) (d := d) (tail := tail) (img := natL 0) (loads := l.map fun e => redoL e.1 e.2) h0 (by rw [hw, List.map_map]; rfl) ht (by unfold stE; rw [List.length_append, List.length_append, n0]; omega) ?_ hbs (by rw [List.length_map]; exact hn) he0 (by omega) fun v lg s z tr => ?_
 ·intro x hx
  obtain ⟨e, he, rfl⟩ := List.mem_map.1 hx
  have := hrl e he
  omega
 refine go ?_
 refine world_read_0 (m := 0) (by decide) fun t => ?_
 refine go ?_
 refine Wp.row (s := s) fun q => ?_
 have hsl := q.len
 rw [List.length_map] at hsl
 refine redo_Replay_v (s := s) (l := l) (fs := fs0) hr hn rfl ?_
 refine go ⟨fun c => by omega, fun _ => ?_⟩
 have hmx : (bif decide (((lastN l : Nat) : Int) > ((0 : Nat) : Int)) then ((lastN l : Nat) : Int) else ((0 : Nat) : Int)) = ((lastN l : Nat) : Int) := by
  by_cases c : 0 < lastN l
  ·rw [decide_eq_true (show ((lastN l : Nat) : Int) > ((0 : Nat) : Int) by omega)]; rfl
  ·rw [decide_eq_false (show ¬ ((lastN l : Nat) : Int) > ((0 : Nat) : Int) by omega)]
   have : lastN l = 0 := by omega
   rw [this]; rfl
 rw [hmx]
 refine image_v (m := lastN l) (fs := replayF fs0 l) hrf (fun x hx => (hgood x hx).1) (by omega) ?_
 have htl := tomeF_len (l := replayF fs0 l) (i := 0) (by omega) (fun x hx => (hgood x hx).1)
 refine go ?_
 refine Wp.ent (P' := own rC v [.ptr (some (p, 0)), .ptr (some (lg, 0)), I ep, .bool false] :: own rC lg [.ptr (some (p, 0)), I 1, I z, .bool tr] :: own rDisk p d :: own rTome t (replayF fs0 l) :: F) (.cons rfl (.cons rfl (.cons rfl (.cons rfl .refl)))) ?_
 refine settle_1 (n := n + 2) (by rw [List.length_append]; omega) he2 h0 ok hdw fun l2 => ?_
 refine go ?_
 refine attempt_NewView_v fun vw => ?_
 refine go ?_
 unfold f_wire_New
 refine go fun wi => ?_
 refine go (token_New_v fun tk => ?_)
 refine Wp.nil ntC (sz := 2) (by decide) ?_
 refine go fun b => ?_
 refine Wp.open rView vw fun y _ => ?_
 refine go ?_
 exact ⟨_, h b vw wi tk v, .fold (⟨none, 0, 0, none⟩ : Sl) trivial (.cons rfl (.cons rfl (.fold ((y.1, t, y.2.2) : Nat × Nat × Nat) trivial (.cons rfl (.cons rfl (.cons rfl (.cons rfl (.weak (.weak (.weak (.weak (.weak (.weak .refl)))))))))))))⟩
end
def Dk.crashS (d : Dk) (keep part : Int) : Dk := match d.w[keep.toNat]? with
 | none => d.lands d.w
 | some c => if c.r = true then d.lands (d.w.take keep.toNat) else (d.lands (d.w.take keep.toNat)).land1 { c with b := c.b.take part.toNat }
def Dk.crash (d : Dk) (keep part : Int) : Dk := ⟨(d.crashS keep part).s0, (d.crashS keep part).s0, (d.crashS keep part).s1, (d.crashS keep part).s1, []⟩
section
variable {H0 : Heap} {P F : List HP} {Q : HV → List HP → Prop} {D : DD}
theorem Crash_part {c : Bs} {part : Int} : (S c).extract (Int.toNat 0) (bif decide (((S c).size : Int) < (bif decide (0 > part) then 0 else part)) then ((S c).size : Int) else (bif decide (0 > part) then 0 else part)).toNat = S (c.take part.toNat) := by
 have hs := S_size c
 rw [S_ext]
 congr 1
 rw [show Int.toNat 0 = 0 from rfl, List.drop_zero, Nat.sub_zero]
 by_cases p0 : 0 > part
 ·rw [decide_eq_true p0]
  have : part.toNat = 0 := by omega
  rw [this]
  simp only [cond_true]
  rw [decide_eq_false (by omega)]; rfl
 ·rw [decide_eq_false p0]
  simp only [cond_false]
  by_cases c2 : ((S c).size : Int) < part
  ·rw [decide_eq_true c2]
   simp only [cond_true]
   rw [hs, List.take_of_length_le (by simp), List.take_of_length_le (by omega)]
  ·rw [decide_eq_false c2]; rfl
theorem disk_Crash_v {p : Nat} {d : Dk} {keep part : Int} [fd : Fnd P rDisk p d F] (ok : DOk' d) (h : Q (.tup []) (own rDisk p (d.crash keep part) :: F)) : Wp H0 P (f_disk_Disk_Crash D [.ptr (some (p, 0)), I keep, I part]) Q := by
 refine Wp.cl ?_
 unfold f_disk_Disk_Crash
 have hw := ok.w
 refine Wp.open rDisk p fun s _ => ?_
 refine Wp.row (s := s) fun hs => ?_
 have hsl := hs.len
 refine go ?_
 refine Wp.blk (Wp.mono (Q' := fun lf P' => lf = .exit 0 [] ∧ ∃ X : Dk, X.s0 = (d.crashS keep part).s0 ∧ X.s1 = (d.crashS keep part).s1 ∧ P' = own rC p (dkC X s) :: own (rR chC 3) s d.w :: F)
  (Wp.cl (Wp.loop (fun k vs P' => ∃ i : Nat, k = d.w.length - i ∧ i ≤ d.w.length ∧ i ≤ keep.toNat ∧ vs = [I i] ∧ Ent P' (own rC p (dkC (d.lands (d.w.take i)) s) :: own (rR chC 3) s d.w :: F)) d.w.length ⟨0, rfl, Nat.zero_le _, Nat.zero_le _, rfl, .cons rfl (.cons rfl .refl)⟩ ?_)) ?_)
 ·rintro k vs P' ⟨i, rfl, hi, hik, rfl, hP⟩
  refine Wp.ent hP ?_
  refine go ⟨fun c => ?_, fun c => ?_⟩
  ·have hlt : i < d.w.length := by omega
   obtain ⟨x, hx⟩ : ∃ x, d.w[i]? = some x := ⟨_, List.getElem?_eq_getElem hlt⟩
   have hm := List.mem_of_getElem? hx
   obtain ⟨h1, h2⟩ := ok.c x hm
   have hlen := Dk.lands_len (k := x.a) h1 (l := d.w.take i) (d := d) (fun y hy => ok.c y (List.mem_of_mem_take hy))
   have hs0 := ok.s x.a
   have htl : (d.w.take i).length ≤ 1000000 := by simp; omega
   refine Wp.ixN (s := s) (x := x) (f := chC) rfl hx fun _ _ => ?_
   refine go ⟨fun c2 => ?_, fun c2 => ?_⟩
   ·have hki : keep.toNat = i := by omega
    have hbl : (bif decide (((S x.b).size : Int) < (bif decide (0 > part) then 0 else part)) then ((S x.b).size : Int) else (bif decide (0 > part) then 0 else part)) ≤ ((S x.b).size : Int) ∧ 0 ≤ (bif decide (((S x.b).size : Int) < (bif decide (0 > part) then 0 else part)) then ((S x.b).size : Int) else (bif decide (0 > part) then 0 else part)) := by
     by_cases p0 : 0 > part
     ·rw [decide_eq_true p0]
      simp only [cond_true]
      rw [decide_eq_false (by omega)]
      exact ⟨by simp, by simp⟩
     ·rw [decide_eq_false p0]
      simp only [cond_false]
      by_cases q : ((S x.b).size : Int) < part
      ·rw [decide_eq_true q]; exact ⟨by simp, by simp⟩
      ·rw [decide_eq_false q]; exact ⟨by simp; omega, by simp; omega⟩
    rw [Crash_part]
    refine ⟨fun c3 => ⟨by decide, hbl.2, hbl.1, ?_⟩, fun c3 => ?_⟩
    ·refine disk_land_v (c := { x with b := x.b.take part.toNat }) h1 (by simp; omega) ?_
     refine go ?_
     refine Wp.ret ⟨_, ⟨rfl, _, ?_, ?_, rfl⟩, .cons rfl (.cons rfl .refl)⟩
     ·unfold Dk.crashS; rw [hki, hx]; simp only; rw [if_neg (by simp [c3])]
     ·unfold Dk.crashS; rw [hki, hx]; simp only; rw [if_neg (by simp [c3])]
    ·refine Wp.ret ⟨_, ⟨rfl, _, ?_, ?_, rfl⟩, .refl⟩
     ·unfold Dk.crashS; rw [hki, hx]; simp only; rw [if_pos c3]
     ·unfold Dk.crashS; rw [hki, hx]; simp only; rw [if_pos c3]
   ·refine disk_land_v (c := x) h1 (by omega) ?_
    refine go ?_
    refine ⟨d.w.length - (i + 1), by omega, i + 1, rfl, by omega, by omega, ?_, ?_⟩
    ·rw [wr_small (by omega) (by omega)]; rfl
    ·refine .cons ?_ (.cons rfl .refl)
     have : d.w.take (i + 1) = d.w.take i ++ [x] := by rw [List.take_add_one, hx]; rfl
     rw [this, Dk.lands_snoc]
  ·have hie : i = d.w.length := by omega
   subst hie
   rw [List.take_length]
   refine Wp.ret ⟨_, ⟨rfl, _, ?_, ?_, rfl⟩, .refl⟩
   ·unfold Dk.crashS; rw [List.getElem?_eq_none (by omega)]
   ·unfold Dk.crashS; rw [List.getElem?_eq_none (by omega)]
 ·rintro lf P' ⟨rfl, X, x0, x1, rfl⟩
  refine go ?_
  refine Wp.forL (σ := Unit) 2 (by decide) (by decide) (fun _ i => [I i]) (out := fun _ => []) (fun _ _ => rfl) (fun _ _ => True)
   (fun i _ => own rC p [.str (S (if i = 0 then X.n0 else X.s0)), .str (S X.s0), .str (S (if i ≤ 1 then X.n1 else X.s1)), .str (S X.s1), .sl ⟨none, 0, 0, none⟩] :: F) () rfl trivial (.cons rfl (.weak .refl)) ?_ ?_
  ·intro i _ hi _
   obtain rfl | rfl : i = 0 ∨ i = 1 := by omega
   ·refine go ⟨by decide, ?_⟩
    refine Wp.ldC (v := .str (S X.s0)) rfl ?_
    refine go ⟨by decide, ?_⟩
    refine Wp.stC (cs' := [.str (S X.s0), .str (S X.s0), .str (S X.n1), .str (S X.s1), .sl ⟨none, 0, 0, none⟩]) (by simp) rfl rfl ?_
    refine go ?_
    exact ⟨(), rfl, trivial, .cons rfl .refl⟩
   ·refine go ⟨by decide, by decide, ?_⟩
    refine Wp.ldC (v := .str (S X.s1)) rfl ?_
    refine go ⟨by decide, by decide, ?_⟩
    refine Wp.stC (cs' := [.str (S X.s0), .str (S X.s0), .str (S X.s1), .str (S X.s1), .sl ⟨none, 0, 0, none⟩]) (by simp) rfl rfl ?_
    refine go ?_
    exact ⟨(), rfl, trivial, .cons rfl .refl⟩
  ·intro _ _
   refine Wp.nil chC (sz := 3) (by decide) ?_
   refine go ?_
   exact ⟨_, h, .fold (⟨none, 0, 0, none⟩ : Sl) trivial (.cons (by unfold Dk.crash; rw [← x0, ← x1]; rfl) (.cons rfl .refl))⟩
end
def base (L : List (Nat × List (Int × Fl))) : Bs := wafs (stE 1 (natL 0) :: L.map fun e => 1 :: redoL e.1 e.2)
theorem wafs_app (a b : List Bs) : wafs (a ++ b) = wafs a ++ wafs b := by simp [wafs]
theorem base_snoc (L : List (Nat × List (Int × Fl))) (e : Nat × List (Int × Fl)) : base (L ++ [e]) = base L ++ closeL (1 :: redoL e.1 e.2) := by
 unfold base
 rw [List.map_append, ← List.cons_append, wafs_app]
 simp [wafs]
theorem base0 : base [] = stlL (natL 0) := by
 simp [base, wafs, stlL, stlS, stE]
def dsk (L : List (Nat × List (Int × Fl))) (X : Bs) : Option Bool → Dk
 | none => ⟨[], [], base L, base L, []⟩
 | some false => ⟨[], [], base L ++ X, base L, [⟨1, false, X⟩]⟩
 | some true => ⟨[], [], base L ++ X, base L ++ X, []⟩
theorem replayF_snoc {fs : List (Fl × Int)} {l : List (Nat × List (Int × Fl))} {e : Nat × List (Int × Fl)} : replayF fs (l ++ [e]) = landG (replayF fs l) e.2 0 := by
 unfold replayF; rw [List.foldl_append]; rfl
theorem landG_fst {γ : Type} {cs cs' : List (γ × Int)} {dc : List (Int × γ)} {n n' : Int} (hd : Rise dc) (h0 : ∀ e ∈ dc, 0 ≤ e.1) (hl : ∀ e ∈ dc, e.1.toNat < cs.length) (h : cs.map Prod.fst = cs'.map Prod.fst) :
  (landG cs dc n).map Prod.fst = (landG cs' dc n').map Prod.fst := by
 have hlen : cs.length = cs'.length := by simpa using congrArg List.length h
 refine List.ext_getElem? fun j => ?_
 rw [List.getElem?_map, List.getElem?_map, landG_val hd h0 hl, landG_val hd h0 (fun e he => by rw [← hlen]; exact hl e he)]
 cases getD dc (j : Int) with
 | some x => rfl
 | none => simp only [← List.getElem?_map, h]
structure DI (ts : List (Nat × (TrS × Ac))) (s : CSt) (cms : List (Nat × (Int × Nat × Int))) (L : List (Nat × List (Int × Fl))) (cur : Option (Nat × Bool)) (m : Nat) : Prop where
 ok : ∀ e ∈ L, RecOk e
 len : L.length ≤ m
 fs : (replayF fs0 L).map Prod.fst = s.v.files.map Prod.fst
 p12 : ∀ (j : Nat) (c : Nat) (i : Int) (a : Nat) (ph : Int) (t : Nat × (TrS × Ac)), cms[j]? = some (c, i, a, ph) → ts[j]? = some t → ph = 1 ∨ ph = 2 → t.2.1.t.df ≠ []
 h1 : ∀ (j : Nat) (c : Nat) (i : Int) (a : Nat) (ph : Int) (t : Nat × (TrS × Ac)), cms[j]? = some (c, i, a, ph) → ts[j]? = some t → (ph = 2 → cur = some (j, false)) ∧ (ph = 3 → t.2.1.t.df ≠ [] → cur = some (j, true))
 h2 : ∀ (j : Nat) (b : Bool), cur = some (j, b) → ∃ c i a t, cms[j]? = some (c, i, a, if b then 3 else 2) ∧ ts[j]? = some t ∧ t.2.1.t.df ≠ [] ∧ s.D = dsk L (closeL (1 :: redoL (s.b + 1) t.2.1.t.df)) (some b)
 h3 : cur = none → s.D = dsk L [] none
theorem DI.step {ts : List (Nat × (TrS × Ac))} {C0 : List Nat} {s : CSt} {cms : List (Nat × (Int × Nat × Int))} {L : List (Nat × List (Int × Fl))} {cur : Option (Nat × Bool)} {m j c a : Nat} {ph : Int} {y : TrS} {A : Ac} (h : LI ts C0 s cms m) (g : DI ts s cms L cur m) (hj : cms[j]? = some (c, (j : Int), a, ph)) (ht : ts[j]? = some (a, y, A))
  (hT : TE y.t) (hm : m ≤ 10000) : ∃ L' cur', DI ts (stepS y.t A j ph s).2.2 (cms.set j (c, (j : Int), a, (stepS y.t A j ph s).2.1)) L' cur' (m + 1) := by
 have hph := (h.mi.e j _ _ _ _ _ hj ht).2.2
 have hjl := (List.getElem?_eq_some_iff.1 hj).1
 -- whoever else is on its way, isn't.
 have alone : 1 ≤ ph → ph ≤ 3 → ∀ j' b, cur = some (j', b) → j' = j := by
  intro q1 q2 j' b e
  obtain ⟨c', i', a', t', e1, e2, _⟩ := g.h2 j' b e
  have k1 := (h.lk j c j a ph _ hj ht q1 q2).1
  have k2 := (h.lk j' c' i' a' _ t' e1 e2 (by split <;> decide) (by split <;> decide)).1
  omega
 have phase : ∀ b, cur = some (j, b) → ph = if b then 3 else 2 := by
  intro b e
  obtain ⟨c', i', a', t', e1, _⟩ := g.h2 j b e
  rw [hj] at e1
  simp only [Option.some.injEq, Prod.mk.injEq] at e1
  exact e1.2.2.2
 have at_ : ∀ (ph2 : Int) (j' c' : Nat) (i' : Int) (a' : Nat) (ph' : Int), (cms.set j (c, (j : Int), a, ph2))[j']? = some (c', i', a', ph') → (j' = j ∧ ph' = ph2) ∨ (j' ≠ j ∧ cms[j']? = some (c', i', a', ph')) := by
  intro ph2 j' c' i' a' ph' e
  rw [List.getElem?_set] at e
  split at e
  ·rename_i q
   subst q
   first
    | (rw [if_pos hjl] at e; cases e)
    | cases e
   exact .inl ⟨rfl, rfl⟩
  ·rename_i q
   exact .inr ⟨fun z => q z.symm, e⟩
 have keepE : ∀ (ph2 : Int) (j' : Nat) (x : Nat × (Int × Nat × Int)), j' ≠ j → cms[j']? = some x → (cms.set j (c, (j : Int), a, ph2))[j']? = some x := by
  intro ph2 j' x q e
  rw [List.getElem?_set_ne (fun z => q z.symm)]; exact e
 have selfE : ∀ ph2 : Int, (cms.set j (c, (j : Int), a, ph2))[j]? = some (c, (j : Int), a, ph2) := fun ph2 => by rw [List.getElem?_set_self hjl]
 obtain rfl | rfl | rfl | rfl | rfl : ph = 0 ∨ ph = 1 ∨ ph = 2 ∨ ph = 3 ∨ ph = 4 := by omega
 ·-- the first step: a token
  have gen : ∀ (s2 : CSt) (ph2 : Int), s2.v = s.v → s2.D = s.D → s2.b = s.b → ph2 = 0 ∨ (ph2 = 3 ∧ y.t.df = []) ∨ (ph2 = 1 ∧ y.t.df ≠ []) → DI ts s2 (cms.set j (c, (j : Int), a, ph2)) L cur (m + 1) := by
   intro s2 ph2 ev eD eb hp
   refine ⟨g.ok, (by have := g.len; omega), by rw [ev]; exact g.fs, fun j' c' i' a' ph' t e1 e2 e3 => ?_, fun j' c' i' a' ph' t e1 e2 => ?_, fun j' b e => ?_, fun e => by rw [eD]; exact g.h3 e⟩
   ·rcases at_ _ _ _ _ _ _ e1 with ⟨rfl, rfl⟩ | ⟨q, e1⟩
    ·rw [ht] at e2
     cases e2
     rcases hp with q | ⟨q, _⟩ | ⟨_, q⟩
     ·omega
     ·omega
     ·exact q
    ·exact g.p12 _ _ _ _ _ _ e1 e2 e3
   ·rcases at_ _ _ _ _ _ _ e1 with ⟨rfl, rfl⟩ | ⟨q, e1⟩
    ·rw [ht] at e2
     cases e2
     refine ⟨fun q => by omega, fun q q2 => ?_⟩
     rcases hp with q3 | ⟨_, q3⟩ | ⟨q3, _⟩
     ·omega
     ·exact absurd q3 q2
     ·omega
    ·exact g.h1 _ _ _ _ _ _ e1 e2
   ·have hne : j' ≠ j := fun q => by
     subst q
     have := phase b e
     cases b <;> simp at this
    obtain ⟨c', i', a', t', e1, e2, e3, e4⟩ := g.h2 j' b e
    exact ⟨c', i', a', t', keepE _ _ _ hne e1, e2, e3, by rw [eD, eb]; exact e4⟩
  unfold stepS
  rw [if_pos rfl]
  by_cases q1 : s.tk.free j = false
  ·rw [if_pos q1]
   exact ⟨L, cur, gen s 0 rfl rfl rfl (.inl rfl)⟩
  ·rw [if_neg q1]
   by_cases q2 : validB s.v y.t.rd = false
   ·rw [if_pos q2]
    exact ⟨L, cur, gen s 0 rfl rfl rfl (.inl rfl)⟩
   ·rw [if_neg q2]
    refine ⟨L, cur, gen { s with tk := s.tk.lock j } _ rfl rfl rfl ?_⟩
    by_cases q3 : y.t.df = []
    ·rw [q3]; exact .inr (.inl ⟨rfl, rfl⟩)
    ·rw [if_neg (by simpa using q3)]; exact .inr (.inr ⟨rfl, q3⟩)
 ·-- it is written
  have hnone : cur = none := by
   cases hc : cur with
   | none => rfl
   | some z =>
    obtain ⟨j', b⟩ := z
    have := alone (by decide) (by decide) j' b hc
    subst this
    have := phase b hc
    cases b <;> simp at this
  have hD := g.h3 hnone
  have hdf := g.p12 j c j a 1 _ hj ht (.inl rfl)
  unfold stepS
  rw [if_neg (by decide), if_pos rfl, if_neg (by rw [h.f0]; decide)]
  refine ⟨L, some (j, false), g.ok, (by have := g.len; omega), g.fs, fun j' c' i' a' ph' t e1 e2 e3 => ?_, fun j' c' i' a' ph' t e1 e2 => ?_, fun j' b e => ?_, fun e => nomatch e⟩
  ·rcases at_ _ _ _ _ _ _ e1 with ⟨rfl, rfl⟩ | ⟨q, e1⟩
   ·rw [ht] at e2
    cases e2
    exact hdf
   ·exact g.p12 _ _ _ _ _ _ e1 e2 e3
  ·rcases at_ _ _ _ _ _ _ e1 with ⟨rfl, rfl⟩ | ⟨q, e1⟩
   ·exact ⟨fun _ => rfl, fun q => absurd q (show ¬ (2 : Int) = 3 by decide)⟩
   ·have := g.h1 _ _ _ _ _ _ e1 e2
    rw [hnone] at this
    exact ⟨fun q => (nomatch this.1 q), fun q q2 => (nomatch this.2 q q2)⟩
  ·cases e
   refine ⟨c, j, a, _, selfE 2, ht, hdf, ?_⟩
   show s.D.app 1 _ = _
   rw [hD]; rfl
 ·-- it is forced
  have hc := (g.h1 j c j a 2 _ hj ht).1 rfl
  have hdf := g.p12 j c j a 2 _ hj ht (.inr rfl)
  obtain ⟨c', i', a', t', e1, e2, e3, hD⟩ := g.h2 j false hc
  rw [ht] at e2
  cases e2
  unfold stepS
  rw [if_neg (by decide), if_neg (by decide), if_pos rfl]
  refine ⟨L, some (j, true), g.ok, (by have := g.len; omega), g.fs, fun j' c' i' a' ph' t e1 e2 e3 => ?_, fun j' c' i' a' ph' t e1 e2 => ?_, fun j' b e => ?_, fun e => nomatch e⟩
  ·rcases at_ _ _ _ _ _ _ e1 with ⟨_, hp⟩ | ⟨q, e1⟩
   ·simp only at hp; omega
   ·exact g.p12 _ _ _ _ _ _ e1 e2 e3
  ·rcases at_ _ _ _ _ _ _ e1 with ⟨rfl, rfl⟩ | ⟨q, e1⟩
   ·exact ⟨fun q => absurd q (show ¬ (3 : Int) = 2 by decide), fun _ _ => rfl⟩
   ·have := g.h1 _ _ _ _ _ _ e1 e2
    rw [hc] at this
    exact ⟨fun q2 => (by have := this.1 q2; simp at this; omega), fun q2 q3 => (nomatch this.2 q2 q3)⟩
  ·cases e
   refine ⟨c, j, a, _, selfE 3, ht, hdf, ?_⟩
   show s.D.sync = _
   rw [hD]; rfl
 ·-- it lands
  have hval := (h.lk j c j a 3 _ hj ht (by decide) (by decide)).2
  have hTa := hT.at h.ve.e
  have hfl : ∀ e ∈ y.t.df, e.1.toNat < 6 := fun e he => by have := hTa.df.i e he; have := hTa.d6 e he; omega
  unfold stepS
  rw [if_neg (by decide), if_neg (by decide), if_neg (by decide), if_pos rfl, if_pos hval]
  by_cases hdf : y.t.df = []
  ·have hnone : cur = none := by
    cases hc : cur with
    | none => rfl
    | some z =>
     obtain ⟨j', b⟩ := z
     have := alone (by decide) (by decide) j' b hc
     subst this
     obtain ⟨c', i', a', t', e1, e2, e3, _⟩ := g.h2 j' b hc
     rw [ht] at e2
     cases e2
     exact absurd hdf e3
   refine ⟨L, none, g.ok, (by have := g.len; omega), ?_, fun j' c' i' a' ph' t e1 e2 e3 => ?_, fun j' c' i' a' ph' t e1 e2 => ?_, fun j' b e => (nomatch e), fun _ => g.h3 hnone⟩
   ·rw [g.fs]
    show _ = (landG s.v.files y.t.df (s.v.clock + 1)).map Prod.fst
    rw [hdf]; rfl
   ·rcases at_ _ _ _ _ _ _ e1 with ⟨_, hp⟩ | ⟨q, e1⟩
    ·simp only at hp; omega
    ·exact g.p12 _ _ _ _ _ _ e1 e2 e3
   ·rcases at_ _ _ _ _ _ _ e1 with ⟨rfl, rfl⟩ | ⟨q, e1⟩
    ·exact ⟨fun q => absurd q (show ¬ (4 : Int) = 2 by decide), fun q => absurd q (show ¬ (4 : Int) = 3 by decide)⟩
    ·have := g.h1 _ _ _ _ _ _ e1 e2
     rw [hnone] at this
     exact this
  ·have hc := (g.h1 j c j a 3 _ hj ht).2 rfl hdf
   obtain ⟨c', i', a', t', e1, e2, e3, hD⟩ := g.h2 j true hc
   rw [ht] at e2
   cases e2
   have hb := h.mi.k.b
   refine ⟨L ++ [(s.b + 1, y.t.df)], none, fun e he => ?_, (by have := g.len; simp; omega), ?_, fun j' c' i' a' ph' t e1 e2 e3 => ?_, fun j' c' i' a' ph' t e1 e2 => ?_, fun j' b e => (nomatch e), fun _ => ?_⟩
   ·rcases List.mem_append.1 he with q | q
    ·exact g.ok e q
    ·simp at q
     subst q
     exact ⟨by show s.b + 1 ≤ _; omega, hTa.df, fun e he => by have := hTa.d6 e he; exact this, hT.ok.fl⟩
   ·rw [replayF_snoc]
    show _ = (landG s.v.files y.t.df (s.v.clock + 1)).map Prod.fst
    have hf6 := h.ve.e.p.ok.f
    have hl6 : (replayF fs0 L).length = 6 := by rw [replayF_len]; rfl
    exact landG_fst hTa.df.r (fun e he => (hTa.df.i e he).1) (fun e he => by rw [hl6]; exact hfl e he) g.fs
   ·rcases at_ _ _ _ _ _ _ e1 with ⟨_, hp⟩ | ⟨q, e1⟩
    ·simp only at hp; omega
    ·exact g.p12 _ _ _ _ _ _ e1 e2 e3
   ·rcases at_ _ _ _ _ _ _ e1 with ⟨rfl, rfl⟩ | ⟨q, e1⟩
    ·exact ⟨fun q => absurd q (show ¬ (4 : Int) = 2 by decide), fun q => absurd q (show ¬ (4 : Int) = 3 by decide)⟩
    ·have := g.h1 _ _ _ _ _ _ e1 e2
     rw [hc] at this
     exact ⟨fun q2 => (nomatch this.1 q2), fun q2 q3 => (by have := this.2 q2 q3; simp at this; omega)⟩
   ·show s.D = dsk (L ++ [(s.b + 1, y.t.df)]) [] none
    rw [hD]
    unfold dsk
    rw [base_snoc]
 ·-- nothing
  unfold stepS
  rw [if_neg (by decide), if_neg (by decide), if_neg (by decide), if_neg (by decide)]
  refine ⟨L, cur, g.ok, (by have := g.len; omega), g.fs, fun j' c' i' a' ph' t e1 e2 e3 => ?_, fun j' c' i' a' ph' t e1 e2 => ?_, fun j' b e => ?_, g.h3⟩
  ·rcases at_ _ _ _ _ _ _ e1 with ⟨_, hp⟩ | ⟨q, e1⟩
   ·simp only at hp; omega
   ·exact g.p12 _ _ _ _ _ _ e1 e2 e3
  ·rcases at_ _ _ _ _ _ _ e1 with ⟨rfl, rfl⟩ | ⟨q, e1⟩
   ·exact ⟨fun q => absurd q (show ¬ (4 : Int) = 2 by decide), fun q => absurd q (show ¬ (4 : Int) = 3 by decide)⟩
   ·exact g.h1 _ _ _ _ _ _ e1 e2
  ·have hne : j' ≠ j := fun q => by
    subst q
    have := phase b e
    cases b <;> simp at this
   obtain ⟨c', i', a', t', e1, e2, e3, e4⟩ := g.h2 j' b e
   exact ⟨c', i', a', t', keepE _ _ _ hne e1, e2, e3, e4⟩
theorem dsk_crash {L : List (Nat × List (Int × Fl))} {e : Nat × List (Int × Fl)} {o : Option Bool} {keep part : Int} (hl : (redoL e.1 e.2).length ≤ 287) :
  ∃ L' tail, (dsk L (closeL (1 :: redoL e.1 e.2)) o).crash keep part = ⟨[], [], base L' ++ tail, base L' ++ tail, []⟩ ∧ openW tail = none ∧ (base L' ++ tail).length ≤ ((dsk L (closeL (1 :: redoL e.1 e.2)) o).n1).length ∧ (L' = L ∨ (o ≠ none ∧ L' = L ++ [e])) := by
 match o with
 | none =>
  refine ⟨L, [], ?_, openW_nil, ?_, .inl rfl⟩
  ·rw [List.append_nil]
   unfold Dk.crash Dk.crashS dsk
   simp [Dk.lands]
  ·rw [List.append_nil]; exact Nat.le_refl _
 | some true =>
  refine ⟨L ++ [e], [], ?_, openW_nil, ?_, .inr ⟨by simp, rfl⟩⟩
  ·rw [List.append_nil, base_snoc]
   unfold Dk.crash Dk.crashS dsk
   simp [Dk.lands]
  ·rw [List.append_nil, base_snoc]; exact Nat.le_refl _
 | some false =>
  by_cases hk : keep.toNat = 0
  ·by_cases hp : part.toNat < (closeL (1 :: redoL e.1 e.2)).length
   ·refine ⟨L, (closeL (1 :: redoL e.1 e.2)).take part.toNat, ?_, openW_cut (by simp; omega) hp, ?_, .inl rfl⟩
    ·unfold Dk.crash Dk.crashS dsk
     rw [hk]
     rfl
    ·show _ ≤ (base L ++ closeL (1 :: redoL e.1 e.2)).length
     simp; omega
   ·refine ⟨L ++ [e], [], ?_, openW_nil, ?_, .inr ⟨by simp, rfl⟩⟩
    ·rw [List.append_nil, base_snoc]
     unfold Dk.crash Dk.crashS dsk
     rw [hk]
     simp only [List.getElem?_cons_zero]
     rw [List.take_of_length_le (l := closeL (1 :: redoL e.1 e.2)) (i := part.toNat) (by omega)]
     rfl
    ·rw [List.append_nil, base_snoc]; exact Nat.le_refl _
  ·refine ⟨L ++ [e], [], ?_, openW_nil, ?_, .inr ⟨by simp, rfl⟩⟩
   ·rw [List.append_nil, base_snoc]
    unfold Dk.crash Dk.crashS dsk
    obtain ⟨k, hk⟩ : ∃ k, keep.toNat = k + 1 := ⟨keep.toNat - 1, by omega⟩
    rw [hk]
    rfl
   ·rw [List.append_nil, base_snoc]; exact Nat.le_refl _
theorem putN_all {l m : List HV} (h : m.length = l.length) : putN l 0 m = m := by
 unfold putN
 rw [List.drop_eq_nil_of_le (by omega)]; simp
abbrev fC (fs : List (Fl × Int)) : List HV := (fs.map f2).flatten
theorem fC_fst {fs gs : List (Fl × Int)} (h : fs.map Prod.fst = gs.map Prod.fst) : fC fs = fC gs := by
 have e : ∀ l : List (Fl × Int), l.map f2 = (l.map Prod.fst).map fun x => [HV.bool x.1, HV.str (S x.2)] := fun l => by rw [List.map_map]; rfl
 unfold fC
 rw [e, e, h]
theorem list6 {α : Type} {l : List α} (h : l.length = 6) : ∃ a b c d e f, l = [a, b, c, d, e, f] := by
 match l, h with
 | [a, b, c, d, e, f], _ => exact ⟨a, b, c, d, e, f, rfl⟩
theorem fC_len {fs : List (Fl × Int)} (h : fs.length = 6) : (fC fs).length = 12 := by
 obtain ⟨a, b, c, d, e, f, rfl⟩ := list6 h; rfl
abbrev ksF : List Sc := [.kb, .ks, .kb, .ks, .kb, .ks, .kb, .ks, .kb, .ks, .kb, .ks]
theorem eqSh_fC0 {fs : List (Fl × Int)} (h : fs.length = 6) : eqSh ksF (fC fs) (fC fs) = some true := by
 obtain ⟨a, b, c, d, e, f, rfl⟩ := list6 h
 simp [fC, eqSh]
theorem eqSh_fC1 {fs gs : List (Fl × Int)} (h : fs.length = 6) (h2 : gs.length = 6) : ∃ b, eqSh ksF (fC fs) (fC gs) = some b := by
 obtain ⟨a, b, c, d, e, f, rfl⟩ := list6 h
 obtain ⟨a', b', c', d', e', f', rfl⟩ := list6 h2
 simp [fC, eqSh]
theorem thC_fC {v : Vw} (ok : VOk v) : ((thC v).drop 8).take 12 = fC v.files := by
 have h8 : (v.cells.map c1).length = 8 := by rw [List.length_map, ok.c]
 have h12 := fC_len ok.f
 unfold thC
 rw [← h8, List.drop_left, ← h12, List.take_left]
theorem DI.crash {ts : List (Nat × (TrS × Ac))} {C0 : List Nat} {s : CSt} {cms : List (Nat × (Int × Nat × Int))} {L : List (Nat × List (Int × Fl))} {cur : Option (Nat × Bool)} {m : Nat} {keep part : Int} (h : LI ts C0 s cms m) (g : DI ts s cms L cur m) (hm : m ≤ 10000)
  (hT : ∀ (j : Nat) (t : Nat × (TrS × Ac)), ts[j]? = some t → TE t.2.1.t) : ∃ L' tail, s.D.crash keep part = ⟨[], [], base L' ++ tail, base L' ++ tail, []⟩ ∧ openW tail = none ∧ (base L' ++ tail).length ≤ 16384 ∧ (∀ e ∈ L', RecOk e) ∧ L'.length ≤ 20000 ∧
  ((replayF fs0 L').map Prod.fst = s.v.files.map Prod.fst ∨ ∃ j b t, cur = some (j, b) ∧ ts[j]? = some t ∧ (replayF fs0 L').map Prod.fst = (landT s.v t.2.1.t).files.map Prod.fst) := by
 have hn1 : s.D.n1.length ≤ 16384 := h.mi.k.D.n 1
 have hl := g.len
 cases hc : cur with
 | none =>
  have hD := g.h3 hc
  have e0 : (redoL 0 []).length ≤ 287 := by
   have : (redoL 0 []) = natL 0 := by simp [redoL]
   rw [this, natL_lo (by decide)]; simp
  obtain ⟨L', tail, k1, k2, k3, k4⟩ := dsk_crash (L := L) (e := (0, [])) (o := none) (keep := keep) (part := part) e0
  rcases k4 with rfl | ⟨k4, _⟩
  ·refine ⟨L', tail, by rw [hD]; exact k1, k2, ?_, g.ok, by omega, .inl g.fs⟩
   rw [hD] at hn1
   exact Nat.le_trans k3 hn1
  ·exact absurd rfl k4
 | some z =>
  obtain ⟨j, b⟩ := z
  obtain ⟨c', i', a', t, e1, e2, e3, hD⟩ := g.h2 j b hc
  have hTE := hT j t e2
  have hTa := hTE.at h.ve.e
  have hb := h.mi.k.b
  have hok : RecOk (s.b + 1, t.2.1.t.df) := ⟨by show s.b + 1 ≤ _; omega, hTa.df, fun e he => by have := hTa.d6 e he; exact this, hTE.ok.fl⟩
  have e0 : (redoL (s.b + 1) t.2.1.t.df).length ≤ 287 := redoL_len hok.ok hok.g (by omega)
  obtain ⟨L', tail, k1, k2, k3, k4⟩ := dsk_crash (L := L) (e := (s.b + 1, t.2.1.t.df)) (o := some b) (keep := keep) (part := part) e0
  have k3 : (base L' ++ tail).length ≤ 16384 := by
   rw [hD] at hn1
   exact Nat.le_trans k3 hn1
  refine ⟨L', tail, by rw [hD]; exact k1, k2, k3, ?_⟩
  rcases k4 with rfl | ⟨_, rfl⟩
  ·exact ⟨g.ok, by omega, .inl g.fs⟩
  ·refine ⟨fun e he => ?_, by simp; omega, .inr ⟨j, b, t, rfl, e2, ?_⟩⟩
   ·rcases List.mem_append.1 he with q | q
    ·exact g.ok e q
    ·simp at q
     subst q
     exact hok
   ·rw [replayF_snoc]
    show _ = (landG s.v.files t.2.1.t.df (s.v.clock + 1)).map Prod.fst
    have hl6 : (replayF fs0 L).length = 6 := by rw [replayF_len]; rfl
    exact landG_fst hTa.df.r (fun e he => (hTa.df.i e he).1) (fun e he => by rw [hl6]; have := hTa.df.i e he; have := hTa.d6 e he; omega) g.fs
section
variable {H0 : Heap} {P F : List HP} [Sea] [SeaOpen] [SeaOk] [SeaLand] [SeaUndo] [SeaRedo] [SeaRec] [SeaTome] {n : Nat}
set_option linter.unusedSectionVars false
omit [Sea] [SeaOpen] [SeaOk] [SeaLand] [SeaUndo] [SeaRedo] [SeaRec] [SeaTome] in
theorem mwrites_v {Q : HV → List HP → Prop} {D : DD} {F1 : List HP} {ts : List (Nat × (TrS × Ac))} {j a : Nat} {y : TrS} {A : Ac} [f1 : Fnd P (rAll rTA) 0 ts F1] (ht : ts[j]? = some (a, y, A))
  (h : Q (.tup [I y.t.dc.length, I y.t.df.length]) P) : Wp H0 P (f_attempt_Attempt_Writes D [.ptr (some (a, 0))]) Q := by
 refine Wp.cl ?_
 refine Wp.ent (Ent.out1 (r := rTA) (u := 0) ht) ?_
 refine Wp.open rTA a fun _ _ => ?_
 refine attempt_Writes_v (x := y) ?_
 exact ⟨_, h, Ent.trans (P' := own (rAll rTA) 0 ts :: F1) (Ent.back1 ht (.fold () trivial (.cons rfl (.cons rfl .refl)))) (Ent.perm f1.p.symm)⟩
theorem law22_CommitLasts_v {s s1 : Sl} {keep part : Int} {xs : List TyA} {ls : TyA → List Dee} {steps : List Int} [rr : RoR H0 s TyA tyC 7 xs] [r1 : RoR H0 s1 Int iiC 1 steps] (hr : ∀ x ∈ xs, RoR H0 x.s Dee deC 4 (ls x)) :
  Wp H0 [] (f_law22_CommitLasts (lv (n + 4)) [.sl s, .sl s1, I keep, I part]) (fun a _ => a = .bool true) := by
 unfold f_law22_CommitLasts
 have g0 := rr.len
 have g1 := r1.len
 refine go ?_
 refine alive_v (n := n + 1) ?_
 refine go ?_
 refine great_r (xs := xs) ?_
 refine go ⟨fun _ => rfl, fun c => ⟨fun _ => rfl, fun c2 => ⟨fun _ => rfl, fun c3 => ?_⟩⟩⟩
 have hc := great_all hr c
 refine disk_New_v fun p => ?_
 refine go ?_
 refine world_Open_e (n := n + 1) fun b vw wi tk va l => ?_
 refine go ?_
 refine begun_r (n := n + 2) (w := ⟨vw, wi, tk, p, va, 0, 0, 0, 0, [], 0, 0⟩) (v := vw0) (xs := xs) (ls := ls) hr (fun x hx => Nat.le_trans (hc.2.1 x hx) (by decide)) (by omega) vw0P fun s' ts hts => ?_
 have hw := wdsOf_rest' xs ⟨vw, wi, tk, p, va, 0, 0, 0, 0, [], 0, 0⟩
 generalize wdsOf ⟨vw, wi, tk, p, va, 0, 0, 0, 0, [], 0, 0⟩ xs = W at hw
 obtain ⟨W1, W2, W3, W4, W5, t0, t1, t2, t3, ns, W6, W7⟩ := W
 simp only at hw
 obtain ⟨rfl, rfl, rfl, rfl, rfl, rfl, rfl⟩ := hw
 have hall := begun_all hts
 have hln : ts.length = xs.length := hts.1
 have hne : 0 < xs.length := by rw [← g0]; omega
 have hl6 : xs.length ≤ 6 := hc.1
 have hroom : room = 140737488355328 := rfl
 refine go ?_
 let W : Wd := ⟨W1, W2, W3, W4, W5, t0, t1, t2, t3, [], 0, 0⟩
 refine Wp.ent (P' := own (rR ptC 1) s' (ts.map Prod.fst) :: own (rAll rTA) 0 ts :: wpP b l p W cst0 []) (.cons rfl (.cons rfl (.cons rfl (.cons rfl (.cons rfl (.cons rfl (.cons rfl (.cons rfl (.cons rfl .tail))))))))) ?_
 refine Wp.row (s := s') fun qs => ?_
 have hsl := qs.len
 rw [List.length_map] at hsl
 refine Wp.nil ptC (sz := 1) (by decide) ?_
 refine Wp.forL (σ := Sl × List (Nat × (Int × Nat × Int))) ts.length (by omega) (by omega) (fun x i => [.sl x.1, I i]) (out := fun x => [.sl x.1]) (fun _ _ => rfl)
  (fun i x => x.2.length = i ∧ ∀ (j : Nat) (t : Nat × (TrS × Ac)), j < i → ts[j]? = some t → ∃ c, x.2[j]? = some (c, (j : Int), t.1, 0))
  (fun i x => own (rR ptC 1) x.1 (x.2.map Prod.fst) :: own (rAll rCM) 0 x.2 :: own (rR ptC 1) s' (ts.map Prod.fst) :: own (rAll rTA) 0 ts :: wpP b l p W cst0 [])
  (⟨none, 0, 0, none⟩, []) rfl ⟨rfl, fun j t hj => by omega⟩ ?_ ?_ ?_
 ·exact .cons rfl (Ent.all0' .refl)
 ·rintro i ⟨sc, cms⟩ hi ⟨h1, h3⟩
  simp only at h1 h3
  obtain ⟨⟨ai, yi, Ai⟩, hi0⟩ : ∃ e, ts[i]? = some e := ⟨_, List.getElem?_eq_getElem hi⟩
  refine Wp.ixC0 (s := s') (j := i) (x := ai) rfl (by rw [List.getElem?_map, hi0]; rfl) rfl fun _ _ => ?_
  refine go ?_
  refine commit_New_v (a := ai) (by omega) fun c => ?_
  refine go ?_
  refine Wp.apd (s := sc) (x := c) rfl rfl (by simp; omega) (by simp; omega) fun s2 => ?_
  refine go ?_
  refine ⟨(s2, cms ++ [(c, (i : Int), ai, 0)]), rfl, ⟨by simp [h1], fun j t hj ht => ?_⟩, ?_⟩
  ·by_cases e : j = i
   ·subst e
    rw [hi0] at ht
    cases ht
    refine ⟨c, ?_⟩
    show (cms ++ _)[j]? = _
    rw [List.getElem?_append_right (by omega), h1, Nat.sub_self]; rfl
   ·obtain ⟨c', e1⟩ := h3 j t (by omega) ht
    refine ⟨c', ?_⟩
    show (cms ++ _)[j]? = _
    rw [List.getElem?_append_left (by omega)]; exact e1
  ·refine Ent.trans (P' := own (rR ptC 1) s2 ((cms ++ [(c, (i : Int), ai, (0 : Int))]).map Prod.fst) :: own rCM c ((i : Int), ai, (0 : Int)) :: own (rAll rCM) 0 cms :: own (rR ptC 1) s' (ts.map Prod.fst) :: own (rAll rTA) 0 ts :: wpP b l p W cst0 []) ?_ ?_
   ·refine .cons (by simp) ?_
    refine Ent.trans (P' := own rC c (cmC i ai 0) :: own (rAll rCM) 0 cms :: own (rR ptC 1) s' (ts.map Prod.fst) :: own (rAll rTA) 0 ts :: wpP b l p W cst0 []) (.cons rfl (.cons rfl (.cons rfl (.cons rfl .refl)))) .refl
   ·exact .cons rfl (Ent.snoc1 (.cons rfl (.cons rfl .refl)))
 ·rintro ⟨sc, cms⟩ ⟨h1, h3⟩
  simp only at h1 h3
  refine go ?_
  have hC : cms.map Prod.fst = cms.map Prod.fst := rfl
  have key : ∀ (j c : Nat) (i : Int) (a : Nat) (ph : Int) (t : Nat × (TrS × Ac)), cms[j]? = some (c, i, a, ph) → ts[j]? = some t → i = j ∧ a = t.1 ∧ ph = 0 := fun j c i a ph t e1 e2 => by
   have hj := (List.getElem?_eq_some_iff.1 e1).1
   obtain ⟨c', q⟩ := h3 j t (by omega) e2
   rw [e1] at q
   cases q
   exact ⟨rfl, rfl, rfl⟩
  have hdi : DI ts cst0 cms [] none 0 := by
   refine ⟨fun e he => (by cases he), Nat.le_refl _, rfl, fun j c i a ph t e1 e2 e3 => ?_, fun j c i a ph t e1 e2 => ?_, fun j b e => (by cases e), fun _ => ?_⟩
   ·have := (key j c i a ph t e1 e2).2.2
    omega
   ·have := (key j c i a ph t e1 e2).2.2
    exact ⟨fun q => (by omega), fun q => (by omega)⟩
   ·show dkS (natL 0) = _
    unfold dsk
    rw [base0]
  have hli : LI ts (cms.map Prod.fst) cst0 cms 0 := by
   refine ⟨⟨h1, rfl, fun j c i a ph t e1 e2 => ?_, cst0_inv.le (by omega) (by omega)⟩, .new, rfl, fun j c i a ph t e1 e2 e3 _ => ?_⟩
   ·obtain ⟨q1, q2, q3⟩ := key j c i a ph t e1 e2
    exact ⟨q1, q2, by omega, by omega⟩
   ·have := (key j c i a ph t e1 e2).2.2
    omega
  clear h3 hC key
  refine Wp.row (s := sc) fun qc => ?_
  have hcl := qc.len
  rw [List.length_map] at hcl
  simp only at hcl
  generalize hC0 : cms.map Prod.fst = C0 at hli
  let L : CSt × List (Nat × (Int × Nat × Int)) → List HP := fun x => own (rR ptC 1) sc C0 :: own (rAll rCM) 0 x.2 :: own (rR ptC 1) s' (ts.map Prod.fst) :: own (rAll rTA) 0 ts :: wpP b l p W x.1 []
  refine Wp.forL (σ := CSt × List (Nat × (Int × Nat × Int))) steps.length (by omega) (by omega) (fun x i => [I i]) (out := fun x => []) (fun _ _ => rfl)
   (fun i x => LI ts C0 x.1 x.2 i ∧ ∃ L cur, DI ts x.1 x.2 L cur i) (fun i x => L x) (cst0, cms) ?_ ⟨hli, [], none, hdi⟩ ?_ ?_ ?_
  ·rfl
  ·exact .cons rfl (.cons rfl (.cons rfl (.cons rfl .refl)))
  ·rintro i ⟨st, cms⟩ hi ⟨hm, L0, cur, hd⟩
   simp only at hm hd
   obtain ⟨z, hz⟩ : ∃ z, steps[i]? = some z := ⟨_, List.getElem?_eq_getElem hi⟩
   refine Wp.ixRoC (x := z) (k := 0) rfl hz rfl fun _ _ => ?_
   obtain ⟨j, hj, ej⟩ := rem_ok (x := z) (k := s.len) (by omega) (by omega)
   obtain ⟨⟨a, y, A⟩, ht⟩ : ∃ e, ts[j]? = some e := ⟨_, List.getElem?_eq_getElem (by omega)⟩
   obtain ⟨⟨c, ij, aj, ph⟩, hcj⟩ : ∃ e, cms[j]? = some e := ⟨_, List.getElem?_eq_getElem (by rw [hm.mi.n]; omega)⟩
   obtain ⟨e1, e2, e3⟩ := hm.mi.e j _ _ _ _ _ hcj ht
   simp only at e2
   subst e1 e2
   have hCj : C0[j]? = some c := by rw [← hm.mi.c, List.getElem?_map, hcj]; rfl
   obtain ⟨x, hx, hyw, hTE, hA0, hyt⟩ := hall j _ ht
   simp only at hyw hTE hA0 hyt
   have hA : A.o.length + A.l.length ≤ 2 := by rw [hA0]; exact acOf_len x
   refine go ⟨?_, ?_⟩
   ·rw [u64_mod]
    first
     | omega
     | (simp; omega)
   rw [ej]
   refine Wp.ixC0 (s := sc) (j := j) (x := c) rfl hCj rfl fun _ _ => ?_
   refine go ?_
   refine Wp.ent (P' := own (rAll rTA) 0 ts :: own (rAll rCM) 0 cms :: wpP b l p W st (own (rR ptC 1) sc C0 :: own (rR ptC 1) s' (ts.map Prod.fst) :: []))
    (.cons rfl (.cons rfl (.cons rfl (.cons rfl (.cons rfl (.cons rfl (.cons rfl (.cons rfl (.cons rfl (.cons rfl (.cons rfl .refl))))))))))) ?_
   refine mstep_v (n := n + 2) hm.mi hcj ht hTE hA (by omega) (by omega) hyw ?_
   have hm2 := hm.step hcj ht hTE hA (by omega) (by omega)
   have hd2 := hd.step hm hcj ht hTE (by omega)
   generalize stepS y.t A j ph st = R at hm2 hd2
   obtain ⟨er, ph2, st2⟩ := R
   simp only at hm2 hd2
   generalize hcms2 : cms.set j (c, (j : Int), aj, ph2) = cms2 at hm2 hd2
   refine Wp.ent (P' := L (st2, cms2)) (.cons rfl (.cons rfl (.cons rfl (.cons rfl .refl)))) ?_
   refine go ?_
   exact ⟨(st2, cms2), rfl, ⟨hm2, hd2⟩, .refl⟩
  rintro ⟨st, cms⟩ ⟨hm, L0, cur, hd⟩
  simp only at hm hd
  have hve := hm.ve
  have h23 := thC_len hve.e.p.ok
  refine go ?_
  refine things_v (w := { W with b := st.b, f := st.f }) (v := st.v) rfl hve.e.p.ok ?_
  refine go ⟨by rw [h23]; rfl, by rw [h23]; rfl, ?_⟩
  rw [putN_all (by rw [h23]; rfl)]
  refine Wp.gxN (vs := thC st.v) (by omega) (by rw [List.drop_zero, List.take_of_length_le (by omega)]) ?_
  refine go ⟨by rw [h23]; rfl, by rw [h23]; rfl, ?_⟩
  rw [putN_all (by rw [h23]; rfl)]
  obtain ⟨N, hN⟩ : ∃ N : List HV, N.length = 23 ∧ (cur = none → N = thC st.v) ∧ ∀ j b, cur = some (j, b) → ∀ t : Nat × (TrS × Ac), ts[j]? = some t → N = thC (landT st.v t.2.1.t) := by
   cases hc : cur with
   | none => exact ⟨thC st.v, h23, fun _ => rfl, fun j b e => (nomatch e)⟩
   | some z =>
    obtain ⟨j, b⟩ := z
    obtain ⟨c', i', a', t', e1, e2, _⟩ := hd.h2 j b hc
    obtain ⟨x, hx, hyw, hTE, hA0, hyt⟩ := hall j _ e2
    refine ⟨thC (landT st.v t'.2.1.t), thC_len (hve.land hTE).e.p.ok, fun e => (nomatch e), fun j b e t et => ?_⟩
    cases e
    rw [e2] at et
    cases et
    rfl
  refine Wp.forL (σ := List HV) ts.length (by omega) (by simp only; omega) (fun x i => [I i, .agg x]) (out := fun x => [.agg x]) (fun _ _ => rfl)
   (fun i x => (∀ j b, cur = some (j, b) → j < i → x = N) ∧ ((∀ j b, cur = some (j, b) → i ≤ j) → x = thC st.v)) (fun i x => L (st, cms)) (thC st.v) rfl ⟨fun j b e q => by omega, fun _ => rfl⟩ .refl ?_ ?_
  ·rintro i y hi ⟨g1, g2⟩
   have hyl : y.length = 23 := by
    by_cases q : ∀ j b, cur = some (j, b) → i ≤ j
    ·rw [g2 q, h23]
    ·obtain ⟨j, q⟩ := Classical.not_forall.1 q
     obtain ⟨b, q⟩ := Classical.not_forall.1 q
     obtain ⟨q1, q2⟩ := Classical.not_imp.1 q
     rw [g1 j b q1 (by omega)]; exact hN.1
   obtain ⟨⟨a, yt, A⟩, ht⟩ : ∃ e, ts[i]? = some e := ⟨_, List.getElem?_eq_getElem hi⟩
   obtain ⟨⟨c, ij, aj, ph⟩, hcj⟩ : ∃ e, cms[i]? = some e := ⟨_, List.getElem?_eq_getElem (by rw [hm.mi.n]; omega)⟩
   obtain ⟨e1, e2, e3⟩ := hm.mi.e i _ _ _ _ _ hcj ht
   simp only at e2
   subst e1 e2
   have hCj : C0[i]? = some c := by rw [← hm.mi.c, List.getElem?_map, hcj]; rfl
   obtain ⟨x, hx, hyw, hTE, hA0, hyt⟩ := hall i _ ht
   simp only at hyw hTE hA0 hyt
   have hxm : x ∈ xs := List.mem_of_getElem? hx
   have hxr := hr x hxm
   have hlx := hxr.len
   have hl20 := hc.2.1 x hxm
   have hlk := hm.lk i c i aj ph _ hcj ht
   have hh1 := hd.h1 i c i aj ph _ hcj ht
   have hh2 : ∀ b, cur = some (i, b) → yt.t.df ≠ [] ∧ ph = if b then 3 else 2 := fun b e => by
    obtain ⟨c', i', a', t', e1, e2, e4, _⟩ := hd.h2 i b e
    rw [hcj] at e1
    rw [ht] at e2
    cases e2
    simp only [Option.some.injEq, Prod.mk.injEq] at e1
    exact ⟨e4, e1.2.2.2⟩
   simp only at hh1
   refine Wp.blk (Wp.mono (Q' := fun lf P' => ∃ y' : List HV, lf = .norm [.agg y'] ∧ ((∃ b, cur = some (i, b)) → y' = N) ∧ ((∀ b, cur ≠ some (i, b)) → y' = y) ∧ P' = L (st, cms)) (Wp.cl ?_) ?_)
   ·refine Wp.ixC0 (s := sc) (j := i) (x := c) rfl hCj rfl fun _ _ => ?_
    refine go ?_
    refine mphase_v hcj ?_
    refine Wp.jn (Wp.mono (Q' := fun lf P' => ∃ bb : Bool, lf = .norm [.bool bb] ∧ (bb = true ↔ ph = 2 ∨ ph = 3 ∧ 0 < (ls x).length) ∧ P' = L (st, cms)) (Wp.cl ?_) ?_)
    ·refine go ⟨fun c5 => ?_, fun c5 => ⟨fun c6 => ?_, fun c6 => ?_⟩⟩
     ·exact Wp.ret ⟨_, ⟨true, rfl, by simp [c5], rfl⟩, .refl⟩
     ·refine Wp.ixRoC (x := x) (k := 0) rfl hx rfl fun _ _ => ?_
      refine go ?_
      exact Wp.ret ⟨_, ⟨_, rfl, by simp [c6]; omega, rfl⟩, .refl⟩
     ·exact Wp.ret ⟨_, ⟨false, rfl, by simp [c5, c6], rfl⟩, .refl⟩
    rintro lf P' ⟨bb, rfl, hbb, rfl⟩
    refine go ⟨fun c5 => ?_, fun c5 => ?_⟩
    ·have hph : ph = 2 ∨ ph = 3 ∧ 0 < (ls x).length := hbb.1 c5
     have hval := (hlk (by omega) (by omega)).2
     simp only at hval
     refine Wp.ixC0 (s := s') (j := i) (x := aj) rfl (by rw [List.getElem?_map, ht]; rfl) rfl fun _ _ => ?_
     refine go ?_
     refine mwrites_v ht ?_
     refine go ⟨fun c7 => ?_, fun c7 => ?_⟩
     ·have hdf : yt.t.df ≠ [] := fun q => by rw [q] at c7; simp at c7
      have hcur : ∃ b, cur = some (i, b) := by
       rcases hph with q | q
       ·exact ⟨_, hh1.1 q⟩
       ·exact ⟨_, hh1.2 q.1 hdf⟩
      have hNi : N = thC (landT st.v yt.t) := by
       obtain ⟨b, e⟩ := hcur
       exact hN.2.2 i b e _ ht
      refine Wp.ixRoC (x := x) (k := 0) rfl hx rfl fun _ _ => ?_
      refine Wp.nil deC (sz := 4) (by decide) ?_
      refine go ?_
      refine Wp.forL (σ := Sl) (ls x).length (by omega) (by omega) (fun q i => [.sl q, I i]) (out := fun q => [.sl q]) (fun _ _ => rfl) (fun _ _ => True)
       (fun i q => own (rR deC 4) q (((ls x).take i).filter fun d => decide (goodD d)) :: L (st, cms)) ⟨none, 0, 0, none⟩ rfl trivial .refl ?_ ?_
      ·intro i q hi _
       obtain ⟨d, hd⟩ : ∃ d, (ls x)[i]? = some d := ⟨_, List.getElem?_eq_getElem hi⟩
       have hfl : (((ls x).take i).filter fun d => decide (goodD d)).length ≤ 20 := Nat.le_trans (List.length_filter_le _ _) (by simp; omega)
       have hsn : ((ls x).take (i + 1)).filter (fun d => decide (goodD d)) = (((ls x).take i).filter fun d => decide (goodD d)) ++ (if goodD d then [d] else []) := by
        rw [List.take_add_one, hd, List.filter_append]
        congr 1
        by_cases q : goodD d
        ·rw [if_pos q]; simp [q]
        ·rw [if_neg q]; simp [q]
       refine Wp.blk ?_
       refine Wp.ixRo (x := d) rfl hd fun _ _ => ?_
       refine go (ref20_Good_v ?_)
       refine go ⟨fun c6 => ?_, fun c6 => ?_⟩
       ·refine Wp.apd (x := d) (f := deC) rfl rfl (by omega) (by omega) fun s2 => ?_
        refine go ?_
        exact ⟨s2, rfl, trivial, .cons (by rw [hsn, if_pos c6]) .refl⟩
       ·exact ⟨q, rfl, trivial, .cons (by rw [hsn, if_neg c6, List.append_nil]) .refl⟩
      ·intro q _
       rw [List.take_length]
       have hdone : tgV (landT st.v yt.t) = doRs vw0.texts (tgV st.v) (ls x) := by
        rw [hyt]
        exact hm.ve.done (by rw [← hyt]; exact hval)
       have hth2 : N = tgL (doRs vw0.texts (tgV st.v) (ls x)) (doRs vw0.texts (tgV st.v) (ls x)).files := by rw [hNi, thC_tgL, hdone]
       refine go ?_
       refine Wp.gxN (vs := tgL (tgV st.v) (tgV st.v).files) (by show 0 + 23 ≤ (thC st.v).length; omega) (by show ((thC st.v).drop 0).take 23 = _; rw [List.drop_zero, List.take_of_length_le (by omega), thC_tgL]) ?_
       refine go ?_
       refine ref20_Do_v (t := tgV st.v) (tx := vw0.texts) (gl := (ls x).filter fun d => decide (goodD d)) hm.ve.tgOk (fun d hd => by simpa using (List.mem_filter.1 hd).2) (Nat.le_trans (List.length_filter_le _ _) (by omega)) VwE.new.t fun v => ?_
       rw [show ((ls x).filter fun d => decide (goodD d)).foldl (doR vw0.texts) (tgV st.v) = doRs vw0.texts (tgV st.v) (ls x) from rfl, ← hth2]
       refine go ⟨by rw [hN.1]; rfl, by show Nat.ble (0 + N.length) y.length = true; rw [hN.1, hyl]; rfl, ?_⟩
       rw [putN_all (by rw [hN.1, hyl])]
       exact Wp.ret ⟨_, ⟨N, rfl, fun _ => rfl, fun k => absurd hcur (fun ⟨b, e⟩ => k b e), rfl⟩, .weak .refl⟩
     ·have hdf : yt.t.df = [] := by
       cases hq : yt.t.df with
       | nil => rfl
       | cons z zs => rw [hq] at c7; simp at c7
      exact Wp.ret ⟨_, ⟨y, rfl, fun ⟨b, e⟩ => absurd hdf (hh2 b e).1, fun _ => rfl, rfl⟩, .refl⟩
    ·have hnc : ∀ b, cur ≠ some (i, b) := fun b e => by
      obtain ⟨q1, q2⟩ := hh2 b e
      have hls : 0 < (ls x).length := by
       cases hq : ls x with
       | nil => rw [hyt, hq] at q1; exact absurd rfl q1
       | cons z zs => simp
      have : bb = true := hbb.2 (by cases b <;> simp at q2 <;> omega)
      rw [this] at c5
      cases c5
     exact Wp.ret ⟨_, ⟨y, rfl, fun ⟨b, e⟩ => absurd e (hnc b), fun _ => rfl, rfl⟩, .refl⟩
   ·rintro lf P' ⟨y', rfl, k1, k2, rfl⟩
    refine go ?_
    refine ⟨y', rfl, ⟨fun j b e hj => ?_, fun hj => ?_⟩, .refl⟩
    ·by_cases q : j = i
     ·subst q
      exact k1 ⟨b, e⟩
     ·rw [k2 (fun b' e' => by rw [e] at e'; cases e'; exact q rfl)]
      exact g1 j b e (by omega)
    ·rw [k2 (fun b' e' => by have := hj i b' e'; omega)]
     exact g2 fun j b e => by have := hj j b e; omega
  ·rintro y ⟨g1, g2⟩
   have hy : y = N := by
    cases hc : cur with
    | none =>
     rw [hN.2.1 hc]
     exact g2 fun j b e => by rw [hc] at e; cases e
    | some z =>
     obtain ⟨j, b⟩ := z
     obtain ⟨c', i', a', t', e1, e2, _⟩ := hd.h2 j b hc
     exact g1 j b hc (List.getElem?_eq_some_iff.1 e2).1
   subst hy
   obtain ⟨L', tail, k1, k2, k3, k4, k5, k6⟩ := hd.crash (keep := keep) (part := part) hm (by omega) fun j t e => (hall j t e).choose_spec.2.2.1
   have hf6 : (replayF fs0 L').length = 6 := by rw [replayF_len]; rfl
   have ok2 : VOk { vw0 with files := replayF fs0 L' } := ⟨rfl, hf6, rfl, rfl⟩
   refine go ?_
   refine disk_Crash_v (d := st.D) hm.mi.k.D ?_
   rw [k1]
   refine go ?_
   refine world_Open_1 (n := n) (ep := 1) (d := ⟨[], [], base L' ++ tail, base L' ++ tail, []⟩) (tail := tail) (l := L') ⟨?_, ?_, by simp, fun c hc => (by simp at hc), fun a => rfl⟩ (by simp) rfl rfl k2 (by show (base L' ++ tail).length ≤ _; omega) k4 (by omega) (by decide) (by decide) fun b2 vw2 wi2 tk2 va2 => ?_
   ·intro a
    by_cases q : a = 0
    ·subst q; exact Nat.zero_le _
    ·show (if a = 0 then ([] : Bs) else base L' ++ tail).length ≤ _
     rw [if_neg q]; exact k3
   ·intro a
    by_cases q : a = 0
    ·subst q; exact Nat.zero_le _
    ·show (if a = 0 then ([] : Bs) else base L' ++ tail).length ≤ _
     rw [if_neg q]; exact k3
   refine go ?_
   refine things_v (w := ⟨vw2, wi2, tk2, p, va2, 0, 0, 0, 0, [], lastN L', 0⟩) (v := { vw0 with files := replayF fs0 L' }) rfl ok2 ?_
   have h23' := thC_len ok2
   refine go ?_
   refine Wp.gxN (vs := fC (replayF fs0 L')) (by omega) (thC_fC ok2) ?_
   have h12 := fC_len hf6
   refine go ⟨by rw [h12]; rfl, by rw [h12]; rfl, ?_⟩
   rw [putN_all (l := [.bool false, .str (ByteArray.mk #[]), .bool false, .str (ByteArray.mk #[]), .bool false, .str (ByteArray.mk #[]), .bool false, .str (ByteArray.mk #[]), .bool false, .str (ByteArray.mk #[]), .bool false, .str (ByteArray.mk #[])]) (by rw [h12]; rfl)]
   refine Wp.gxN (vs := fC (replayF fs0 L')) (by omega) (by rw [List.drop_zero, List.take_of_length_le (by omega)]) ?_
   refine Wp.gxN (vs := fC st.v.files) (by omega) (thC_fC hve.e.p.ok) ?_
   rcases k6 with q | ⟨j, b, t, q1, q2, q⟩
   ·rw [fC_fst q]
    refine Wp.eqM (b := true) (eqSh_fC0 hve.e.p.ok.f) ?_
    exact go rfl
   ·have hTE : TE t.2.1.t := (hall j t q2).choose_spec.2.2.1
    have okl := (hve.land hTE).e.p.ok
    obtain ⟨b1, hb1⟩ := eqSh_fC1 hf6 hve.e.p.ok.f
    refine Wp.eqM (b := b1) hb1 ?_
    cases b1 with
    | true => exact go rfl
    | false =>
     refine go ?_
     refine Wp.gxN (vs := fC (replayF fs0 L')) (by omega) (by rw [List.drop_zero, List.take_of_length_le (by omega)]) ?_
     rw [hN.2.2 j b q1 t q2]
     refine Wp.gxN (vs := fC (landT st.v t.2.1.t).files) (by rw [thC_len okl]; decide) (thC_fC okl) ?_
     rw [fC_fst q]
     refine Wp.eqM (b := true) (eqSh_fC0 okl.f) ?_
     exact go rfl
end
end Go.Proofs.YtbphjihgbenkdaaGreat.HQ
