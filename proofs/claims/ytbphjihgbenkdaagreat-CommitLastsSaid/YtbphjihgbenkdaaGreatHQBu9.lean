/- Lemmas for the row. Conditions: none. -/
import Derived.Test.YtbphjihgbenkdaaGreatHQBu5
namespace Go.Proofs.YtbphjihgbenkdaaGreat.HQ
set_option linter.unusedVariables false
set_option linter.unusedSectionVars false
set_option linter.unusedSimpArgs false
open Go
abbrev sxC (l : Bs) : List HV := [.str (S l)]
section
variable {H0 : Heap} {P F F' : List HP} {Q : HV → List HP → Prop} {D : HV → List HV → M HV}
theorem stylus_NatB_v {p b k : Nat} {bs : Bs} {cs : List HV} [fd : Fnd P rSty p bs F] [fb : Fnd F rC b cs F'] (xs : List Nat) (hc : cs = (xs.map inC).flatten) (hk : k = xs.length) (hl : (bs ++ (xs.map natL).flatten).length ≤ 1000000) (hx : xs.length ≤ 1000000) (h : Q (.tup []) (own rSty p (bs ++ (xs.map natL).flatten) :: F')) :
  Wp H0 P (f_stylus_Stylus_Nat D [.ptr (some (p, 0)), .sl ⟨some (b, 0), k, k, none⟩]) Q := by
 subst hk
 refine Wp.cl (Wp.two fd fb ?_)
 refine Wp.ent (Ent.row (P := own rSty p bs :: own rC b cs :: F') (b := b) (f := inC) (sz := 1) (xs := xs) (o := none) hc (fun _ _ => rfl) (by decide) (by omega) (.inl rfl)) ?_
 refine stylus_Nat_v (bs := bs) (xs := xs) hl hx ?_
 exact ⟨_, h, .cons rfl (.weak .refl)⟩
theorem stylus_TextB_v {p b : Nat} {bs l : Bs} [fd : Fnd P rSty p bs F] [fb : Fnd F rC b [.str (S l)] F'] (hl : (bs ++ (natL l.length ++ l)).length ≤ 1000000) (h : Q (.tup []) (own rSty p (bs ++ (natL l.length ++ l)) :: F')) :
  Wp H0 P (f_stylus_Stylus_Text D [.ptr (some (p, 0)), .sl ⟨some (b, 0), 1, 1, none⟩]) Q := by
 refine Wp.cl (Wp.two fd fb ?_)
 have hsz := S_size l
 simp only [List.length_append] at hl
 refine Wp.ent (Ent.row (P := own rSty p bs :: own rC b [.str (S l)] :: F') (b := b) (f := sxC) (sz := 1) (xs := [l]) (o := none) rfl (fun _ _ => rfl) (by decide) (by simp) (.inl rfl)) ?_
 unfold f_stylus_Stylus_Text
 refine go ?_
 refine Wp.forL (σ := Unit) 1 (by decide) rfl (fun _ i => [I i]) (out := fun _ => []) (fun _ _ => rfl) (fun _ _ => True)
  (fun i _ => own (rR sxC 1) ⟨some (b, 0), 1, 1, none⟩ [l] :: own rSty p (if i = 0 then bs else bs ++ (natL l.length ++ l)) :: F') () rfl trivial .refl ?_ ?_
 ·intro i _ hi _
  have hi0 : i = 0 := by omega
  subst hi0
  rw [if_pos rfl]
  refine Wp.ixC0 (v := .str (S l)) (j := 0) rfl rfl rfl fun _ _ => ?_
  refine go fun b15 => ?_
  rw [hsz]
  refine stylus_NatB_v [l.length] rfl rfl (by simp; omega) (by simp) ?_
  refine go (stylus_Raw_v (by simp; omega) ?_)
  refine go ?_
  refine ⟨(), rfl, trivial, .pick (.cons (by simp) .refl)⟩
 ·intro _ _
  refine go ?_
  exact ⟨_, h, .cons rfl (.weak .refl)⟩
end
def redoE (e : Int × Fl) : Bs := natL e.1.toNat ++ (if e.2.1 = true then natL 1 ++ (natL e.2.2.length ++ e.2.2) else natL 0)
def redoL (n : Nat) (df : List (Int × Fl)) : Bs := natL n ++ (df.map redoE).flatten
theorem redoE_len {e : Int × Fl} (h : e.1 < 8) (h2 : e.2.2.length ≤ 32) : (redoE e).length ≤ 35 := by
 unfold redoE
 have e0 : natL e.1.toNat = [UInt8.ofNat e.1.toNat] := natL_lo (by omega)
 have e1 : natL 1 = [UInt8.ofNat 1] := natL_lo (by decide)
 have e2 : natL 0 = [UInt8.ofNat 0] := natL_lo (by decide)
 have e3 : natL e.2.2.length = [UInt8.ofNat e.2.2.length] := natL_lo (by omega)
 rw [e0, e1, e2, e3]
 split
 ·simp; omega
 ·simp
theorem natL_len : ∀ (k n : Nat), n < 128 ^ (k + 1) → (natL n).length ≤ k + 1
 | 0, n, h => by rw [natL_lo (by omega)]; simp
 | k + 1, n, h => by
  by_cases c : n < 128
  ·rw [natL_lo c]; simp
  ·rw [natL_hi c]
   have : n / 128 < 128 ^ (k + 1) := by
    rw [Nat.div_lt_iff_lt_mul (by decide)]
    rw [Nat.pow_succ] at h; exact h
   have := natL_len k (n / 128) this
   simp; omega
theorem flat_le {l : List (Int × Fl)} (h : ∀ e ∈ l, (redoE e).length ≤ 35) : ((l.map redoE).flatten).length ≤ l.length * 35 := by
 induction l with
 | nil => simp
 | cons e l ih =>
  have h1 := h e List.mem_cons_self
  have h2 := ih fun x hx => h x (List.mem_cons_of_mem _ hx)
  simp only [List.map_cons, List.flatten_cons, List.length_append, List.length_cons]
  omega
theorem redoL_len {n : Nat} {df : List (Int × Fl)} (ok : DfOk df) (hg : ∀ e ∈ df, goodF e.2) (hn : n < 128 ^ 7) : (redoL n df).length ≤ 287 := by
 have h1 := natL_len 6 n hn
 have h2 := flat_le (l := df) fun e he => redoE_len (ok.i e he).2 (hg e he).1
 have h3 := Rise.len ok.r (fun e he => ok.i e he) (by decide)
 unfold redoL
 rw [List.length_append]
 omega
class SeaRedo [Sea] : Prop where
 ro : lkA Sea.rn 89324821 = some r0_redo_Bytes
section
variable {H0 : Heap} {P F F' : List HP} {Q : HV → List HP → Prop} [Sea] [SeaLand] [SeaRedo] {n : Nat}
theorem redo_Bytes_v {p m : Nat} {df : List (Int × Fl)} [fd : Fnd P (rDraft eDF dfC 3) p df F] (ok : DfOk df) (hg : ∀ e ∈ df, goodF e.2) (hm : m < 128 ^ 7) (h : Q (.str (S (redoL m df))) P) : Wp H0 P (f_redo_Bytes (lv (n + 2)) [I m, .ptr (some (p, 0))]) Q := by
 refine Wp.cl ?_
 refine Wp.ent (P' := own (rDraft eDF dfC 3) p df :: F) (.cons rfl .refl) ?_
 have hdl := ok.le
 have hml := natL_len 6 m hm
 have hlen := redoL_len ok hg hm
 unfold redoL at hlen h
 rw [List.length_append] at hlen
 unfold f_redo_Bytes
 refine Wp.nil byC (sz := 1) (by decide) ?_
 refine go fun b9 b5 b12 => ?_
 refine Wp.ent (P' := own rSty b9 [] :: own rC b12 [I m] :: own rC b5 [.ptr (some (b9, 0))] :: own (rDraft eDF dfC 3) p df :: F) (.fold (⟨none, 0, 0, none⟩ : Sl) (.inl rfl) (.cons rfl (.cons rfl (.cons rfl (.cons rfl (.cons rfl .refl)))))) ?_
 refine stylus_NatB_v [m] rfl rfl (by simp; omega) (by simp) ?_
 refine go ?_
 unfold f_draft_Draft_file_File_All
 refine go fun b1 => ?_
 refine go fun lp => ?_
 rw [lv_succ]
 refine Wp.clo SeaLand.af ?_
 show Wp H0 _ (f_draft_Draft_file_File_All_1 (lv (n + 1)) [.yld lp, .ptr (some (b1, 0))]) _
 refine draft_All_1_file_File_v (σ := Unit) (l := df) (p := p) (fun _ _ => True) (fun _ _ => False)
  (fun i _ => own rX lp (.loop 89324821 [(5, .ptr (some (b5, 0)))] .ready none) :: own rC b5 [.ptr (some (b9, 0))] :: own rSty b9 (natL m ++ ((df.take i).map redoE).flatten) :: F)
  (fun _ _ => []) () (by omega) trivial (.cons rfl (.cons rfl (.cons (by simp) .refl))) ?_ ?_ ?_
 ·intro A B C i e k he _
  have hmem := List.mem_of_getElem? he
  have hei := ok.i e hmem
  have hge := (hg e hmem).1
  have hel := redoE_len hei.2 hge
  have htk : (df.take (i + 1)).map redoE = (df.take i).map redoE ++ [redoE e] := by rw [List.take_add_one, he]; simp
  have hle : (((df.take i).map redoE).flatten).length ≤ df.length * 35 := by
   have := flat_le (l := df.take i) fun e he => redoE_len (ok.i e (List.mem_of_mem_take he)).2 (hg e (List.mem_of_mem_take he)).1
   have h2 : (df.take i).length ≤ df.length := by simp; omega
   have := Nat.mul_le_mul_right 35 h2
   omega
  have hc : I e.1 = I (e.1.toNat : Int) := by rw [Int.toNat_of_nonneg hei.1]
  rw [lv_succ]
  refine Wp.rnd (l := lp) SeaRedo.ro ?_
  unfold r0_redo_Bytes
  refine go ⟨fun c b22 => ?_, fun c b31 => ?_⟩
  ·have er : redoE e = natL e.1.toNat ++ (natL 1 ++ (natL e.2.2.length ++ e.2.2)) := by unfold redoE; rw [if_pos c]
   rw [er] at hel
   simp only [List.length_append] at hel
   refine stylus_NatB_v [e.1.toNat, 1] (by rw [hc]; rfl) rfl (by simp only [List.map_cons, List.map_nil, List.flatten_cons, List.flatten_nil, List.length_append, List.length_nil]; omega) (by simp) ?_
   refine go fun b27 => ?_
   refine stylus_TextB_v (by simp only [List.map_cons, List.map_nil, List.flatten_cons, List.flatten_nil, List.length_append, List.length_nil]; omega) ?_
   refine go ?_
   exact .inl ⟨rfl, (), trivial, .pick (.pick (.pick (.cons rfl (.cons rfl (.cons (by rw [htk, List.flatten_append, er]; simp) .refl)))))⟩
  ·have er : redoE e = natL e.1.toNat ++ natL 0 := by unfold redoE; rw [if_neg (by simp [c])]
   rw [er] at hel
   simp only [List.length_append] at hel
   refine stylus_NatB_v [e.1.toNat, 0] (by rw [hc]; rfl) rfl (by simp only [List.map_cons, List.map_nil, List.flatten_cons, List.flatten_nil, List.length_append, List.length_nil]; omega) (by simp) ?_
   refine go ?_
   exact .inl ⟨rfl, (), trivial, .pick (.pick (.pick (.cons rfl (.cons rfl (.cons (by rw [htk, List.flatten_append, er]; simp) .refl)))))⟩
 ·intro k _
  rw [List.take_length]
  refine go (stylus_Bytes_v ?_)
  refine go ?_
  exact ⟨_, h, .back (rDraft eDF dfC 3) p (.cons rfl (Ent.weak (Ent.weak (Ent.weak (Ent.weak .refl)))))⟩
 ·intro i e k _ q
  exact q.elim
end
structure Wd where
 v : Nat
 w : Nat
 t : Nat
 d : Nat
 a : Nat
 t0 : Int
 t1 : Int
 t2 : Int
 t3 : Int
 ns : List (Int × Int)
 b : Nat
 f : Int
abbrev wdC (w : Wd) (s : Sl) : List HV := [.ptr (some (w.v, 0)), .ptr (some (w.w, 0)), .ptr (some (w.t, 0)), .ptr (some (w.d, 0)), .ptr (some (w.a, 0)), I w.t0, I w.t1, I w.t2, I w.t3, .sl s, I w.b, I w.f]
abbrev ntC (x : Int × Int) : List HV := [I x.1, I x.2]
def rWd (p : Nat) (w : Wd) : HP := fun h => ∃ s : Sl, Al [own rC p (wdC w s), own (rR ntC 2) s w.ns] h
instance {p : Nat} {w : Wd} : Opn rWd p w Sl (fun _ => True) (fun s F => own rC p (wdC w s) :: own (rR ntC 2) s w.ns :: F) :=
 ⟨fun _ => ⟨fun ⟨s, h⟩ => ⟨s, trivial, h⟩, fun ⟨s, _, h⟩ => ⟨s, h⟩⟩, fun _ _ => rfl⟩
def Wd.add1 (w : Wd) (o : Int × Int) : Wd :=
 if o.1 = 0 then { w with t0 := wr (w.t0 + o.2) } else if o.1 = 1 then { w with t1 := wr (w.t1 + o.2) } else if o.1 = 2 then { w with t2 := wr (w.t2 + o.2) } else if o.1 = 3 then { w with t3 := wr (w.t3 + o.2) } else w
def Wd.add (w : Wd) (l : List (Int × Int)) : Wd := l.foldl Wd.add1 w
abbrev opC (o : Int × Int) : List HV := [I o.1, I o.2]
section
variable {H0 : Heap} {P F F1 F2 F3 F4 : List HP} {Q : HV → List HP → Prop} {D : HV → List HV → M HV}
theorem world_View_v {p : Nat} {w : Wd} [fw : Fnd P rWd p w F] (h : Q (.ptr (some (w.v, 0))) P) : Wp H0 P (f_world_World_View D [.ptr (some (p, 0))]) Q := by
 refine Wp.cl ?_
 unfold f_world_World_View
 refine Wp.open rWd p fun s _ => ?_
 exact go ⟨_, h, .back rWd p (.fold s trivial .refl)⟩
theorem world_Token_v {p : Nat} {w : Wd} [fw : Fnd P rWd p w F] (h : Q (.ptr (some (w.t, 0))) P) : Wp H0 P (f_world_World_Token D [.ptr (some (p, 0))]) Q := by
 refine Wp.cl ?_
 unfold f_world_World_Token
 refine Wp.open rWd p fun s _ => ?_
 exact go ⟨_, h, .back rWd p (.fold s trivial .refl)⟩
theorem world_Blocks_v {p : Nat} {w : Wd} [fw : Fnd P rWd p w F] (h : Q (I w.b) P) : Wp H0 P (f_world_World_Blocks D [.ptr (some (p, 0))]) Q := by
 refine Wp.cl ?_
 unfold f_world_World_Blocks
 refine Wp.open rWd p fun s _ => ?_
 exact go ⟨_, h, .back rWd p (.fold s trivial .refl)⟩
theorem world_Done_v {p : Nat} {w : Wd} [fw : Fnd P rWd p w F] (hb : w.b ≤ 1000000) (h : Q (.tup []) (own rWd p { w with b := w.b + 1 } :: F)) : Wp H0 P (f_world_World_Done D [.ptr (some (p, 0))]) Q := by
 refine Wp.cl ?_
 unfold f_world_World_Done
 refine Wp.open rWd p fun s _ => ?_
 refine go ⟨_, h, .fold s trivial (.cons ?_ (.cons rfl .refl))⟩
 rw [wr_small (by omega) (by omega)]; rfl
theorem world_Force_v {p : Nat} {w : Wd} {va : Va} {l : Lg} {d : Dk} [fw : Fnd P rWd p w F] [fa : Fnd F rC w.a (vaC va) F1] [fl : Fnd F1 rC va.l (lgC l) F2] [fk : Fnd F2 rDisk l.d d F3] (ok : DOk' d)
  (h : Q (.tup []) (own rWd p w :: own rC w.a (vaC va) :: own rC va.l (lgC l) :: own rDisk l.d d.sync :: F3)) : Wp H0 P (f_world_World_Force D [.ptr (some (p, 0))]) Q := by
 refine Wp.cl (Wp.four fw fa fl fk ?_)
 unfold f_world_World_Force
 refine Wp.open rWd p fun s _ => ?_
 refine go (vault_Force_v ok ?_)
 refine go ⟨_, h, .fold s trivial (.cons rfl (.cons rfl (.cons rfl (.cons rfl (.cons rfl .refl)))))⟩
theorem world_Add_v {p : Nat} {w : Wd} {s : Sl} {l : List (Int × Int)} [fw : Fnd P rWd p w F] [fr : FndR F s none (Int × Int) opC 2 l F1] (hl : l.length ≤ 1000000) (h : Q (.tup []) (own rWd p (w.add l) :: F)) : Wp H0 P (f_world_World_Add D [.ptr (some (p, 0)), .sl s]) Q := by
 refine Wp.cl (Wp.ent (P' := own rWd p w :: own (rR opC 2) s l :: F1) ((Ent.perm fw.p).trans (Ent.perm (fr.p.cons _))) ?_)
 unfold f_world_World_Add
 refine Wp.row (s := s) fun hs => ?_
 have hsl := hs.len
 refine go ?_
 refine Wp.forL (σ := Unit) l.length (by omega) (by omega) (fun _ i => [I i]) (out := fun _ => []) (fun _ _ => rfl) (fun _ _ => True)
  (fun i _ => own rWd p (w.add (l.take i)) :: own (rR opC 2) s l :: F1) () rfl trivial .refl ?_ ?_
 ·intro i _ hi _
  have hx : l[i]? = some l[i] := List.getElem?_eq_getElem hi
  generalize l[i] = o at hx
  have htk : w.add (l.take (i + 1)) = (w.add (l.take i)).add1 o := by
   unfold Wd.add
   rw [List.take_add_one, hx, List.foldl_append]; rfl
  generalize w.add (l.take i) = w1 at htk ⊢
  obtain ⟨o1, o2⟩ := o
  refine Wp.blk ?_
  refine Wp.ixN (x := (o1, o2)) rfl hx fun _ _ => ?_
  refine Wp.open rWd p fun s2 _ => ?_
  have no : ¬ (0 ≤ o1 ∧ o1 < 4) → w1.add1 (o1, o2) = w1 := fun c => by
   unfold Wd.add1
   rw [if_neg (by show ¬ o1 = 0; omega), if_neg (by show ¬ o1 = 1; omega), if_neg (by show ¬ o1 = 2; omega), if_neg (by show ¬ o1 = 3; omega)]
  have fin : ∀ w2 : Wd, w1.add1 (o1, o2) = w2 → w2.ns = w1.ns → Ent (own rC p (wdC w2 s2) :: own (rR ntC 2) s2 w1.ns :: own (rR opC 2) s l :: F1) (own rWd p (w.add (l.take (i + 1))) :: own (rR opC 2) s l :: F1) := fun w2 e1 e2 => by
   rw [htk, e1]
   exact .fold s2 trivial (.cons rfl (by rw [e2]; exact .refl))
  refine go ⟨fun c => ⟨fun c2 => ⟨by omega, by omega, ?_⟩, fun c2 => ?_⟩, fun c => ?_⟩
  ·have c2 : o1 < 4 := by simpa using c2
   obtain rfl | rfl | rfl | rfl : o1 = 0 ∨ o1 = 1 ∨ o1 = 2 ∨ o1 = 3 := by omega
   ·refine Wp.ldC (v := I w1.t0) rfl ?_
    refine go ⟨by omega, ?_⟩
    refine Wp.stC (cs' := wdC { w1 with t0 := wr (w1.t0 + o2) } s2) (by simp) rfl rfl ?_
    exact go ⟨(), rfl, trivial, fin _ rfl rfl⟩
   ·refine Wp.ldC (v := I w1.t1) rfl ?_
    refine go ⟨by omega, by omega, ?_⟩
    refine Wp.stC (cs' := wdC { w1 with t1 := wr (w1.t1 + o2) } s2) (by simp) rfl rfl ?_
    exact go ⟨(), rfl, trivial, fin _ rfl rfl⟩
   ·refine Wp.ldC (v := I w1.t2) rfl ?_
    refine go ⟨by omega, by omega, ?_⟩
    refine Wp.stC (cs' := wdC { w1 with t2 := wr (w1.t2 + o2) } s2) (by simp) rfl rfl ?_
    exact go ⟨(), rfl, trivial, fin _ rfl rfl⟩
   ·refine Wp.ldC (v := I w1.t3) rfl ?_
    refine go ⟨by omega, by omega, ?_⟩
    refine Wp.stC (cs' := wdC { w1 with t3 := wr (w1.t3 + o2) } s2) (by simp) rfl rfl ?_
    exact go ⟨(), rfl, trivial, fin _ rfl rfl⟩
  ·have c2 : ¬ o1 < 4 := by simpa using c2
   exact ⟨(), rfl, trivial, fin w1 (no (by omega)) rfl⟩
  ·exact ⟨(), rfl, trivial, fin w1 (no (by omega)) rfl⟩
 ·intro _ _
  rw [List.take_length]
  refine go ?_
  exact ⟨_, h, .cons rfl (Ent.perm fr.p.symm)⟩
end
structure Wi where
 w0 : Bs
 w1 : Bs
 w2 : Bs
abbrev wiC (x : Wi) : List HV := [.str (S x.w0), .str (S []), .str (S []), .str (S x.w1), .str (S []), .str (S []), .str (S x.w2), .str (S []), .str (S [])]
def Wi.push (x : Wi) (k : Int) (b : Bs) : Wi := if k = 0 then { x with w0 := x.w0 ++ b } else if k = 1 then { x with w1 := x.w1 ++ b } else if k = 2 then { x with w2 := x.w2 ++ b } else x
structure WiOk (x : Wi) (n : Nat) : Prop where
 h0 : x.w0.length ≤ n
 h1 : x.w1.length ≤ n
 h2 : x.w2.length ≤ n
theorem WiOk.push {x : Wi} {n : Nat} (h : WiOk x n) {k : Int} {b : Bs} : WiOk (x.push k b) (n + b.length) := by
 obtain ⟨h0, h1, h2⟩ := h
 unfold Wi.push
 split
 ·exact ⟨by simp; omega, by simp; omega, by simp; omega⟩
 ·split
  ·exact ⟨by simp; omega, by simp; omega, by simp; omega⟩
  ·split
   ·exact ⟨by simp; omega, by simp; omega, by simp; omega⟩
   ·exact ⟨by omega, by omega, by omega⟩
abbrev ouC (o : Int × UInt8) : List HV := [I o.1, .int .u8 (o.2.toNat : Int)]
def Wi.send (x : Wi) (l : List (Int × UInt8)) : Wi := l.foldl (fun x o => x.push o.1 [o.2]) x
section
variable {H0 : Heap} {P F F1 F2 F3 F4 F5 : List HP} {Q : HV → List HP → Prop} {D : HV → List HV → M HV}
theorem wire_at_v {p : Nat} {k : Int} (h : Q (.ptr (if 0 ≤ k ∧ k < 3 then some (p, k.toNat * 3) else none)) P) : Wp H0 P (f_wire_Wire_at D [.ptr (some (p, 0)), I k]) Q := by
 unfold f_wire_Wire_at
 refine go ⟨fun c => ?_, fun c => ⟨fun c2 => ?_, fun c2 => ⟨by omega, ?_, ?_⟩⟩⟩
 ·rw [if_neg (by omega)] at h; exact h
 ·have c2 : k ≥ 3 := by simpa using c2
  rw [if_neg (by omega)] at h; exact h
 ·have c2 : ¬ k ≥ 3 := by simpa using c2
  omega
 ·have c2 : ¬ k ≥ 3 := by simpa using c2
  rw [if_pos (by omega)] at h
  rw [Nat.zero_add]; exact h
theorem wire_Push_v {p n : Nat} {x : Wi} {k : Int} {b : Bs} [fw : Fnd P rC p (wiC x) F] (ok : WiOk x n) (hn : n + b.length ≤ 1000000) (h : ∀ r, Q (.bool r) (own rC p (wiC (x.push k b)) :: F)) : Wp H0 P (f_wire_Wire_Push D [.ptr (some (p, 0)), I k, .str (S b)]) Q := by
 refine Wp.cl ?_
 unfold f_wire_Wire_Push
 have hb := S_size b
 have g0 := S_size x.w0
 have g1 := S_size x.w1
 have g2 := S_size x.w2
 obtain ⟨h0, h1, h2⟩ := ok
 unfold Wi.push at h
 refine go (wire_at_v ?_)
 by_cases hk : 0 ≤ k ∧ k < 3
 ·rw [if_pos hk]
  obtain rfl | rfl | rfl : k = 0 ∨ k = 1 ∨ k = 2 := by omega
  ·refine go ?_
   refine Wp.ldC (v := .str (S x.w0)) rfl ?_
   refine go ⟨by omega, ?_⟩
   refine Wp.stC (cs' := wiC { x with w0 := x.w0 ++ b }) (by simp) (by rw [S_app]; rfl) rfl ?_
   exact go ⟨_, h true, .refl⟩
  ·refine go ?_
   refine Wp.ldC (v := .str (S x.w1)) rfl ?_
   refine go ⟨by omega, ?_⟩
   refine Wp.stC (cs' := wiC { x with w1 := x.w1 ++ b }) (by simp) (by rw [S_app]; rfl) rfl ?_
   exact go ⟨_, h true, .refl⟩
  ·refine go ?_
   refine Wp.ldC (v := .str (S x.w2)) rfl ?_
   refine go ⟨by omega, ?_⟩
   refine Wp.stC (cs' := wiC { x with w2 := x.w2 ++ b }) (by simp) (by rw [S_app]; rfl) rfl ?_
   exact go ⟨_, h true, .refl⟩
 ·rw [if_neg hk]
  rw [if_neg (by omega), if_neg (by omega), if_neg (by omega)] at h
  exact go ⟨_, h false, .perm fw.p⟩
theorem world_Send_v {p n : Nat} {w : Wd} {x : Wi} {s : Sl} {l : List (Int × UInt8)} [fw : Fnd P rWd p w F] [fi : Fnd F rC w.w (wiC x) F1] [fr : FndR F1 s none (Int × UInt8) ouC 2 l F2] (ok : WiOk x n) (hn : n + l.length ≤ 1000000)
  (h : Q (.tup []) (own rWd p w :: own rC w.w (wiC (x.send l)) :: F1)) : Wp H0 P (f_world_World_Send D [.ptr (some (p, 0)), .sl s]) Q := by
 refine Wp.cl (Wp.two fw fi (Wp.ent (P' := own rWd p w :: own rC w.w (wiC x) :: own (rR ouC 2) s l :: F2) (Ent.perm ((fr.p.cons _).cons _)) ?_))
 unfold f_world_World_Send
 refine Wp.row (s := s) fun hs => ?_
 have hsl := hs.len
 refine go ?_
 refine Wp.forL (σ := Unit) l.length (by omega) (by omega) (fun _ i => [I i]) (out := fun _ => []) (fun _ _ => rfl) (fun i _ => WiOk (x.send (l.take i)) (n + i))
  (fun i _ => own rWd p w :: own rC w.w (wiC (x.send (l.take i))) :: own (rR ouC 2) s l :: F2) () rfl ok .refl ?_ ?_
 ·intro i _ hi hok
  have hx : l[i]? = some l[i] := List.getElem?_eq_getElem hi
  generalize l[i] = o at hx
  have htk : x.send (l.take (i + 1)) = (x.send (l.take i)).push o.1 [o.2] := by
   unfold Wi.send
   rw [List.take_add_one, hx, List.foldl_append]; rfl
  obtain ⟨o1, o2⟩ := o
  refine Wp.ixN (x := (o1, o2)) rfl hx fun _ _ => ?_
  refine Wp.open rWd p fun s2 _ => ?_
  refine go ?_
  have e1 : strB [((o2.toNat : Nat) : Int)] = S [o2] := strB_S [o2]
  rw [e1]
  refine wire_Push_v hok (by simp; omega) fun r => ?_
  refine go ?_
  exact ⟨(), rfl, (by rw [htk]; exact hok.push), .fold s2 trivial (.cons rfl (.cons rfl (.cons (by rw [htk]) .refl)))⟩
 ·intro _ _
  rw [List.take_length]
  refine go ?_
  exact ⟨_, h, .cons rfl (.cons rfl (Ent.perm fr.p.symm))⟩
end
section
variable {H0 : Heap} {P F F1 F2 F3 F4 F5 : List HP} {Q : HV → List HP → Prop} [Sea] [SeaLand] [SeaRedo] {n : Nat}
theorem world_Write_v {p q : Nat} {w : Wd} {va : Va} {l : Lg} {d : Dk} {df : List (Int × Fl)} [fw : Fnd P rWd p w F] [fa : Fnd F rC w.a (vaC va) F1] [fl : Fnd F1 rC va.l (lgC l) F2] [fk : Fnd F2 rDisk l.d d F3] [fd : Fnd F3 (rDraft eDF dfC 3) q df F4]
  (ok : DOk' d) (ha : l.a ≤ 1) (hz : l.z ≤ 2048) (hr : (d.now l.a).length ≤ 10000) (hb : w.b ≤ 1000000) (hf : 0 ≤ w.f ∧ w.f ≤ 9223372036854775807) (okd : DfOk df) (hg : ∀ e ∈ df, goodF e.2)
  (h1 : 0 < w.f → Q (I 7) (own rWd p { w with f := w.f - 1 } :: F))
  (h0 : w.f = 0 → Q (I 0) (own rWd p w :: own rC w.a (vaC va) :: own rC va.l (lgC { l with z := l.z + ((redoL (w.b + 1) df).length + 7) }) :: own rDisk l.d (d.app l.a (closeL (1 :: redoL (w.b + 1) df))) :: F3)) :
  Wp H0 P (f_world_World_Write (lv (n + 2)) [.ptr (some (p, 0)), .ptr (some (q, 0))]) Q := by
 refine Wp.cl (Wp.four fw fa fl fk (Wp.ent (P' := own rWd p w :: own rC w.a (vaC va) :: own rC va.l (lgC l) :: own rDisk l.d d :: own (rDraft eDF dfC 3) q df :: F4) (Ent.perm ((((fd.p.cons _).cons _).cons _).cons _)) ?_))
 unfold f_world_World_Write
 have hrl := redoL_len (n := w.b + 1) okd hg (by omega)
 refine Wp.open rWd p fun s _ => ?_
 refine go ⟨fun c => ?_, fun c => ⟨fun c2 => by omega, fun c2 => ?_⟩⟩
 ·rw [wr_small (by omega) (by omega)]
  exact ⟨_, h1 c, .fold s trivial (.cons rfl (.cons rfl (Ent.perm (fa.p.trans ((fl.p.trans ((fk.p.trans (fd.p.cons _)).cons _)).cons _)).symm)))⟩
 ·refine vault_Size_v (v := va) (l := l) ?_
  refine go ⟨fun c3 => by omega, fun c3 h17 w17 h18 w18 h19 w19 h20 w20 h21 w21 h22 w22 h23 w23 h24 w24 => ?_⟩
  refine go fun h25 w25 h26 w26 h27 w27 => ?_
  rw [wr_small (by omega) (by omega)]
  refine redo_Bytes_v (m := w.b + 1) okd hg (by omega) ?_
  refine go fun h28 w28 => ⟨⟨⟨Was.eq w28 w27, Was.eq w27 w26, Was.eq w26 w25, Was.eq w25 w24, Was.eq w24 w23, Was.eq w23 w22, Was.eq w22 w21, Was.eq w21 w20, Was.eq w20 w19, Was.eq w19 w18, Was.eq w18 w17, trivial⟩, trivial⟩, ?_⟩
  refine vault_Append_v (v := va) (l := l) ok ha (by omega) (by omega) (by omega) ?_
  refine go ?_
  exact ⟨_, h0 (by omega), .fold s trivial (.cons rfl (.cons rfl (.cons rfl (.cons rfl (.cons rfl (Ent.perm fd.p.symm))))))⟩
end
theorem repL_len' (m : Nat) (l : List HV) : (repL m l).length = m * l.length := by
 induction m with
 | zero => unfold repL; split <;> simp
 | succ m ih =>
  unfold repL
  split
  ·simp
  ·simp only [List.length_append, ih]; rw [Nat.add_mul, Nat.one_mul, Nat.add_comm]
section
variable {H0 : Heap} {P F F1 F2 F3 : List HP} {Q : HV → List HP → Prop} {D : HV → List HV → M HV}
theorem Ent.rowE {γ : Type} {f : γ → List HV} {sz n b : Nat} {cs : List HV} [i : Fnd P rC b cs F] (hc : cs.length = n * sz) (hsz : 0 < sz) (hn : n ≤ 1000000) : Ent P (own (rR f sz) ⟨some (b, 0), 0, n, some sz⟩ [] :: F) :=
 (Ent.perm i.p).trans (Ent.head (fun h ⟨t, e⟩ => by
  refine ⟨by simp, hsz, rfl, Nat.zero_le _, by simp only; omega, .inr ⟨b, cs, rfl, .inr rfl, ?_, t, by simp, ?_⟩⟩
  ·simp [hc]
  ·rw [e]; rfl) Ent.refl)
theorem grow_v {n : Nat} (hn : n ≤ 1000000) (h : ∀ s : Sl, s.cap = n → Q (.sl s) (own (rR ouC 2) s [] :: P)) : Wp H0 P (f_slices_Grow_acts_Out_acts_Out D [.sl ⟨none, 0, 0, none⟩, I n]) Q := by
 refine Wp.cl ?_
 unfold f_slices_Grow_acts_Out_acts_Out
 have hroom : room = 140737488355328 := rfl
 have e0 : wr ((n : Int) - wr (((0 : Nat) : Int) - ((0 : Nat) : Int))) = n := by
  rw [wr_small (n := ((0 : Nat) : Int) - ((0 : Nat) : Int)) (by omega) (by omega), wr_small (by omega) (by omega)]; omega
 refine go ⟨fun c => by omega, fun _ => ?_⟩
 dsimp only
 rw [e0]
 refine ⟨rfl, fun c => ⟨rfl, by omega, rfl, rfl, ?_⟩, fun c => ?_⟩
 ·refine ⟨?_, fun b => ?_⟩
  ·have : ((n : Int)).toNat = n := by omega
   rw [this]; simp; omega
  ·refine ⟨by omega, by omega, rfl, ?_⟩
   have e1 : (bif decide ((((n : Int).toNat : Nat) : Int) = 0) then some (b, 0) else Option.map (fun q => (q.1, q.2 + Int.toNat 0 * 2)) (some (b, 0))) = some (b, 0) := by
    rw [decide_eq_false (by omega)]; rfl
   have e2 : ((((n : Int).toNat : Nat) : Int) - 0).toNat = n := by omega
   have e3 : slOp (some 2) (decide (0 < (((n : Int).toNat : Nat) : Int))) = some 2 := by rw [decide_eq_true (by omega)]; rfl
   have e4 : ((n : Int)).toNat = n := by omega
   rw [e1, e2, e3, e4]
   exact ⟨_, h ⟨some (b, 0), 0, n, some 2⟩ rfl, Ent.rowE (by rw [repL_len']; rfl) (by decide) hn⟩
 ·have hn0 : n = 0 := by omega
  subst hn0
  refine ⟨_, h ⟨none, 0, 0, none⟩ rfl, Ent.nil ouC (by decide)⟩
abbrev slC (s : Sl) : List HV := [.sl s]
theorem concat_v {b : Nat} {s1 s2 : Sl} {l1 l2 : List (Int × UInt8)} [fb : Fnd P rC b [.sl s1, .sl s2] F] [f1 : FndR F s1 none (Int × UInt8) ouC 2 l1 F1] [f2 : FndR F1 s2 none (Int × UInt8) ouC 2 l2 F2] (hl : l1.length + l2.length ≤ 1000000)
  (h : ∀ s, Q (.sl s) (own (rR ouC 2) s (l1 ++ l2) :: F)) : Wp H0 P (f_slices_Concat_acts_Out_acts_Out D [.sl ⟨some (b, 0), 2, 2, none⟩]) Q := by
 have hroom : room = 140737488355328 := rfl
 refine Wp.cl (Wp.ent (P' := own (rR slC 1) ⟨some (b, 0), 2, 2, none⟩ [s1, s2] :: own (rR ouC 2) s1 l1 :: own (rR ouC 2) s2 l2 :: F2)
  (((Ent.perm fb.p).trans (Ent.row (P := own rC b [.sl s1, .sl s2] :: F) (b := b) (f := slC) (sz := 1) (xs := [s1, s2]) (o := none) rfl (fun _ _ => rfl) (by decide) (by simp) (.inl rfl))).trans (Ent.perm ((f1.p.trans (f2.p.cons _)).cons _))) ?_)
 refine Wp.row (s := s1) fun q1 => ?_
 refine Wp.row (s := s2) fun q2 => ?_
 have g1 := q1.len
 have g2 := q2.len
 unfold f_slices_Concat_acts_Out_acts_Out
 refine go ?_
 refine Wp.forL (σ := Nat) 2 (by decide) rfl (fun x i => [I x, I i]) (out := fun x => [I x]) (fun _ _ => rfl) (fun i x => x = if i = 0 then 0 else if i = 1 then l1.length else l1.length + l2.length)
  (fun _ _ => own (rR slC 1) ⟨some (b, 0), 2, 2, none⟩ [s1, s2] :: own (rR ouC 2) s1 l1 :: own (rR ouC 2) s2 l2 :: F2) 0 rfl rfl .refl ?_ ?_
 ·rintro i x hi rfl
  obtain rfl | rfl : i = 0 ∨ i = 1 := by omega
  ·refine Wp.ixC0 (x := s1) (v := .sl s1) (j := 0) rfl rfl rfl fun _ _ => ?_
   refine go ⟨fun c => ?_, fun c => ?_⟩
   ·exfalso; rw [wr_small (by simp <;> omega) (by simp <;> omega)] at c; simp at c <;> omega
   ·refine ⟨_, ?_, rfl, .refl⟩
    rw [wr_small (by simp <;> omega) (by simp <;> omega)]; simp <;> omega
  ·refine Wp.ixC0 (x := s2) (v := .sl s2) (j := 1) rfl rfl rfl fun _ _ => ?_
   refine go ⟨fun c => ?_, fun c => ?_⟩
   ·exfalso; rw [wr_small (by simp <;> omega) (by simp <;> omega)] at c; simp at c <;> omega
   ·refine ⟨_, ?_, rfl, .refl⟩
    rw [wr_small (by simp <;> omega) (by simp <;> omega)]; simp <;> omega
 ·rintro x rfl
  refine go (grow_v (n := l1.length + l2.length) (by omega) fun s hs => ?_)
  refine go ?_
  refine Wp.forL (σ := Sl) 2 (by decide) rfl (fun x i => [.sl x, I i]) (out := fun x => [.sl x]) (fun _ _ => rfl) (fun i x => x.cap = l1.length + l2.length)
   (fun i x => own (rR ouC 2) x (if i = 0 then [] else if i = 1 then l1 else l1 ++ l2) :: own (rR slC 1) ⟨some (b, 0), 2, 2, none⟩ [s1, s2] :: own (rR ouC 2) s1 l1 :: own (rR ouC 2) s2 l2 :: F2) s rfl hs .refl ?_ ?_
  ·rintro i x hi hc
   refine Wp.row (s := x) fun q3 => ?_
   have g3 := q3.len
   obtain rfl | rfl : i = 0 ∨ i = 1 := by omega
   ·refine Wp.ixC0 (x := s1) (v := .sl s1) (j := 0) rfl rfl rfl fun _ _ => ?_
    refine go ?_
    refine Wp.rdS (s := s1) ?_
    rw [apd_O]
    refine Wp.apdO (ys := l1) rfl g1 (fun _ _ => rfl) (by simp; omega) (by simp; omega) (.inr (by simp at g3; omega)) fun s' _ h2 => ?_
    refine go ?_
    exact ⟨s', rfl, by rw [h2 (by simp at g3; omega)]; exact hc, .refl⟩
   ·refine Wp.ixC0 (x := s2) (v := .sl s2) (j := 1) rfl rfl rfl fun _ _ => ?_
    refine go ?_
    refine Wp.rdS (s := s2) ?_
    rw [apd_O]
    refine Wp.apdO (ys := l2) rfl g2 (fun _ _ => rfl) (by simp; omega) (by simp; omega) (.inr (by simp at g3; omega)) fun s' _ h2 => ?_
    refine go ?_
    exact ⟨s', rfl, by rw [h2 (by simp at g3; omega)]; exact hc, .refl⟩
  ·intro x hc
   refine go ?_
   exact ⟨_, h x, Ent.head (fun _ q => q) (.weak (Ent.perm (f1.p.trans (f2.p.cons _)).symm))⟩
end
end Go.Proofs.YtbphjihgbenkdaaGreat.HQ
