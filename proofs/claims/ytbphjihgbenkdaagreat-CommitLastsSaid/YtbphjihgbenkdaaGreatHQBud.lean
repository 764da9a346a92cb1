/- Lemmas for the row. Conditions: none. -/
import Derived.Test.YtbphjihgbenkdaaGreatHQBu9
import Derived.Test.YtbphjihgbenkdaaGreatHQAtz
namespace Go.Proofs.YtbphjihgbenkdaaGreat.HQ
set_option linter.unusedVariables false
set_option linter.unusedSectionVars false
set_option linter.unusedSimpArgs false
open Go
abbrev iiC (n : Int) : List HV := [I n]
structure Ac where
 o : List (Int × UInt8)
 l : List (Int × UInt8)
 n : List Int
 p : List (Int × Int)
structure AcY where
 o : Sl
 l : Sl
 n : Sl
 p : Sl
def rActs (p : Nat) (a : Ac) : HP := fun h => ∃ y : AcY, Al [own rC p [.sl y.o, .sl y.l, .sl y.n, .sl y.p], own (rR ouC 2) y.o a.o, own (rR ouC 2) y.l a.l, own (rR iiC 1) y.n a.n, own (rR opC 2) y.p a.p] h
instance {p : Nat} {a : Ac} : Opn rActs p a AcY (fun _ => True) (fun y F => own rC p [.sl y.o, .sl y.l, .sl y.n, .sl y.p] :: own (rR ouC 2) y.o a.o :: own (rR ouC 2) y.l a.l :: own (rR iiC 1) y.n a.n :: own (rR opC 2) y.p a.p :: F) :=
 ⟨fun _ => ⟨fun ⟨s, h⟩ => ⟨s, trivial, h⟩, fun ⟨s, _, h⟩ => ⟨s, h⟩⟩, fun _ _ => rfl⟩
section
variable {H0 : Heap} {P F F1 F2 F3 : List HP} {Q : HV → List HP → Prop} {D : HV → List HV → M HV}
theorem Ent.acts {p : Nat} : Ent (own rC p [.sl ⟨none, 0, 0, none⟩, .sl ⟨none, 0, 0, none⟩, .sl ⟨none, 0, 0, none⟩, .sl ⟨none, 0, 0, none⟩] :: P) (own rActs p ⟨[], [], [], []⟩ :: P) := by
 have e1 := Ent.nil (P := own rC p [.sl ⟨none, 0, 0, none⟩, .sl ⟨none, 0, 0, none⟩, .sl ⟨none, 0, 0, none⟩, .sl ⟨none, 0, 0, none⟩] :: P) (τ := none) opC (sz := 2) (by decide)
 have e2 := e1.trans (Ent.nil (τ := none) iiC (sz := 1) (by decide))
 have e3 := e2.trans (Ent.nil (τ := none) ouC (sz := 2) (by decide))
 have e4 := e3.trans (Ent.nil (τ := none) ouC (sz := 2) (by decide))
 exact e4.trans (.fold (⟨⟨none, 0, 0, none⟩, ⟨none, 0, 0, none⟩, ⟨none, 0, 0, none⟩, ⟨none, 0, 0, none⟩⟩ : AcY) trivial (.cons rfl (.pick (.pick (.pick (.pick .refl))))))
theorem acts_Send_v {p : Nat} {a : Ac} {k : Int} {b : UInt8} [fa : Fnd P rActs p a F] (hl : a.o.length ≤ 1000000) (h : ∀ r, Q (.bool r) (own rActs p { a with o := if 0 ≤ k ∧ k < 3 then a.o ++ [(k, b)] else a.o } :: F)) : Wp H0 P (f_acts_Acts_Send D [.ptr (some (p, 0)), I k, .int .u8 (b.toNat : Int)]) Q := by
 refine Wp.cl ?_
 unfold f_acts_Acts_Send
 have hroom : room = 140737488355328 := rfl
 refine Wp.open rActs p fun y _ => ?_
 refine go ⟨fun c => ?_, fun c => ⟨fun c2 => ?_, fun c2 => ?_⟩⟩
 ·rw [if_neg (by omega)] at h; exact ⟨_, h false, .fold y trivial .refl⟩
 ·have c2 : k ≥ 3 := by simpa using c2
  rw [if_neg (by omega)] at h; exact ⟨_, h false, .fold y trivial .refl⟩
 ·have c2 : ¬ k ≥ 3 := by simpa using c2
  rw [if_pos (by omega)] at h
  refine Wp.apd (x := (k, b)) rfl rfl (by omega) (by omega) fun s' => ?_
  refine go ?_
  exact ⟨_, h true, .fold ({ y with o := s' } : AcY) trivial (.cons rfl (.cons rfl (.cons rfl (.cons rfl (.cons rfl .refl)))))⟩
theorem acts_Later_v {p : Nat} {a : Ac} {k : Int} {b : UInt8} [fa : Fnd P rActs p a F] (hl : a.l.length ≤ 1000000) (h : ∀ r, Q (.bool r) (own rActs p { a with l := if 0 ≤ k ∧ k < 3 then a.l ++ [(k, b)] else a.l } :: F)) : Wp H0 P (f_acts_Acts_Later D [.ptr (some (p, 0)), I k, .int .u8 (b.toNat : Int)]) Q := by
 refine Wp.cl ?_
 unfold f_acts_Acts_Later
 have hroom : room = 140737488355328 := rfl
 refine Wp.open rActs p fun y _ => ?_
 refine go ⟨fun c => ?_, fun c => ⟨fun c2 => ?_, fun c2 => ?_⟩⟩
 ·rw [if_neg (by omega)] at h; exact ⟨_, h false, .fold y trivial .refl⟩
 ·have c2 : k ≥ 3 := by simpa using c2
  rw [if_neg (by omega)] at h; exact ⟨_, h false, .fold y trivial .refl⟩
 ·have c2 : ¬ k ≥ 3 := by simpa using c2
  rw [if_pos (by omega)] at h
  refine Wp.apd (x := (k, b)) rfl rfl (by omega) (by omega) fun s' => ?_
  refine go ?_
  exact ⟨_, h true, .fold ({ y with l := s' } : AcY) trivial (.cons rfl (.cons rfl (.cons rfl (.cons rfl (.cons rfl .refl)))))⟩
theorem acts_Note_v {p : Nat} {a : Ac} {k : Int} [fa : Fnd P rActs p a F] (hl : a.n.length ≤ 1000000) (h : Q (.bool true) (own rActs p { a with n := a.n ++ [k] } :: F)) : Wp H0 P (f_acts_Acts_Note D [.ptr (some (p, 0)), I k]) Q := by
 refine Wp.cl ?_
 unfold f_acts_Acts_Note
 have hroom : room = 140737488355328 := rfl
 refine Wp.open rActs p fun y _ => ?_
 refine go ?_
 refine Wp.apd (x := k) rfl rfl (by omega) (by omega) fun s' => ?_
 refine go ?_
 exact ⟨_, h, .fold ({ y with n := s' } : AcY) trivial (.cons rfl (.cons rfl (.cons rfl (.cons rfl (.cons rfl .refl)))))⟩
theorem acts_Opened_v {p : Nat} {a : Ac} {k d : Int} [fa : Fnd P rActs p a F] (hl : a.p.length ≤ 1000000) (h : Q (.bool (decide (0 ≤ k ∧ k < 4))) (own rActs p { a with p := if 0 ≤ k ∧ k < 4 then a.p ++ [(k, d)] else a.p } :: F)) : Wp H0 P (f_acts_Acts_Opened D [.ptr (some (p, 0)), I k, I d]) Q := by
 refine Wp.cl ?_
 unfold f_acts_Acts_Opened
 have hroom : room = 140737488355328 := rfl
 refine Wp.open rActs p fun y _ => ?_
 refine go ⟨fun c => ?_, fun c => ⟨fun c2 => ?_, fun c2 => ?_⟩⟩
 ·rw [if_neg (by omega), decide_eq_false (by omega)] at h; exact ⟨_, h, .fold y trivial .refl⟩
 ·have c2 : k ≥ 4 := by simpa using c2
  rw [if_neg (by omega), decide_eq_false (by omega)] at h; exact ⟨_, h, .fold y trivial .refl⟩
 ·have c2 : ¬ k ≥ 4 := by simpa using c2
  rw [if_pos (by omega), decide_eq_true (by omega)] at h
  refine Wp.apd (x := (k, d)) rfl rfl (by omega) (by omega) fun s' => ?_
  refine go ?_
  exact ⟨_, h, .fold ({ y with p := s' } : AcY) trivial (.cons rfl (.cons rfl (.cons rfl (.cons rfl (.cons rfl .refl)))))⟩
theorem acts_Output_v {p : Nat} {a : Ac} [fa : Fnd P rActs p a F] (hl : a.o.length + a.l.length ≤ 1000000) (h : ∀ s, Q (.sl s) (own (rR ouC 2) s (a.o ++ a.l) :: P)) : Wp H0 P (f_acts_Acts_Output D [.ptr (some (p, 0))]) Q := by
 refine Wp.cl ?_
 unfold f_acts_Acts_Output
 refine Wp.open rActs p fun y _ => ?_
 refine go fun b13 => ?_
 refine concat_v (s1 := y.o) (s2 := y.l) hl fun s => ?_
 refine go ?_
 exact ⟨_, h s, Ent.head (fun _ q => q) (.back rActs p (.fold y trivial .refl))⟩
theorem attempt_Acts_v {p : Nat} {x : TrS} [fd : Fnd P rTry p x F] (h : Q (.ptr (some (x.ac, 0))) P) : Wp H0 P (f_attempt_Attempt_Acts D [.ptr (some (p, 0))]) Q := by
 refine Wp.cl ?_
 unfold f_attempt_Attempt_Acts
 refine Wp.open rTry p fun y _ => ?_
 exact go ⟨_, h, .back rTry p (.fold y trivial .refl)⟩
end
def negO (o : Int × Int) : Int × Int := (o.1, wr (0 - o.2))
def undoL (l : List (Int × Int)) : List (Int × Int) := l.reverse.map negO
class SeaUndo [Sea] : Prop where
 bw : lkA Sea.cl n_slices_Backward_acts_Open_acts_Open_1 = some f_slices_Backward_acts_Open_acts_Open_1
 ru : lkA Sea.rn 49475106 = some r0_acts_undo
section
variable {H0 : Heap} {P F F1 F2 F3 : List HP} {Q : HV → List HP → Prop} {D : HV → List HV → M HV}
end
section
variable {H0 : Heap} {P F F1 F2 F3 : List HP} {Q : HV → List HP → Prop} [Sea] [SeaUndo] {n : Nat}
theorem acts_undo_v {s : Sl} {l : List (Int × Int)} [fr : FndR P s none (Int × Int) opC 2 l F] (hl : l.length ≤ 1000000) (h : ∀ s', Q (.sl s') (own (rR opC 2) s' (undoL l) :: P)) : Wp H0 P (f_acts_undo (lv (n + 2)) [.sl s]) Q := by
 refine Wp.cl ?_
 refine Wp.ent (P' := own (rR opC 2) s l :: F) (Ent.perm fr.p) ?_
 refine Wp.row (s := s) fun q => ?_
 have g := q.len
 have hroom : room = 140737488355328 := rfl
 unfold f_acts_undo
 refine Wp.nil opC (sz := 2) (by decide) ?_
 refine go fun b3 => ?_
 unfold f_slices_Backward_acts_Open_acts_Open
 refine go fun b1 => ?_
 refine go fun lp => ?_
 rw [lv_succ]
 refine Wp.clo SeaUndo.bw ?_
 show Wp H0 _ (f_slices_Backward_acts_Open_acts_Open_1 (lv (n + 1)) [.yld lp, .ptr (some (b1, 0))]) _
 unfold f_slices_Backward_acts_Open_acts_Open_1
 refine go ?_
 refine Wp.blk (Wp.loop (fun k vs P' => ∃ s' : Sl, vs = [I ((k : Int) - 1)] ∧ k ≤ l.length ∧ Ent P' (own rX lp (.loop 49475106 [(3, .ptr (some (b3, 0)))] .ready none) :: own rC b1 [.sl s] :: own rC b3 [.sl s'] :: own (rR opC 2) s l :: own (rR opC 2) s' (undoL (l.drop k)) :: F)) l.length
  ⟨⟨none, 0, 0, none⟩, by rw [g, wr_small (by omega) (by omega)], by omega, .cons rfl (.cons rfl (.cons rfl (.pick (.cons (by simp [undoL]) .refl))))⟩ ?_)
 rintro k vs P' ⟨s', rfl, hk, hp⟩
 refine Wp.ent hp ?_
 refine go ⟨fun c => ?_, fun c => ?_⟩
 ·obtain ⟨j, rfl⟩ : ∃ j, k = j + 1 := ⟨k - 1, by omega⟩
  have hx : l[j]? = some l[j] := List.getElem?_eq_getElem (by omega)
  generalize l[j] = o at hx
  have hd : undoL (l.drop j) = undoL (l.drop (j + 1)) ++ [negO o] := by
   unfold undoL
   have hj : j < l.length := by omega
   have ho : l[j] = o := by rw [List.getElem?_eq_getElem hj] at hx; cases hx; rfl
   rw [List.drop_eq_getElem_cons hj, ho]; simp
  have hul : (undoL (l.drop (j + 1))).length ≤ l.length := by unfold undoL; simp
  have ej : ((j + 1 : Nat) : Int) - 1 = (j : Int) := by omega
  rw [ej]
  refine Wp.ixN (x := o) (f := opC) (s := s) rfl hx fun _ _ => ?_
  refine go ?_
  rw [lv_succ]
  refine Wp.rnd (l := lp) SeaUndo.ru ?_
  unfold r0_acts_undo
  refine go ?_
  refine Wp.apd (x := negO o) rfl rfl (by omega) (by omega) fun s2 => ?_
  refine go ?_
  rw [wr_small (by omega) (by omega)]
  refine go ?_
  exact ⟨j, by omega, s2, rfl, by omega, .cons rfl (.cons rfl (.cons rfl (.pick (.cons (by rw [hd]) .refl))))⟩
 ·have hk0 : k = 0 := by omega
  subst hk0
  rw [List.drop_zero]
  refine go ?_
  exact ⟨_, h s', .pick (.weak (.weak (.weak (Ent.perm fr.p.symm))))⟩
theorem acts_Undo_v {p : Nat} {a : Ac} [fa : Fnd P rActs p a F] (hl : a.p.length ≤ 1000000) (h : ∀ s', Q (.sl s') (own (rR opC 2) s' (undoL a.p) :: P)) : Wp H0 P (f_acts_Acts_Undo (lv (n + 2)) [.ptr (some (p, 0))]) Q := by
 refine Wp.cl ?_
 unfold f_acts_Acts_Undo
 refine Wp.open rActs p fun y _ => ?_
 refine go ?_
 refine acts_undo_v (s := y.p) hl fun s' => ?_
 refine go ?_
 exact ⟨_, h s', Ent.head (fun _ q => q) (.back rActs p (.fold y trivial .refl))⟩
omit [SeaUndo] in
end
abbrev cmC (i : Int) (a : Nat) (ph : Int) : List HV := [I i, .ptr (some (a, 0)), I ph]
section
variable {H0 : Heap} {P F F1 F2 F3 : List HP} {Q : HV → List HP → Prop} {D : HV → List HV → M HV}
theorem world_Token_e {p tt : Nat} {w : Wd} [fw : Fnd P rWd p w F] (e : w.t = tt) (h : Q (.ptr (some (tt, 0))) P) : Wp H0 P (f_world_World_Token D [.ptr (some (p, 0))]) Q := by
 subst e
 exact world_Token_v h
theorem draft_Len_int_v {p : Nat} {l : List (Int × Int)} [fd : Fnd P (rDraft eDI clC 2) p l F] (h : Q (I l.length) P) : Wp H0 P (f_draft_Draft_int_Len D [.ptr (some (p, 0))]) Q := by
 refine Wp.cl ?_
 unfold f_draft_Draft_int_Len
 refine Wp.open (rDraft eDI clC 2) p fun s hs => ?_
 refine Wp.row (s := s) fun q => ?_
 refine go ?_
 rw [q.len]
 exact ⟨_, h, .back (rDraft eDI clC 2) p (.fold s hs .refl)⟩
theorem draft_Len_file_File_v {p : Nat} {l : List (Int × Fl)} [fd : Fnd P (rDraft eDF dfC 3) p l F] (h : Q (I l.length) P) : Wp H0 P (f_draft_Draft_file_File_Len D [.ptr (some (p, 0))]) Q := by
 refine Wp.cl ?_
 unfold f_draft_Draft_file_File_Len
 refine Wp.open (rDraft eDF dfC 3) p fun s hs => ?_
 refine Wp.row (s := s) fun q => ?_
 refine go ?_
 rw [q.len]
 exact ⟨_, h, .back (rDraft eDF dfC 3) p (.fold s hs .refl)⟩
theorem attempt_Writes_v {p : Nat} {x : TrS} [fd : Fnd P rTry p x F] (h : Q (.tup [I x.t.dc.length, I x.t.df.length]) P) : Wp H0 P (f_attempt_Attempt_Writes D [.ptr (some (p, 0))]) Q := by
 refine Wp.cl ?_
 unfold f_attempt_Attempt_Writes
 refine Wp.open rTry p fun y _ => ?_
 refine go fun h0 w0 h1 w1 h2 w2 h3 w3 h4 w4 h5 w5 => ?_
 refine draft_Len_int_v (l := x.t.dc) ?_
 refine go fun h6 w6 h7 w7 h8 w8 h9 w9 h10 w10 h11 w11 => ⟨⟨⟨Was.eq w11 w10, Was.eq w10 w9, Was.eq w9 w8, Was.eq w8 w7, Was.eq w7 w6, Was.eq w6 w5, Was.eq w5 w4, Was.eq w4 w3, Was.eq w3 w2, Was.eq w2 w1, Was.eq w1 w0, trivial⟩, trivial⟩, ?_⟩
 refine sheet_Draft_v (df := x.t.df) fun d => ?_
 refine go (draft_Len_file_File_v (l := x.t.df) ?_)
 refine go ?_
 exact ⟨_, h, .back rTry p (.fold y trivial (.cons rfl (.cons rfl (.cons rfl (.fold d trivial .refl)))))⟩
theorem commit_check_v {c p a : Nat} {i ph : Int} {w : Wd} {t : Tk} {x : TrS} {v : Vw} (ok : VOk v) (hr : RdsOk x.t.rd)
  (h1 : t.free i = false → Q (I 10) (own rC c (cmC i a ph) :: own rWd p w :: own rC w.t (tkC t) :: own rTry a x :: own rView x.w v :: F))
  (h2 : t.free i = true → validB v x.t.rd = false → Q (I 9) (own rC c (cmC i a ph) :: own rWd p w :: own rC w.t (tkC t) :: own rTry a x :: own rView x.w v :: F))
  (h3 : t.free i = true → validB v x.t.rd = true → Q (I 0) (own rC c (cmC i a (if x.t.df.length = 0 then 3 else 1)) :: own rWd p w :: own rC w.t (tkC (t.lock i)) :: own rTry a x :: own rView x.w v :: F)) :
  Wp H0 (own rC c (cmC i a ph) :: own rWd p w :: own rC w.t (tkC t) :: own rTry a x :: own rView x.w v :: F) (f_commit_Commit_check D [.ptr (some (c, 0)), .ptr (some (p, 0))]) Q := by
 refine Wp.cl ?_
 unfold f_commit_Commit_check
 refine go fun h0 w0 h1' w1 => ?_
 refine world_Token_v (w := w) ?_
 refine go fun k2 w2 k3 w3 k4 w4 k5 w5 k6 w6 => ⟨⟨⟨Was.eq w6 w5, Was.eq w5 w4, Was.eq w4 w3, Was.eq w3 w2, Was.eq w2 w1, Was.eq w1 w0, trivial⟩, trivial⟩, ?_⟩
 refine token_Free_v (t := t) ?_
 refine go ⟨fun c1 => ?_, fun c1 => ?_⟩
 ·exact ⟨_, h1 c1, .refl⟩
 refine attempt_Valid_v (x := x) (v := v) ok hr ?_
 refine go ⟨fun c2 => ?_, fun c2 => ?_⟩
 ·exact ⟨_, h2 c1 c2, .cons rfl (.cons rfl (.cons rfl (.cons rfl .refl)))⟩
 ·intro k7 w7 k8 w8
  refine world_Token_v (w := w) ?_
  refine go fun k9 w9 k10 w10 k11 w11 k12 w12 k13 w13 => ⟨⟨⟨Was.eq w13 w12, Was.eq w12 w11, Was.eq w11 w10, Was.eq w10 w9, Was.eq w9 w8, Was.eq w8 w7, trivial⟩, trivial⟩, ?_⟩
  refine token_Lock_v (t := t) ?_
  refine go ?_
  refine attempt_Writes_v (x := x) ?_
  refine go ⟨fun c3 => ?_, fun c3 => ?_⟩
  ·have h3 := h3 c1 c2
   rw [if_pos (by omega)] at h3
   exact ⟨_, h3, .cons rfl (.cons rfl (.cons rfl (.cons rfl (.cons rfl .refl))))⟩
  ·have h3 := h3 c1 c2
   rw [if_neg (by omega)] at h3
   exact ⟨_, h3, .cons rfl (.cons rfl (.cons rfl (.cons rfl (.cons rfl .refl))))⟩
end
section
variable {H0 : Heap} {P F F1 F2 F3 : List HP} {Q : HV → List HP → Prop} [Sea] [SeaLand] [SeaRedo] {n : Nat}
theorem commit_write_v {c p a : Nat} {i ph : Int} {w : Wd} {t : Tk} {va : Va} {l : Lg} {d : Dk} {x : TrS} (ok : DOk' d) (ha : l.a ≤ 1) (hz : l.z ≤ 2048) (hr : (d.now l.a).length ≤ 10000) (hb : w.b ≤ 1000000) (hf : 0 ≤ w.f ∧ w.f ≤ 9223372036854775807) (okd : DfOk x.t.df) (hg : ∀ e ∈ x.t.df, goodF e.2)
  (h1 : 0 < w.f → t.sure i = true → Q (I 10) (own rC c (cmC i a ph) :: own rWd p { w with f := w.f - 1 } :: own rC w.t (tkC t) :: own rC w.a (vaC va) :: own rC va.l (lgC l) :: own rDisk l.d d :: own rTry a x :: F))
  (h2 : 0 < w.f → t.sure i = false → Q (I 7) (own rC c (cmC i a ph) :: own rWd p { w with f := w.f - 1 } :: own rC w.t (tkC (t.unlock i)) :: own rC w.a (vaC va) :: own rC va.l (lgC l) :: own rDisk l.d d :: own rTry a x :: F))
  (h3 : w.f = 0 → Q (I 0) (own rC c (cmC i a 2) :: own rWd p w :: own rC w.t (tkC t) :: own rC w.a (vaC va) :: own rC va.l (lgC { l with z := l.z + ((redoL (w.b + 1) x.t.df).length + 7) }) :: own rDisk l.d (d.app l.a (closeL (1 :: redoL (w.b + 1) x.t.df))) :: own rTry a x :: F)) :
  Wp H0 (own rC c (cmC i a ph) :: own rWd p w :: own rC w.t (tkC t) :: own rC w.a (vaC va) :: own rC va.l (lgC l) :: own rDisk l.d d :: own rTry a x :: F) (f_commit_Commit_write (lv (n + 2)) [.ptr (some (c, 0)), .ptr (some (p, 0))]) Q := by
 refine Wp.cl ?_
 unfold f_commit_Commit_write
 refine Wp.open rTry a fun y _ => ?_
 refine go ?_
 unfold f_attempt_Attempt_State
 refine go ?_
 refine Wp.ldN (vs := [.ptr (some (y.dc, 0)), .ptr (some (y.sh, 0)), .ptr (some (y.cu, 0)), I x.t.rg.1, I x.t.rg.2.1, I x.t.rg.2.2.1, I x.t.rg.2.2.2]) (by simp) rfl ?_
 refine go ?_
 refine go (sheet_Draft_v (df := x.t.df) fun q => ?_)
 refine go ?_
 refine world_Write_v (w := w) (va := va) (l := l) (d := d) (df := x.t.df) ok ha hz hr hb hf okd hg (fun c1 => ?_) (fun c1 => ?_)
 ·refine go ⟨fun c => by omega, fun _ k0 w0 k1 w1 => ?_⟩
  refine world_Token_e (w := { w with f := w.f - 1 }) (tt := w.t) rfl ?_
  refine go fun k2 w2 k3 w3 k4 w4 k5 w5 k6 w6 => ⟨⟨⟨Was.eq w6 w5, Was.eq w5 w4, Was.eq w4 w3, Was.eq w3 w2, Was.eq w2 w1, Was.eq w1 w0, trivial⟩, trivial⟩, ?_⟩
  refine token_Sure_v (t := t) ?_
  refine go ⟨fun c2 => ?_, fun c2 => ?_⟩
  ·exact ⟨_, h1 c1 c2, .cons rfl (.cons rfl (.cons rfl (.cons rfl (.cons rfl (.cons rfl (.fold y trivial (.cons rfl (.cons rfl (.cons rfl (.fold q trivial .refl))))))))))⟩
  ·intro k7 w7 k8 w8
   refine world_Token_e (w := { w with f := w.f - 1 }) (tt := w.t) rfl ?_
   refine go fun k9 w9 k10 w10 k11 w11 k12 w12 k13 w13 => ⟨⟨⟨Was.eq w13 w12, Was.eq w12 w11, Was.eq w11 w10, Was.eq w10 w9, Was.eq w9 w8, Was.eq w8 w7, trivial⟩, trivial⟩, ?_⟩
   refine token_Unlock_v (t := t) fun _ => ?_
   refine go ?_
   exact ⟨_, h2 c1 c2, .cons rfl (.cons rfl (.cons rfl (.cons rfl (.cons rfl (.cons rfl (.fold y trivial (.cons rfl (.cons rfl (.cons rfl (.fold q trivial .refl))))))))))⟩
 ·refine go ?_
  exact ⟨_, h3 c1, .cons rfl (.cons rfl (.cons rfl (.cons rfl (.cons rfl (.cons rfl (.fold y trivial (.cons rfl (.cons rfl (.cons rfl (.fold q trivial .refl))))))))))⟩
omit [SeaRedo] in
theorem commit_land_v {c p a m : Nat} {i ph : Int} {w : Wd} {t : Tk} {x : TrS} {v : Vw} {wi : Wi} {ac : Ac} [SeaOk] (hv : VwP v) (ht : TOk v x.t) (hc : 0 ≤ v.clock ∧ v.clock ≤ 1000000000) (hwi : WiOk wi m) (hm : m ≤ 100000) (ho : ac.o.length + ac.l.length ≤ 1000) (hb : w.b ≤ 1000000)
  (h : Q (I 0) (own rC c (cmC i a 4) :: own rWd p { w with b := w.b + 1 } :: own rC w.t (tkC ((t.unlock i).drop i)) :: own rC w.w (wiC (wi.send (ac.o ++ ac.l))) :: own rTry a x :: own rActs x.ac ac :: own rView x.w (if validB v x.t.rd = true then landT v x.t else v) :: F)) :
  Wp H0 (own rC c (cmC i a ph) :: own rWd p w :: own rC w.t (tkC t) :: own rC w.w (wiC wi) :: own rTry a x :: own rActs x.ac ac :: own rView x.w v :: F) (f_commit_Commit_land (lv (n + 2)) [.ptr (some (c, 0)), .ptr (some (p, 0))]) Q := by
 refine Wp.cl ?_
 unfold f_commit_Commit_land
 refine go ?_
 refine attempt_Land_v (x := x) (v := v) hv ht hc ?_
 refine go ?_
 refine attempt_Acts_v (x := x) ?_
 refine go ?_
 refine acts_Output_v (a := ac) (by omega) fun s => ?_
 refine go ?_
 refine world_Send_v (w := w) (x := wi) (n := m) (l := ac.o ++ ac.l) hwi (by simp; omega) ?_
 refine go ?_
 refine world_Done_v (w := w) hb ?_
 refine go fun k0 w0 k1 w1 => ?_
 refine world_Token_e (w := { w with b := w.b + 1 }) (tt := w.t) rfl ?_
 refine go fun k2 w2 k3 w3 k4 w4 k5 w5 k6 w6 => ⟨⟨⟨Was.eq w6 w5, Was.eq w5 w4, Was.eq w4 w3, Was.eq w3 w2, Was.eq w2 w1, Was.eq w1 w0, trivial⟩, trivial⟩, ?_⟩
 refine token_Unlock_v (t := t) fun _ => ?_
 refine go fun k7 w7 k8 w8 => ?_
 refine world_Token_e (w := { w with b := w.b + 1 }) (tt := w.t) rfl ?_
 refine go fun k9 w9 k10 w10 k11 w11 k12 w12 k13 w13 => ⟨⟨⟨Was.eq w13 w12, Was.eq w12 w11, Was.eq w11 w10, Was.eq w10 w9, Was.eq w9 w8, Was.eq w8 w7, trivial⟩, trivial⟩, ?_⟩
 refine token_Drop_v (t := t.unlock i) fun _ => ?_
 refine go ?_
 exact ⟨_, h, .cons rfl (.cons rfl (.cons rfl (.cons rfl (.cons rfl (.cons rfl (.cons rfl (.weak .refl)))))))⟩
end
section
variable {H0 : Heap} {P F F1 F2 F3 : List HP} {Q : HV → List HP → Prop} {D : HV → List HV → M HV} {c p a : Nat} {i : Int}
theorem commit_New_v (hi : 0 ≤ i) (h : ∀ b, Q (.ptr (some (b, 0))) (own rC b (cmC i a 0) :: P)) : Wp H0 P (f_commit_New D [I i, .ptr (some (a, 0))]) Q := by
 unfold f_commit_New
 refine go ⟨fun e => ?_, fun _ b => h b⟩
 exact absurd (by simpa using e) (by omega)
theorem commit_Phase_v {ph : Int} [fc : Fnd P rC c (cmC i a ph) F] (h : Q (I ph) P) : Wp H0 P (f_commit_Commit_Phase D [.ptr (some (c, 0))]) Q := by
 unfold f_commit_Commit_Phase
 exact go h
theorem commit_Step_0 [fc : Fnd P rC c (cmC i a 0) F] (h : Wp H0 P (f_commit_Commit_check D [.ptr (some (c, 0)), .ptr (some (p, 0))]) (fun r P' => ∃ e, r = I e ∧ Q (I e) P')) : Wp H0 P (f_commit_Commit_Step D [.ptr (some (c, 0)), .ptr (some (p, 0))]) Q := by
 unfold f_commit_Commit_Step
 refine go ?_
 refine h.mono ?_
 rintro r P' ⟨e, rfl, q⟩
 exact go q
theorem commit_Step_1 [fc : Fnd P rC c (cmC i a 1) F] (h : Wp H0 P (f_commit_Commit_write D [.ptr (some (c, 0)), .ptr (some (p, 0))]) (fun r P' => ∃ e, r = I e ∧ Q (I e) P')) : Wp H0 P (f_commit_Commit_Step D [.ptr (some (c, 0)), .ptr (some (p, 0))]) Q := by
 unfold f_commit_Commit_Step
 refine go ⟨fun e => absurd e (by decide), fun _ => ?_⟩
 refine h.mono ?_
 rintro r P' ⟨e, rfl, q⟩
 exact go q
theorem commit_Step_2 {w : Wd} {va : Va} {l : Lg} {d : Dk} (ok : DOk' d)
  (h : Q (I 0) (own rC c (cmC i a 3) :: own rWd p w :: own rC w.a (vaC va) :: own rC va.l (lgC l) :: own rDisk l.d d.sync :: F)) :
  Wp H0 (own rC c (cmC i a 2) :: own rWd p w :: own rC w.a (vaC va) :: own rC va.l (lgC l) :: own rDisk l.d d :: F) (f_commit_Commit_Step D [.ptr (some (c, 0)), .ptr (some (p, 0))]) Q := by
 refine Wp.cl ?_
 unfold f_commit_Commit_Step
 refine go ⟨fun e => absurd e (by decide), fun _ => ⟨fun e => absurd e (by decide), fun _ => ?_⟩⟩
 refine world_Force_v (w := w) (va := va) (l := l) (d := d) ok ?_
 refine go ?_
 exact ⟨_, h, .cons rfl (.cons rfl (.cons rfl (.cons rfl (.cons rfl .refl))))⟩
theorem commit_Step_3 [fc : Fnd P rC c (cmC i a 3) F] (h : Wp H0 P (f_commit_Commit_land D [.ptr (some (c, 0)), .ptr (some (p, 0))]) (fun r P' => ∃ e, r = I e ∧ Q (I e) P')) : Wp H0 P (f_commit_Commit_Step D [.ptr (some (c, 0)), .ptr (some (p, 0))]) Q := by
 unfold f_commit_Commit_Step
 refine go ⟨fun e => absurd e (by decide), fun _ => ⟨fun e => absurd e (by decide), fun _ => ⟨fun e => absurd e (by decide), fun _ => ?_⟩⟩⟩
 refine h.mono ?_
 rintro r P' ⟨e, rfl, q⟩
 exact go q
theorem commit_Step_4 [fc : Fnd P rC c (cmC i a 4) F] (h : Q (I 0) P) : Wp H0 P (f_commit_Commit_Step D [.ptr (some (c, 0)), .ptr (some (p, 0))]) Q := by
 unfold f_commit_Commit_Step
 exact go ⟨fun e => absurd e (by decide), fun _ => ⟨fun e => absurd e (by decide), fun _ => ⟨fun e => absurd e (by decide), fun _ => ⟨fun e => absurd e (by decide), fun _ => h⟩⟩⟩⟩
end
theorem Wd.add_rest (l : List (Int × Int)) : ∀ w : Wd, (w.add l).t = w.t ∧ (w.add l).ns = w.ns ∧ (w.add l).v = w.v ∧ (w.add l).w = w.w ∧ (w.add l).a = w.a ∧ (w.add l).b = w.b ∧ (w.add l).f = w.f := by
 induction l with
 | nil => intro w; exact ⟨rfl, rfl, rfl, rfl, rfl, rfl, rfl⟩
 | cons o l ih =>
  intro w
  have h := ih (w.add1 o)
  have e : (w.add1 o).t = w.t ∧ (w.add1 o).ns = w.ns ∧ (w.add1 o).v = w.v ∧ (w.add1 o).w = w.w ∧ (w.add1 o).a = w.a ∧ (w.add1 o).b = w.b ∧ (w.add1 o).f = w.f := by
   unfold Wd.add1
   split
   ·exact ⟨rfl, rfl, rfl, rfl, rfl, rfl, rfl⟩
   ·split
    ·exact ⟨rfl, rfl, rfl, rfl, rfl, rfl, rfl⟩
    ·split
     ·exact ⟨rfl, rfl, rfl, rfl, rfl, rfl, rfl⟩
     ·split <;> exact ⟨rfl, rfl, rfl, rfl, rfl, rfl, rfl⟩
  show ((w.add1 o).add l).t = w.t ∧ _
  exact ⟨h.1.trans e.1, h.2.1.trans e.2.1, h.2.2.1.trans e.2.2.1, h.2.2.2.1.trans e.2.2.2.1, h.2.2.2.2.1.trans e.2.2.2.2.1, h.2.2.2.2.2.1.trans e.2.2.2.2.2.1, h.2.2.2.2.2.2.trans e.2.2.2.2.2.2⟩
section
variable {H0 : Heap} {P F F1 F2 F3 : List HP} {Q : HV → List HP → Prop} [Sea] [SeaUndo] {n : Nat}
end
section
variable {H0 : Heap} {P F F' : List HP} {Q : HV → List HP → Prop} [Sea] [SeaOk] {n : Nat}
theorem law22_does_v {p : Nat} {x : TrS} {v : Vw} {d : Dee} [fd : Fnd P rTry p x F] [fv : Fnd F rView x.w v F'] (hv : VwP v) (ht : TOk v x.t)
  (h : Q (.tup []) (own rTry p { x with t := doT v x.t d } :: F)) : Wp H0 P (f_law22_does (lv (n + 1)) [.ptr (some (p, 0)), .agg (deC d)]) Q := by
 refine Wp.cl ?_
 unfold f_law22_does
 unfold doT at h
 refine go ⟨fun c => ?_, fun c => ⟨fun c1 => ?_, fun c1 => ⟨fun c2 => ?_, fun c2 => ⟨fun c3 => ?_, fun c3 => ⟨fun c4 => ?_, fun c4 => ⟨fun c5 => ?_, fun c5 => ⟨fun c6 => ?_, fun c6 => ⟨fun c7 => ?_, fun c7 => ⟨fun c8 => ?_, fun c8 => ?_⟩⟩⟩⟩⟩⟩⟩⟩⟩
 ·rw [if_pos c] at h
  refine attempt_Load_v hv ht (go ⟨_, h, .refl⟩)
 ·rw [if_neg c, if_pos c1] at h
  refine attempt_Store_v ht (go ⟨_, h, .refl⟩)
 ·rw [if_neg c, if_neg c1, if_pos c2] at h
  refine attempt_Read_v hv ht (go ⟨_, h, .refl⟩)
 ·rw [if_neg c, if_neg c1, if_neg c2, if_pos c3] at h
  refine attempt_Write_v hv ht (go ⟨_, h, .refl⟩)
 ·rw [if_neg c, if_neg c1, if_neg c2, if_neg c3, if_pos c4] at h
  refine attempt_Create_v hv ht (go ⟨_, h, .refl⟩)
 ·rw [if_neg c, if_neg c1, if_neg c2, if_neg c3, if_neg c4, if_pos c5] at h
  refine attempt_Remove_v hv ht (go ⟨_, h, .refl⟩)
 ·rw [if_neg c, if_neg c1, if_neg c2, if_neg c3, if_neg c4, if_neg c5, if_pos c6] at h
  refine attempt_Rename_v hv ht (go ⟨_, h, .refl⟩)
 ·rw [if_neg c, if_neg c1, if_neg c2, if_neg c3, if_neg c4, if_neg c5, if_neg c6, if_pos c7] at h
  refine attempt_Cut_v hv ht (go ⟨_, h, .refl⟩)
 ·rw [if_neg c, if_neg c1, if_neg c2, if_neg c3, if_neg c4, if_neg c5, if_neg c6, if_neg c7, if_pos c8] at h
  refine attempt_Recv_v hv ht (go ⟨_, h, .refl⟩)
 ·rw [if_neg c, if_neg c1, if_neg c2, if_neg c3, if_neg c4, if_neg c5, if_neg c6, if_neg c7, if_neg c8] at h
  exact ⟨_, h, .perm fd.p⟩
end
end Go.Proofs.YtbphjihgbenkdaaGreat.HQ
