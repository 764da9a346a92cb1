/- Lemmas for the row. Conditions: none. -/
import Derived.Test.YtbphjihgbenkdaaGreatHQAt9
namespace Go.Proofs.YtbphjihgbenkdaaGreat.HQ
set_option linter.unusedVariables false
set_option linter.unusedSectionVars false
set_option linter.unusedSimpArgs false
open Go
/-! deeds, plainly: what they answer, and the try behind them -/
def noteT (v : Vw) (t : Tri) (k i : Int) : Bool × Tri := ((noteS v (t.rd, t.stamp) k i).1, { t with rd := (noteS v (t.rd, t.stamp) k i).2.1, stamp := (noteS v (t.rd, t.stamp) k i).2.2 })
def noteE (v : Vw) (t : Tri) (k i : Int) : Int := if (noteT v t k i).1 = true then 0 else 9
def loadT (v : Vw) (t : Tri) (i : Int) : (Int × Int) × Tri := if i < 0 ∨ 8 ≤ i then ((0, 1), t) else match getD t.dc i with
 | some x => ((x, 0), t)
 | none => if (noteT v t 0 i).1 = true then ((((v.cells[i.toNat]?).map Prod.fst).getD 0, 0), (noteT v t 0 i).2) else ((0, 9), (noteT v t 0 i).2)
def storeT (t : Tri) (i x : Int) : Int × Tri := if i < 0 ∨ 8 ≤ i then (1, t) else (0, { t with dc := putD t.dc i x })
def touchT (v : Vw) (t : Tri) (i : Int) : (Fl × Int) × Tri := if i < 0 ∨ 6 ≤ i then ((noFl, 1), t) else
 if (shG v.files t.df i).2 = true then (((shG v.files t.df i).1, 0), t) else (((shG v.files t.df i).1, noteE v t 1 i), (noteT v t 1 i).2)
def readT (v : Vw) (t : Tri) (i a : Int) : (Int × Int) × Tri := if (touchT v t i).1.2 = 0 then ((atL (touchT v t i).1.1.2 a, 0), (touchT v t i).2) else ((0, (touchT v t i).1.2), (touchT v t i).2)
def modT (v : Vw) (t : Tri) (i : Int) (g : Fl → Fl) : Int × Tri := ((touchT v t i).1.2, if (touchT v t i).1.2 = 0 then { (touchT v t i).2 with df := shP v.files (touchT v t i).2.df i (g (shG v.files (touchT v t i).2.df i).1) } else (touchT v t i).2)
def renameT (v : Vw) (t : Tri) (i j : Int) : Int × Tri := if j < 0 ∨ 6 ≤ j then (1, t) else
 if (touchT v t i).1.2 = 0 then ((touchT v (touchT v t i).2 j).1.2, if (touchT v (touchT v t i).2 j).1.2 = 0 then { (touchT v (touchT v t i).2 j).2 with df := shR v.files (touchT v (touchT v t i).2 j).2.df i j } else (touchT v (touchT v t i).2 j).2)
 else ((touchT v t i).1.2, (touchT v t i).2)
def recvT (v : Vw) (t : Tri) (s : Int) : (Int × Int) × Tri := if s < 0 ∨ 3 ≤ s then ((0, 1), t) else
 if (noteT v t 2 s).1 = true then
  (if atL ((v.texts[s.toNat]?).getD []) (((v.places[s.toNat]?).map Prod.fst).getD 0 + (t.cu[s.toNat]?).getD 0) < 0 then ((0, 10), (noteT v t 2 s).2)
  else ((atL ((v.texts[s.toNat]?).getD []) (((v.places[s.toNat]?).map Prod.fst).getD 0 + (t.cu[s.toNat]?).getD 0), 0), { (noteT v t 2 s).2 with cu := t.cu.set s.toNat ((t.cu[s.toNat]?).getD 0 + 1) }))
 else ((0, 9), (noteT v t 2 s).2)
/-! what is so of a try -/
def RdDis (l : List Rd) : Prop := l.Pairwise fun a b => ¬ (a.k = b.k ∧ a.i = b.i)
structure TOk (v : Vw) (t : Tri) : Prop where
 rk : RdsOk t.rd
 rd : RdDis t.rd
 dc : DfOk t.dc
 df : DfOk t.df
 cu : t.cu.length = 3
 cr : ∀ (s : Nat) (c : Int), t.cu[s]? = some c → 0 ≤ c
 /-- no more was read than had arrived. -/
 cn : ∀ (s : Nat) (c : Int) (x : Int × Int) (l : Bs), t.cu[s]? = some c → v.places[s]? = some x → v.texts[s]? = some l → x.1 + c ≤ l.length
 fl : ∀ e ∈ t.df, goodF e.2
 d6 : ∀ e ∈ t.df, e.1 < 6
structure VwP (v : Vw) : Prop where
 ok : VOk v
 pl : ∀ (s : Nat) (x : Int × Int) (l : Bs), v.places[s]? = some x → v.texts[s]? = some l → 0 ≤ x.1 ∧ x.1 ≤ l.length
 tx : ∀ l ∈ v.texts, l.length ≤ 64
 fl : ∀ e ∈ v.files, goodF e.1
theorem nodup_lt : ∀ (n : Nat) (l : List Nat), l.Nodup → (∀ x ∈ l, x < n) → l.length ≤ n
 | 0, l, _, h => by
  cases l with
  | nil => simp
  | cons a l => have := h a List.mem_cons_self; omega
 | n + 1, l, hn, h => by
  have h1 := nodup_lt n (l.erase n) (hn.erase n) (fun x hx => by
   have h2 := h x (List.mem_of_mem_erase hx)
   have h3 : x ≠ n := fun e => by subst e; exact (List.Nodup.not_mem_erase hn) hx
   omega)
  have h2 := List.length_erase_le (a := n) (l := l)
  have h3 : l.length - 1 ≤ (l.erase n).length := by
   by_cases hm : n ∈ l
   ·rw [List.length_erase_of_mem hm]; omega
   ·rw [List.erase_of_not_mem hm]; omega
  omega
theorem rd_len {l : List Rd} (h1 : RdsOk l) (h2 : RdDis l) : l.length ≤ 24 := by
 have h3 := nodup_lt 24 (l.map fun e => 8 * e.k.toNat + e.i.toNat) ?_ ?_
 ·simpa using h3
 ·rw [List.nodup_iff_pairwise_ne, List.pairwise_map]
  refine List.Pairwise.imp_of_mem (fun {a b} ha hb hab e => hab ?_) h2
  have ka := h1 a ha
  have kb := h1 b hb
  obtain ⟨⟨_, _⟩, ⟨_, _⟩⟩ := ka
  obtain ⟨⟨_, _⟩, ⟨_, _⟩⟩ := kb
  constructor <;> omega
 ·intro x hx
  obtain ⟨e, he, rfl⟩ := List.mem_map.1 hx
  obtain ⟨⟨_, _⟩, ⟨_, _⟩⟩ := h1 e he
  omega
/-! memory -/
def rCur (p : Nat) (cu : List Int) : HP := fun h => cu.length = 3 ∧ Al [own rC p (cu.map fun n => I n)] h
instance {p : Nat} {cu : List Int} : Opn rCur p cu Unit (fun _ => cu.length = 3) (fun _ F => own rC p (cu.map fun n => I n) :: F) :=
 ⟨fun _ => ⟨fun h => ⟨(), h⟩, fun ⟨_, h⟩ => h⟩, fun _ _ => rfl⟩
structure TrS where
 w : Nat
 ac : Nat
 st : Nat
 t : Tri
structure TrY where
 set : Nat
 dc : Nat
 sh : Nat
 cu : Nat
abbrev trC (x : TrS) (y : TrY) : List HV := [.ptr (some (x.w, 0)), .ptr (some (y.set, 0)), .ptr (some (y.dc, 0)), .ptr (some (y.sh, 0)), .ptr (some (y.cu, 0)), I x.t.rg.1, I x.t.rg.2.1, I x.t.rg.2.2.1, I x.t.rg.2.2.2, .ptr (some (x.ac, 0)), .ptr (some (x.st, 0))]
def rTry (p : Nat) (x : TrS) : HP := fun h => ∃ y : TrY, Al [own rC p (trC x y), own rSet y.set (x.t.rd, x.t.stamp), own (rDraft eDI clC 2) y.dc x.t.dc, own rSheet y.sh x.t.df, own rCur y.cu x.t.cu] h
instance {p : Nat} {x : TrS} : Opn rTry p x TrY (fun _ => True) (fun y F => own rC p (trC x y) :: own rSet y.set (x.t.rd, x.t.stamp) :: own (rDraft eDI clC 2) y.dc x.t.dc :: own rSheet y.sh x.t.df :: own rCur y.cu x.t.cu :: F) :=
 ⟨fun _ => ⟨fun ⟨s, h⟩ => ⟨s, trivial, h⟩, fun ⟨s, _, h⟩ => ⟨s, h⟩⟩, fun _ _ => rfl⟩
class SeaOk [Sea] : Prop where
 pl : lkA Sea.cl n_reads_Set_place_1 = some f_reads_Set_place_1
 bi : lkA Sea.cl n_draft_by_int = some f_draft_by_int
 bf : lkA Sea.cl n_draft_by_file_File = some f_draft_by_file_File
section
variable {H0 : Heap} {P F F' : List HP} {Q : HV → List HP → Prop} {D : DD}
theorem cursor_is_v {i : Int} (h : ∀ b : Bool, (b = true ↔ 0 ≤ i ∧ i < 3) → Q (.bool b) P) : Wp H0 P (f_cursor_is D [I i]) Q := by
 unfold f_cursor_is
 refine go ⟨fun h1 => ?_, fun h1 => ?_⟩
 ·exact h _ (by simp; omega)
 ·exact h _ (by simp; omega)
theorem cursor_At_v {p : Nat} {cu : List Int} {i k c : Int} [fd : Fnd P rCur p cu F] (hi : 0 ≤ i ∧ i < 3) (hc : cu[i.toNat]? = some c) (h : Q (I (wr (k + c))) P) : Wp H0 P (f_cursor_Cursor_At D [.ptr (some (p, 0)), I i, I k]) Q := by
 refine Wp.cl ?_
 unfold f_cursor_Cursor_At
 refine go (cursor_is_v fun b hb => ?_)
 rw [hb.2 hi]
 refine Wp.open rCur p fun u hl => ?_
 refine go ⟨hi.1, hi.2, ?_⟩
 refine Wp.ldC (b := p) (map_I_at (by rw [show 0 + i.toNat * 1 = i.toNat by omega]; exact hc)) ?_
 refine go ?_
 exact ⟨_, h, .back rCur p (.fold u hl .refl)⟩
theorem cursor_Read_v {p : Nat} {cu : List Int} {i c : Int} [fd : Fnd P rCur p cu F] (hi : 0 ≤ i ∧ i < 3) (hc : cu[i.toNat]? = some c) (h : Q (I c) P) : Wp H0 P (f_cursor_Cursor_Read D [.ptr (some (p, 0)), I i]) Q := by
 refine Wp.cl ?_
 unfold f_cursor_Cursor_Read
 refine go (cursor_is_v fun b hb => ?_)
 rw [hb.2 hi]
 refine Wp.open rCur p fun u hl => ?_
 refine go ⟨hi.1, hi.2, ?_⟩
 refine Wp.ldC (b := p) (map_I_at (by rw [show 0 + i.toNat * 1 = i.toNat by omega]; exact hc)) ?_
 refine go ?_
 exact ⟨_, h, .back rCur p (.fold u hl .refl)⟩
theorem cursor_Step_v {p : Nat} {cu : List Int} {i c : Int} [fd : Fnd P rCur p cu F] (hi : 0 ≤ i ∧ i < 3) (hc : cu[i.toNat]? = some c) (h0 : 0 ≤ c) (hlt : c < 64) (h : Q (.bool true) (own rCur p (cu.set i.toNat (c + 1)) :: F)) : Wp H0 P (f_cursor_Cursor_Step D [.ptr (some (p, 0)), I i]) Q := by
 refine Wp.cl ?_
 unfold f_cursor_Cursor_Step
 refine go (cursor_is_v fun b hb => ?_)
 rw [hb.2 hi]
 refine Wp.open rCur p fun u hl => ?_
 have hl : cu.length = 3 := hl
 have hat : (cu.map fun n => I n)[0 + i.toNat * 1]? = some (I c) := map_I_at (by rw [show 0 + i.toNat * 1 = i.toNat by omega]; exact hc)
 refine go ⟨hi.1, hi.2, ?_⟩
 refine Wp.ldC (b := p) hat ?_
 refine go ⟨fun c => by omega, fun _ => ⟨hi.1, hi.2, ?_⟩⟩
 refine Wp.ldC (b := p) hat ?_
 refine go ⟨hi.1, hi.2, ?_⟩
 refine Wp.stC (b := p) (cs' := (cu.set i.toNat (c + 1)).map fun n => I n) (by simp [hl]; omega) ?_ rfl ?_
 ·rw [wr_small (by omega) (by omega), show 0 + i.toNat * 1 = i.toNat by omega, List.map_set]
 refine go ?_
 exact ⟨_, h, .fold u (by simp [hl]) .refl⟩
theorem mark_Fresh_v {r : Int × Int × Int × Int} (h : ∀ d s c, Q (.agg [.ptr (some (d, 0)), .ptr (some (s, 0)), .ptr (some (c, 0)), I r.1, I r.2.1, I r.2.2.1, I r.2.2.2]) (own (rDraft eDI clC 2) d [] :: own rSheet s [] :: own rCur c [0, 0, 0] :: P)) :
  Wp H0 P (f_mark_Fresh D [.agg [I r.1, I r.2.1, I r.2.2.1, I r.2.2.2]]) Q := by
 refine Wp.cl ?_
 unfold f_mark_Fresh
 refine go (sheet_New_v fun s => ?_)
 refine Wp.nilT (some (eDI, none)) clC (sz := 2) (by decide) ?_
 refine go fun d c => ?_
 exact ⟨_, h d s c, .fold (⟨none, 0, 0, none⟩ : Sl) (.inl rfl) (.cons rfl (.cons rfl (.cons rfl (.fold () (by rfl) (.cons rfl .refl)))))⟩
def tri0 (n : Int) (r : Int × Int × Int × Int) : Tri := ⟨[], n, [], [], [0, 0, 0], r⟩
theorem attempt_New_v {p : Nat} {v : Vw} {r : Int × Int × Int × Int} [fd : Fnd P rView p v F] (h : ∀ a ac st, Q (.ptr (some (a, 0))) (own rTry a ⟨p, ac, st, tri0 v.clock r⟩ :: own rC ac [.sl ⟨none, 0, 0, none⟩, .sl ⟨none, 0, 0, none⟩, .sl ⟨none, 0, 0, none⟩, .sl ⟨none, 0, 0, none⟩] :: own rC st [.sl ⟨none, 0, 0, none⟩] :: P)) :
  Wp H0 P (f_attempt_New D [.ptr (some (p, 0)), .agg [I r.1, I r.2.1, I r.2.2.1, I r.2.2.2]]) Q := by
 refine Wp.cl ?_
 unfold f_attempt_New
 refine Wp.open rView p fun y _ => ?_
 refine go ?_
 refine Wp.ent (P' := P) (.back rView p (.fold y trivial .refl)) ?_
 refine reads_New_v fun s => ?_
 refine go (mark_Fresh_v fun d sh c => ?_)
 refine go fun ac st a => ?_
 exact ⟨_, h a ac st, .fold (⟨s, d, sh, c⟩ : TrY) trivial (.cons rfl (.cons rfl (.cons rfl (.cons rfl (.cons rfl (.cons rfl (.cons rfl .refl)))))))⟩
variable [Sea] [SeaOk] {n : Nat}
theorem attempt_note_v {p : Nat} {x : TrS} {v : Vw} {k i : Int} [fd : Fnd P rTry p x F] [fv : Fnd F rView x.w v F'] (ok : VOk v) (hk : KOk k i) (hr : RdsOk x.t.rd) (hd : RdDis x.t.rd)
  (h : Q (I (noteE v x.t k i)) (own rTry p { x with t := (noteT v x.t k i).2 } :: F)) : Wp H0 P (f_attempt_Attempt_note (lv (n + 1)) [.ptr (some (p, 0)), I k, I i]) Q := by
 refine Wp.cl ?_
 unfold f_attempt_Attempt_note
 refine Wp.open rTry p fun y _ => ?_
 refine go fun h0 w0 h1 w1 h2 w2 h3 w3 h4 w4 h5 w5 h6 w6 h7 w7 h8 w8 => ?_
 refine attempt_View_Now_v ok ?_
 refine go fun h9 w9 h10 w10 h11 w11 => ⟨⟨⟨Was.eq w11 w10, Was.eq w10 w9, Was.eq w9 w8, Was.eq w8 w7, Was.eq w7 w6, Was.eq w6 w5, Was.eq w5 w4, Was.eq w4 w3, Was.eq w3 w2, Was.eq w2 w1, Was.eq w1 w0, trivial⟩, trivial⟩, ?_⟩
 refine reads_Set_Note_v SeaOk.pl hr hk (Nat.le_trans (rd_len hr hd) (by decide)) ?_
 have e : noteE v x.t k i = if (noteS v (x.t.rd, x.t.stamp) k i).1 = true then 0 else 9 := rfl
 have fin : Ent (own rSet y.set (noteS v (x.t.rd, x.t.stamp) k i).2 :: own rC p (trC x y) :: own (rDraft eDI clC 2) y.dc x.t.dc :: own rSheet y.sh x.t.df :: own rCur y.cu x.t.cu :: F) (own rTry p { x with t := (noteT v x.t k i).2 } :: F) :=
  .fold y trivial (.cons rfl (.cons rfl (.cons rfl (.cons rfl (.cons rfl .refl)))))
 rw [e] at h
 refine go ⟨fun c => ?_, fun c => ?_⟩
 ·rw [if_neg (by simp [c])] at h
  exact ⟨_, h, fin⟩
 ·rw [if_pos c] at h
  exact ⟨_, h, fin⟩
end
theorem shG_good {fs : List (Fl × Int)} {df : List (Int × Fl)} {i : Int} (h1 : ∀ e ∈ fs, goodF e.1) (h2 : ∀ e ∈ df, goodF e.2) : goodF (shG fs df i).1 := by
 unfold shG
 cases hg : getD df i with
 | some f => exact h2 _ (getD_some hg)
 | none =>
  simp only
  cases hf : fs[i.toNat]? with
  | none => exact ⟨by decide, .inr rfl⟩
  | some x => exact h1 x (List.mem_of_getElem? hf)
theorem putB_good {f : Fl} {a : Int} {b : UInt8} (h : goodF f) : goodF (putB f a b) := by
 unfold putB
 split
 ·exact h
 ·refine ⟨?_, .inl rfl⟩
  have := h.1
  simp; omega
theorem cutB_good {f : Fl} {n : Int} (h : goodF f) : goodF (cutB f n) := by
 unfold cutB
 split
 ·exact h
 ·refine ⟨?_, .inl rfl⟩
  have := h.1
  simp; omega
theorem noFl_good : goodF noFl := ⟨by decide, .inr rfl⟩
theorem shP_good {fs : List (Fl × Int)} {df : List (Int × Fl)} {i : Int} {f : Fl} (hr : Rise df) (h2 : ∀ e ∈ df, goodF e.2) (hf : goodF f) : ∀ e ∈ shP fs df i f, goodF e.2 := by
 unfold shP
 split
 ·exact h2
 ·intro e he
  rcases (mem_putD hr).1 he with rfl | ⟨q, _⟩
  ·exact hf
  ·exact h2 e q
theorem shR_good {fs : List (Fl × Int)} {df : List (Int × Fl)} {i j : Int} (hd : DfOk df) (hj : 0 ≤ j ∧ j < 8) (h1 : ∀ e ∈ fs, goodF e.1) (h2 : ∀ e ∈ df, goodF e.2) : ∀ e ∈ shR fs df i j, goodF e.2 := by
 unfold shR
 split
 ·exact h2
 ·exact shP_good (hd.shP hj).r (shP_good hd.r h2 (shG_good h1 h2)) noFl_good
theorem shP_lt {fs : List (Fl × Int)} {df : List (Int × Fl)} {i : Int} {f : Fl} (hr : Rise df) (h2 : ∀ e ∈ df, e.1 < 6) (hi : i < 6) : ∀ e ∈ shP fs df i f, e.1 < 6 := by
 unfold shP
 split
 ·exact h2
 ·intro e he
  rcases (mem_putD hr).1 he with rfl | ⟨q, _⟩
  ·exact hi
  ·exact h2 e q
theorem shR_lt {fs : List (Fl × Int)} {df : List (Int × Fl)} {i j : Int} (hd : DfOk df) (hj : 0 ≤ j ∧ j < 8) (h2 : ∀ e ∈ df, e.1 < 6) (hi6 : i < 6) (hj6 : j < 6) : ∀ e ∈ shR fs df i j, e.1 < 6 := by
 unfold shR
 split
 ·exact h2
 ·exact shP_lt (hd.shP hj).r (shP_lt hd.r h2 hj6) hi6
section
variable {v : Vw} {t : Tri}
theorem TOk.note {k i : Int} (h : TOk v t) (hk : KOk k i) : TOk v (noteT v t k i).2 := by
 have key : RdsOk (noteS v (t.rd, t.stamp) k i).2.1 ∧ RdDis (noteS v (t.rd, t.stamp) k i).2.1 := by
  unfold noteS
  cases hf : t.rd.find? (fun e => decide (e.k = k) && decide (e.i = i)) with
  | some e => exact ⟨h.rk, h.rd⟩
  | none =>
   have hn : ∀ x ∈ t.rd, ¬ (x.k = k ∧ x.i = i) := fun x hx hh => by
    have := List.find?_eq_none.1 hf x hx
    simp [hh.1, hh.2] at this
   have a1 : ∀ w, RdsOk (t.rd ++ [⟨k, i, w⟩]) := fun w x hx => by
    rcases List.mem_append.1 hx with hx | hx
    ·exact h.rk x hx
    ·simp at hx; subst hx; exact hk
   have a2 : ∀ w, RdDis (t.rd ++ [⟨k, i, w⟩]) := fun w => by
    refine List.pairwise_append.2 ⟨h.rd, List.pairwise_singleton _ _, fun a ha b hb => ?_⟩
    simp at hb; subst hb
    exact hn a ha
   simp only
   split
   ·split
    ·exact ⟨a1 _, a2 _⟩
    ·exact ⟨h.rk, h.rd⟩
   ·exact ⟨a1 _, a2 _⟩
 exact ⟨key.1, key.2, h.dc, h.df, h.cu, h.cr, h.cn, h.fl, h.d6⟩
theorem TOk.load {i : Int} (h : TOk v t) : TOk v (loadT v t i).2 := by
 unfold loadT
 split
 ·exact h
 ·split
  ·exact h
  ·have hn : TOk v (noteT v t 0 i).2 := h.note ⟨by omega, by omega⟩
   split
   ·exact hn
   ·exact hn
theorem TOk.store {i x : Int} (h : TOk v t) : TOk v (storeT t i x).2 := by
 unfold storeT
 split
 ·exact h
 ·exact ⟨h.rk, h.rd, h.dc.put (by omega), h.df, h.cu, h.cr, h.cn, h.fl, h.d6⟩
theorem TOk.touch {i : Int} (h : TOk v t) : TOk v (touchT v t i).2 := by
 unfold touchT
 split
 ·exact h
 ·split
  ·exact h
  ·exact h.note ⟨by omega, by omega⟩
theorem TOk.read {i a : Int} (h : TOk v t) : TOk v (readT v t i a).2 := by
 unfold readT
 split <;> exact h.touch
theorem touch_in {i : Int} (h : (touchT v t i).1.2 = 0) : 0 ≤ i ∧ i < 6 := by
 unfold touchT at h
 split at h
 ·simp at h
 ·omega
theorem TOk.mod {i : Int} {g : Fl → Fl} (h : TOk v t) (hv : VwP v) (hg : ∀ f, goodF f → goodF (g f)) : TOk v (modT v t i g).2 := by
 have h' := h.touch (i := i)
 unfold modT
 simp only
 split
 ·rename_i e
  have hi := touch_in e
  exact ⟨h'.rk, h'.rd, h'.dc, h'.df.shP ⟨hi.1, by omega⟩, h'.cu, h'.cr, h'.cn, shP_good h'.df.r h'.fl (hg _ (shG_good hv.fl h'.fl)), shP_lt h'.df.r h'.d6 hi.2⟩
 ·exact h'
theorem TOk.rename {i j : Int} (h : TOk v t) (hv : VwP v) : TOk v (renameT v t i j).2 := by
 unfold renameT
 split
 ·exact h
 ·have h' := h.touch (i := i)
  split
  ·rename_i e
   have h2 := h'.touch (i := j)
   simp only
   split
   ·rename_i e2
    have hi := touch_in e
    have hj := touch_in e2
    exact ⟨h2.rk, h2.rd, h2.dc, h2.df.shR ⟨hi.1, by omega⟩ ⟨hj.1, by omega⟩, h2.cu, h2.cr, h2.cn, shR_good h2.df ⟨hj.1, by omega⟩ hv.fl h2.fl, shR_lt h2.df ⟨hj.1, by omega⟩ h2.d6 hi.2 hj.2⟩
   ·exact h2
  ·exact h'
theorem TOk.recv {s : Int} (h : TOk v t) (hv : VwP v) : TOk v (recvT v t s).2 := by
 unfold recvT
 split
 ·exact h
 ·rename_i hs
  have h' := h.note (k := 2) (i := s) ⟨by omega, by omega⟩
  split
  ·split
   ·exact h'
   ·rename_i hb
    obtain ⟨c, hc⟩ : ∃ c, t.cu[s.toNat]? = some c := ⟨_, List.getElem?_eq_getElem (by rw [h.cu]; omega)⟩
    obtain ⟨x, hx⟩ : ∃ c, v.places[s.toNat]? = some c := ⟨_, List.getElem?_eq_getElem (by rw [hv.ok.p]; omega)⟩
    obtain ⟨l, hl⟩ : ∃ c, v.texts[s.toNat]? = some c := ⟨_, List.getElem?_eq_getElem (by rw [hv.ok.t]; omega)⟩
    have hc0 := h.cr _ _ hc
    have hx0 := hv.pl _ _ _ hx hl
    rw [hc, hx, hl] at hb
    simp only [Option.getD_some, Option.map_some] at hb
    rw [atL_neg (by omega)] at hb
    refine ⟨h'.rk, h'.rd, h'.dc, h'.df, by simp [h.cu], fun k d hk => ?_, fun k d y m hk hy hm => ?_, h'.fl, h'.d6⟩
    ·simp only at hk
     rw [List.getElem?_set] at hk
     split at hk
     ·split at hk
      ·cases hk; rw [hc]; simp; omega
      ·cases hk
     ·exact h.cr k d hk
    ·simp only at hk
     rw [List.getElem?_set] at hk
     split at hk
     ·rename_i e
      subst e
      split at hk
      ·cases hk
       rw [hx] at hy; cases hy
       rw [hl] at hm; cases hm
       rw [hc]; simp; omega
      ·cases hk
     ·exact h.cn k d y m hk hy hm
  ·exact h'
end
structure Dee where
 k : Int
 a : Int
 b : Int
 c : UInt8
def doT (v : Vw) (t : Tri) (d : Dee) : Tri :=
 if d.k = 0 then (loadT v t d.a).2 else if d.k = 1 then (storeT t d.a d.b).2 else if d.k = 2 then (readT v t d.a d.b).2
 else if d.k = 3 then (modT v t d.a fun f => putB f d.b d.c).2 else if d.k = 4 then (modT v t d.a fun f => (true, f.2)).2
 else if d.k = 5 then (modT v t d.a fun _ => noFl).2 else if d.k = 6 then (renameT v t d.a d.b).2
 else if d.k = 7 then (modT v t d.a fun f => cutB f d.b).2 else if d.k = 8 then (recvT v t d.a).2 else t
theorem make_good {f : Fl} (h : goodF f) : goodF (true, f.2) := ⟨h.1, .inl rfl⟩
theorem TOk.doT {v : Vw} {t : Tri} {d : Dee} (h : TOk v t) (hv : VwP v) : TOk v (doT v t d) := by
 unfold HQ.doT
 split
 ·exact h.load
 split
 ·exact h.store
 split
 ·exact h.read
 split
 ·exact h.mod hv fun f hf => putB_good hf
 split
 ·exact h.mod hv fun f hf => make_good hf
 split
 ·exact h.mod hv fun f hf => noFl_good
 split
 ·exact h.rename hv
 split
 ·exact h.mod hv fun f hf => cutB_good hf
 split
 ·exact h.recv hv
 ·exact h
section
variable {H0 : Heap} {P F F' : List HP} {Q : HV → List HP → Prop} {D : DD} [Sea] [SeaOk] {n : Nat}
theorem attempt_Load_v {p : Nat} {x : TrS} {v : Vw} {i : Int} [fd : Fnd P rTry p x F] [fv : Fnd F rView x.w v F'] (hv : VwP v) (ht : TOk v x.t)
  (h : Q (.tup [I (loadT v x.t i).1.1, I (loadT v x.t i).1.2]) (own rTry p { x with t := (loadT v x.t i).2 } :: F)) : Wp H0 P (f_attempt_Attempt_Load (lv (n + 1)) [.ptr (some (p, 0)), I i]) Q := by
 refine Wp.cl ?_
 unfold f_attempt_Attempt_Load
 have out : i < 0 ∨ 8 ≤ i → Q (.tup [I 0, I 1]) (own rTry p x :: F) := fun c => by
  have e : loadT v x.t i = ((0, 1), x.t) := by unfold loadT; rw [if_pos c]
  rw [e] at h; exact h
 refine go ⟨fun c => ⟨_, out (.inl c), .perm fd.p⟩, fun c => ⟨fun c2 => ⟨_, out (.inr c2), .perm fd.p⟩, fun c2 => ?_⟩⟩
 have hin : ¬ (i < 0 ∨ 8 ≤ i) := by omega
 refine Wp.open rTry p fun y _ => ?_
 refine go ?_
 refine draft_Get_int_v SeaOk.bi ht.dc.r ht.dc.n (fun z hz => ?_) (fun hz => ?_)
 ·have e : loadT v x.t i = ((z, 0), x.t) := by unfold loadT; rw [if_neg hin, hz]
  rw [e] at h
  refine go ?_
  exact ⟨_, h, .fold y trivial .refl⟩
 ·refine go ?_
  refine Wp.ent (P' := own rTry p x :: F) (.fold y trivial .refl) ?_
  refine attempt_note_v hv.ok ⟨by omega, by omega⟩ ht.rk ht.rd ?_
  obtain ⟨w, hw⟩ : ∃ c, v.cells[i.toNat]? = some c := ⟨_, List.getElem?_eq_getElem (by rw [hv.ok.c]; omega)⟩
  by_cases hn : (noteT v x.t 0 i).1 = true
  ·have e : loadT v x.t i = ((w.1, 0), (noteT v x.t 0 i).2) := by unfold loadT; rw [if_neg hin, hz, if_pos hn, hw]; rfl
   rw [e] at h
   have e2 : noteE v x.t 0 i = 0 := by unfold noteE; rw [if_pos hn]
   rw [e2]
   refine Wp.open rTry p fun y _ => ?_
   refine Wp.open rView x.w fun z _ => ?_
   refine go ?_
   refine cell_Row_int_Get_v (by omega) hw ?_
   refine go ?_
   refine ⟨_, h, .fold y trivial (.cons rfl (.cons rfl (.cons rfl (.cons rfl (.cons rfl ?_)))))⟩
   exact .back rView x.w (.fold z trivial .refl)
  ·have e : loadT v x.t i = ((0, 9), (noteT v x.t 0 i).2) := by unfold loadT; rw [if_neg hin, hz, if_neg hn]
   rw [e] at h
   have e2 : noteE v x.t 0 i = 9 := by unfold noteE; rw [if_neg hn]
   rw [e2]
   refine go ⟨fun _ => ⟨_, h, .refl⟩, fun c => by omega⟩
theorem attempt_Store_v {p : Nat} {x : TrS} {v : Vw} {i z : Int} [fd : Fnd P rTry p x F] (ht : TOk v x.t)
  (h : Q (I (storeT x.t i z).1) (own rTry p { x with t := (storeT x.t i z).2 } :: F)) : Wp H0 P (f_attempt_Attempt_Store (lv (n + 1)) [.ptr (some (p, 0)), I i, I z]) Q := by
 refine Wp.cl ?_
 unfold f_attempt_Attempt_Store
 have out : i < 0 ∨ 8 ≤ i → Q (I 1) (own rTry p x :: F) := fun c => by
  have e : storeT x.t i z = (1, x.t) := by unfold storeT; rw [if_pos c]
  rw [e] at h; exact h
 refine go ⟨fun c => ⟨_, out (.inl c), .perm fd.p⟩, fun c => ⟨fun c2 => ⟨_, out (.inr c2), .perm fd.p⟩, fun c2 => ?_⟩⟩
 have e : storeT x.t i z = (0, { x.t with dc := putD x.t.dc i z }) := by unfold storeT; rw [if_neg (by omega)]
 rw [e] at h
 refine Wp.open rTry p fun y _ => ?_
 refine go ?_
 refine draft_Put_int_v SeaOk.bi ht.dc.r ht.dc.n ?_
 refine go ?_
 exact ⟨_, h, .fold y trivial (.cons rfl (.cons rfl (.cons rfl (.cons rfl (.cons rfl .refl)))))⟩
theorem attempt_touch_v {p : Nat} {x : TrS} {v : Vw} {i : Int} [fd : Fnd P rTry p x F] [fv : Fnd F rView x.w v F'] (hv : VwP v) (ht : TOk v x.t)
  (h : Q (.tup [.agg [.bool (touchT v x.t i).1.1.1, .str (S (touchT v x.t i).1.1.2)], I (touchT v x.t i).1.2]) (own rTry p { x with t := (touchT v x.t i).2 } :: F)) : Wp H0 P (f_attempt_Attempt_touch (lv (n + 1)) [.ptr (some (p, 0)), I i]) Q := by
 refine Wp.cl ?_
 unfold f_attempt_Attempt_touch
 have out : i < 0 ∨ 6 ≤ i → Q (.tup [.agg [.bool false, .str (S [])], I 1]) (own rTry p x :: F) := fun c => by
  have e : touchT v x.t i = ((noFl, 1), x.t) := by unfold touchT; rw [if_pos c]
  rw [e] at h; exact h
 refine go ⟨fun c => ⟨_, out (.inl c), .perm fd.p⟩, fun c => ⟨fun c2 => ⟨_, out (.inr c2), .perm fd.p⟩, fun c2 => ?_⟩⟩
 have hin : ¬ (i < 0 ∨ 6 ≤ i) := by omega
 refine Wp.open rTry p fun y _ => ?_
 refine Wp.open rView x.w fun z _ => ?_
 refine go ?_
 have fin : Ent (own rC x.w [.ptr (some (z.1, 0)), .ptr (some (z.2.1, 0)), .ptr (some (z.2.2, 0)), I v.clock] :: own (rRow clC 2) z.1 v.cells :: own rTome z.2.1 v.files :: own rFeed z.2.2 (v.texts, v.places) ::
   own rC p (trC x y) :: own rSet y.set (x.t.rd, x.t.stamp) :: own (rDraft eDI clC 2) y.dc x.t.dc :: own rSheet y.sh x.t.df :: own rCur y.cu x.t.cu :: F') (own rTry p x :: F) :=
  .fold y trivial (.cons rfl (.cons rfl (.cons rfl (.cons rfl (.cons rfl (.back rView x.w (.fold z trivial .refl)))))))
 refine sheet_Get_v SeaOk.bf ht.df (by omega) (by rw [hv.ok.f]; omega) ?_
 refine go ⟨fun c => ?_, fun c => ?_⟩
 ·have e : touchT v x.t i = (((shG v.files x.t.df i).1, 0), x.t) := by unfold touchT; rw [if_neg hin, if_pos c]
  rw [e] at h
  exact ⟨_, h, fin⟩
 ·have e : touchT v x.t i = (((shG v.files x.t.df i).1, noteE v x.t 1 i), (noteT v x.t 1 i).2) := by unfold touchT; rw [if_neg hin, if_neg (by simp [c])]
  rw [e] at h
  refine Wp.ent fin ?_
  refine attempt_note_v hv.ok ⟨by omega, by omega⟩ ht.rk ht.rd ?_
  refine go ?_
  exact ⟨_, h, .refl⟩
theorem attempt_Read_v {p : Nat} {x : TrS} {v : Vw} {i a : Int} [fd : Fnd P rTry p x F] [fv : Fnd F rView x.w v F'] (hv : VwP v) (ht : TOk v x.t)
  (h : Q (.tup [I (readT v x.t i a).1.1, I (readT v x.t i a).1.2]) (own rTry p { x with t := (readT v x.t i a).2 } :: F)) : Wp H0 P (f_attempt_Attempt_Read (lv (n + 1)) [.ptr (some (p, 0)), I i, I a]) Q := by
 unfold f_attempt_Attempt_Read
 refine go (attempt_touch_v hv ht ?_)
 refine go ⟨fun c => ?_, fun c => ?_⟩
 ·have e : readT v x.t i a = ((0, (touchT v x.t i).1.2), (touchT v x.t i).2) := by unfold readT; rw [if_neg c]
  rw [e] at h; exact h
 ·have e : readT v x.t i a = ((atL (touchT v x.t i).1.1.2 a, 0), (touchT v x.t i).2) := by unfold readT; rw [if_pos c]
  rw [e] at h
  refine file_At_v (f := (touchT v x.t i).1.1) ?_
  exact go h
theorem attempt_Write_v {p : Nat} {x : TrS} {v : Vw} {i : Int} {a : Int} {b : UInt8} [fd : Fnd P rTry p x F] [fv : Fnd F rView x.w v F'] (hv : VwP v) (ht : TOk v x.t)
  (h : Q (I (modT v x.t i (fun f => putB f a b)).1) (own rTry p { x with t := (modT v x.t i (fun f => putB f a b)).2 } :: F)) : Wp H0 P (f_attempt_Attempt_Write (lv (n + 1)) [.ptr (some (p, 0)), I i, I a, .int .u8 (b.toNat : Int)]) Q := by
 refine Wp.cl ?_
 unfold f_attempt_Attempt_Write
 have hT := ht.touch (i := i)
 refine go (attempt_touch_v hv ht ?_)
 refine go ⟨fun c => ?_, fun c => ?_⟩
 ·have e : modT v x.t i (fun f => putB f a b) = ((touchT v x.t i).1.2, { (touchT v x.t i).2 with df := shP v.files (touchT v x.t i).2.df i ((fun f => putB f a b) (shG v.files (touchT v x.t i).2.df i).1) }) := by unfold modT; rw [if_pos c]
  rw [e] at h
  have hi := touch_in c
  generalize (touchT v x.t i).1.2 = ec at h
  generalize (touchT v x.t i).2 = T at h hT
  refine Wp.open rTry p fun y _ => ?_
  refine Wp.open rView x.w fun z _ => ?_
  refine go ?_
  refine sheet_Write_v SeaOk.bf hT.df hi.1 hi.2 hv.ok.f (Nat.le_trans (shG_good hv.fl hT.fl).1 (by decide)) ?_
  refine go ?_
  exact ⟨_, h, .fold y trivial (.cons rfl (.cons rfl (.cons rfl (.cons rfl (.cons rfl (.back rView x.w (.fold z trivial (.cons rfl (.cons rfl (.cons rfl (.cons rfl .refl)))))))))))⟩
 ·have e : modT v x.t i (fun f => putB f a b) = ((touchT v x.t i).1.2, (touchT v x.t i).2) := by unfold modT; rw [if_neg c]
  rw [e] at h
  exact ⟨_, h, .refl⟩
theorem attempt_Cut_v {p : Nat} {x : TrS} {v : Vw} {i : Int} {a : Int} [fd : Fnd P rTry p x F] [fv : Fnd F rView x.w v F'] (hv : VwP v) (ht : TOk v x.t)
  (h : Q (I (modT v x.t i (fun f => cutB f a)).1) (own rTry p { x with t := (modT v x.t i (fun f => cutB f a)).2 } :: F)) : Wp H0 P (f_attempt_Attempt_Cut (lv (n + 1)) [.ptr (some (p, 0)), I i, I a]) Q := by
 refine Wp.cl ?_
 unfold f_attempt_Attempt_Cut
 have hT := ht.touch (i := i)
 refine go (attempt_touch_v hv ht ?_)
 refine go ⟨fun c => ?_, fun c => ?_⟩
 ·have e : modT v x.t i (fun f => cutB f a) = ((touchT v x.t i).1.2, { (touchT v x.t i).2 with df := shP v.files (touchT v x.t i).2.df i ((fun f => cutB f a) (shG v.files (touchT v x.t i).2.df i).1) }) := by unfold modT; rw [if_pos c]
  rw [e] at h
  have hi := touch_in c
  generalize (touchT v x.t i).1.2 = ec at h
  generalize (touchT v x.t i).2 = T at h hT
  refine Wp.open rTry p fun y _ => ?_
  refine Wp.open rView x.w fun z _ => ?_
  refine go ?_
  refine sheet_Cut_v SeaOk.bf hT.df hi.1 hi.2 hv.ok.f (Nat.le_trans (shG_good hv.fl hT.fl).1 (by decide)) ?_
  refine go ?_
  exact ⟨_, h, .fold y trivial (.cons rfl (.cons rfl (.cons rfl (.cons rfl (.cons rfl (.back rView x.w (.fold z trivial (.cons rfl (.cons rfl (.cons rfl (.cons rfl .refl)))))))))))⟩
 ·have e : modT v x.t i (fun f => cutB f a) = ((touchT v x.t i).1.2, (touchT v x.t i).2) := by unfold modT; rw [if_neg c]
  rw [e] at h
  exact ⟨_, h, .refl⟩
theorem attempt_Create_v {p : Nat} {x : TrS} {v : Vw} {i : Int} [fd : Fnd P rTry p x F] [fv : Fnd F rView x.w v F'] (hv : VwP v) (ht : TOk v x.t)
  (h : Q (I (modT v x.t i (fun f => (true, f.2))).1) (own rTry p { x with t := (modT v x.t i (fun f => (true, f.2))).2 } :: F)) : Wp H0 P (f_attempt_Attempt_Create (lv (n + 1)) [.ptr (some (p, 0)), I i]) Q := by
 refine Wp.cl ?_
 unfold f_attempt_Attempt_Create
 have hT := ht.touch (i := i)
 refine go (attempt_touch_v hv ht ?_)
 refine go ⟨fun c => ?_, fun c => ?_⟩
 ·have e : modT v x.t i (fun f => (true, f.2)) = ((touchT v x.t i).1.2, { (touchT v x.t i).2 with df := shP v.files (touchT v x.t i).2.df i ((fun f => (true, f.2)) (shG v.files (touchT v x.t i).2.df i).1) }) := by unfold modT; rw [if_pos c]
  rw [e] at h
  have hi := touch_in c
  generalize (touchT v x.t i).1.2 = ec at h
  generalize (touchT v x.t i).2 = T at h hT
  refine Wp.open rTry p fun y _ => ?_
  refine Wp.open rView x.w fun z _ => ?_
  refine go ?_
  refine sheet_Create_v SeaOk.bf hT.df hi.1 hi.2 hv.ok.f  ?_
  refine go ?_
  exact ⟨_, h, .fold y trivial (.cons rfl (.cons rfl (.cons rfl (.cons rfl (.cons rfl (.back rView x.w (.fold z trivial (.cons rfl (.cons rfl (.cons rfl (.cons rfl .refl)))))))))))⟩
 ·have e : modT v x.t i (fun f => (true, f.2)) = ((touchT v x.t i).1.2, (touchT v x.t i).2) := by unfold modT; rw [if_neg c]
  rw [e] at h
  exact ⟨_, h, .refl⟩
theorem attempt_Remove_v {p : Nat} {x : TrS} {v : Vw} {i : Int} [fd : Fnd P rTry p x F] [fv : Fnd F rView x.w v F'] (hv : VwP v) (ht : TOk v x.t)
  (h : Q (I (modT v x.t i (fun _ => noFl)).1) (own rTry p { x with t := (modT v x.t i (fun _ => noFl)).2 } :: F)) : Wp H0 P (f_attempt_Attempt_Remove (lv (n + 1)) [.ptr (some (p, 0)), I i]) Q := by
 refine Wp.cl ?_
 unfold f_attempt_Attempt_Remove
 have hT := ht.touch (i := i)
 refine go (attempt_touch_v hv ht ?_)
 refine go ⟨fun c => ?_, fun c => ?_⟩
 ·have e : modT v x.t i (fun _ => noFl) = ((touchT v x.t i).1.2, { (touchT v x.t i).2 with df := shP v.files (touchT v x.t i).2.df i ((fun _ => noFl) (shG v.files (touchT v x.t i).2.df i).1) }) := by unfold modT; rw [if_pos c]
  rw [e] at h
  have hi := touch_in c
  generalize (touchT v x.t i).1.2 = ec at h
  generalize (touchT v x.t i).2 = T at h hT
  refine Wp.open rTry p fun y _ => ?_
  refine Wp.open rView x.w fun z _ => ?_
  refine go ?_
  refine sheet_Remove_v SeaOk.bf hT.df hi.1 hi.2 hv.ok.f  ?_
  refine go ?_
  exact ⟨_, h, .fold y trivial (.cons rfl (.cons rfl (.cons rfl (.cons rfl (.cons rfl (.back rView x.w (.fold z trivial (.cons rfl (.cons rfl (.cons rfl (.cons rfl .refl)))))))))))⟩
 ·have e : modT v x.t i (fun _ => noFl) = ((touchT v x.t i).1.2, (touchT v x.t i).2) := by unfold modT; rw [if_neg c]
  rw [e] at h
  exact ⟨_, h, .refl⟩
theorem attempt_Rename_v {p : Nat} {x : TrS} {v : Vw} {i j : Int} [fd : Fnd P rTry p x F] [fv : Fnd F rView x.w v F'] (hv : VwP v) (ht : TOk v x.t)
  (h : Q (I (renameT v x.t i j).1) (own rTry p { x with t := (renameT v x.t i j).2 } :: F)) : Wp H0 P (f_attempt_Attempt_Rename (lv (n + 1)) [.ptr (some (p, 0)), I i, I j]) Q := by
 refine Wp.cl ?_
 unfold f_attempt_Attempt_Rename
 have out : j < 0 ∨ 6 ≤ j → Q (I 1) (own rTry p x :: F) := fun c => by
  have e : renameT v x.t i j = (1, x.t) := by unfold renameT; rw [if_pos c]
  rw [e] at h; exact h
 refine go ⟨fun c => ⟨_, out (.inl c), .perm fd.p⟩, fun c => ⟨fun c2 => ⟨_, out (.inr c2), .perm fd.p⟩, fun c2 => ?_⟩⟩
 have hin : ¬ (j < 0 ∨ 6 ≤ j) := by omega
 have hT := ht.touch (i := i)
 refine attempt_touch_v hv ht ?_
 refine go ⟨fun c => ?_, fun c => ?_⟩
 ·have e : renameT v x.t i j = ((touchT v (touchT v x.t i).2 j).1.2, if (touchT v (touchT v x.t i).2 j).1.2 = 0 then { (touchT v (touchT v x.t i).2 j).2 with df := shR v.files (touchT v (touchT v x.t i).2 j).2.df i j } else (touchT v (touchT v x.t i).2 j).2) := by unfold renameT; rw [if_neg hin, if_pos c]
  rw [e] at h
  have hi := touch_in c
  refine attempt_touch_v (x := { x with t := (touchT v x.t i).2 }) hv hT ?_
  have hT2 := hT.touch (i := j)
  refine go ⟨fun c3 => ?_, fun c3 => ?_⟩
  ·have hj := touch_in c3
   simp only at c3 h
   rw [if_pos c3] at h
   generalize (touchT v (touchT v x.t i).2 j).1.2 = ec at h
   generalize (touchT v (touchT v x.t i).2 j).2 = T at h hT2
   refine Wp.open rTry p fun y _ => ?_
   refine Wp.open rView x.w fun z _ => ?_
   refine go ?_
   refine sheet_Rename_v SeaOk.bf hT2.df hi hj hv.ok.f ?_
   refine go ?_
   exact ⟨_, h, .fold y trivial (.cons rfl (.cons rfl (.cons rfl (.cons rfl (.cons rfl (.back rView x.w (.fold z trivial (.cons rfl (.cons rfl (.cons rfl (.cons rfl .refl)))))))))))⟩
  ·simp only at c3 h
   rw [if_neg c3] at h
   exact ⟨_, h, .refl⟩
 ·have e : renameT v x.t i j = ((touchT v x.t i).1.2, (touchT v x.t i).2) := by unfold renameT; rw [if_neg hin, if_neg c]
  rw [e] at h
  refine ⟨fun c3 => absurd c3 c, fun _ => ?_⟩
  exact ⟨_, h, .refl⟩
theorem attempt_Recv_v {p : Nat} {x : TrS} {v : Vw} {s : Int} [fd : Fnd P rTry p x F] [fv : Fnd F rView x.w v F'] (hv : VwP v) (ht : TOk v x.t)
  (h : Q (.tup [I (recvT v x.t s).1.1, I (recvT v x.t s).1.2]) (own rTry p { x with t := (recvT v x.t s).2 } :: F)) : Wp H0 P (f_attempt_Attempt_Recv (lv (n + 1)) [.ptr (some (p, 0)), I s]) Q := by
 refine Wp.cl ?_
 unfold f_attempt_Attempt_Recv
 have out : s < 0 ∨ 3 ≤ s → Q (.tup [I 0, I 1]) (own rTry p x :: F) := fun c => by
  have e : recvT v x.t s = ((0, 1), x.t) := by unfold recvT; rw [if_pos c]
  rw [e] at h; exact h
 refine go ⟨fun c => ⟨_, out (.inl c), .perm fd.p⟩, fun c => ⟨fun c2 => ⟨_, out (.inr c2), .perm fd.p⟩, fun c2 => ?_⟩⟩
 have hin : ¬ (s < 0 ∨ 3 ≤ s) := by omega
 obtain ⟨c, hc⟩ : ∃ c, x.t.cu[s.toNat]? = some c := ⟨_, List.getElem?_eq_getElem (by rw [ht.cu]; omega)⟩
 obtain ⟨pl, hx⟩ : ∃ c, v.places[s.toNat]? = some c := ⟨_, List.getElem?_eq_getElem (by rw [hv.ok.p]; omega)⟩
 obtain ⟨l, hl⟩ : ∃ c, v.texts[s.toNat]? = some c := ⟨_, List.getElem?_eq_getElem (by rw [hv.ok.t]; omega)⟩
 have hc0 := ht.cr _ _ hc
 have hx0 := hv.pl _ _ _ hx hl
 have hl0 := hv.tx _ (List.mem_of_getElem? hl)
 have hcn := ht.cn _ _ _ _ hc hx hl
 refine attempt_note_v hv.ok ⟨by omega, by omega⟩ ht.rk ht.rd ?_
 by_cases hn : (noteT v x.t 2 s).1 = true
 ·have e2 : noteE v x.t 2 s = 0 := by unfold noteE; rw [if_pos hn]
  rw [e2]
  refine Wp.open rTry p fun y _ => ?_
  refine Wp.open rView x.w fun z _ => ?_
  refine go ?_
  refine feed_Place_v (by omega) hx ?_
  refine go fun h0 w0 h1 w1 h2 w2 h3 w3 h4 w4 h5 w5 h6 w6 h7 w7 h8 w8 h9 w9 h10 w10 h11 w11 h12 w12 h13 w13 h14 w14 h15 w15 => ?_
  refine cursor_At_v ⟨by omega, by omega⟩ hc ?_
  refine go fun h16 w16 => ⟨⟨⟨Was.eq w16 w15, Was.eq w15 w14, Was.eq w14 w13, Was.eq w13 w12, Was.eq w12 w11, Was.eq w11 w10, Was.eq w10 w9, Was.eq w9 w8, Was.eq w8 w7, Was.eq w7 w6, Was.eq w6 w5, Was.eq w5 w4, Was.eq w4 w3, Was.eq w3 w2, Was.eq w2 w1, Was.eq w1 w0, trivial⟩, ⟨Was.eq w16 w15, Was.eq w15 w14, Was.eq w14 w13, Was.eq w13 w12, Was.eq w12 w11, Was.eq w11 w10, Was.eq w10 w9, Was.eq w9 w8, Was.eq w8 w7, Was.eq w7 w6, Was.eq w6 w5, Was.eq w5 w4, Was.eq w4 w3, Was.eq w3 w2, Was.eq w2 w1, Was.eq w1 w0, trivial⟩, trivial⟩, ?_⟩
  refine feed_At_v (by omega) (by omega) hl ?_
  rw [wr_small (by omega) (by omega)]
  refine go ⟨fun c3 => ?_, fun c3 => ?_⟩
  ·have e : recvT v x.t s = ((0, 10), (noteT v x.t 2 s).2) := by unfold recvT; rw [if_neg hin, if_pos hn, if_pos (by rw [hc, hx, hl]; exact c3)]
   rw [e] at h
   exact ⟨_, h, .fold y trivial (.cons rfl (.cons rfl (.cons rfl (.cons rfl (.cons rfl (.back rView x.w (.fold z trivial .refl)))))))⟩
  ·have e : recvT v x.t s = ((atL l (pl.1 + c), 0), { (noteT v x.t 2 s).2 with cu := x.t.cu.set s.toNat (c + 1) }) := by unfold recvT; rw [if_neg hin, if_pos hn, if_neg (by rw [hc, hx, hl]; exact c3), hc, hx, hl]; rfl
   rw [e] at h
   rw [atL_neg (by omega)] at c3
   refine cursor_Step_v ⟨by omega, by omega⟩ hc hc0 (by omega) ?_
   refine go ?_
   exact ⟨_, h, .fold y trivial (.cons rfl (.cons rfl (.cons rfl (.cons rfl (.cons rfl (.back rView x.w (.fold z trivial .refl)))))))⟩
 ·have e : recvT v x.t s = ((0, 9), (noteT v x.t 2 s).2) := by unfold recvT; rw [if_neg hin, if_neg hn]
  rw [e] at h
  have e2 : noteE v x.t 2 s = 9 := by unfold noteE; rw [if_neg hn]
  rw [e2]
  refine go ⟨fun _ => ⟨_, h, .refl⟩, fun c => by omega⟩
end
end Go.Proofs.YtbphjihgbenkdaaGreat.HQ
