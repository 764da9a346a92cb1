/- Lemmas for the row. Conditions: none. -/
import Derived.Test.YtbphjihgbenkdaaGreatHQSp3
import Derived.Test.YtbphjihgbenkdaaGreatHQ5a
namespace Go.Proofs.YtbphjihgbenkdaaGreat.HQ
set_option linter.unusedVariables false
set_option linter.unusedSectionVars false
set_option linter.unusedSimpArgs false
open Go
abbrev Fl := Bool × List UInt8
def noFl : Fl := (false, [])
structure Rd where
 k : Int
 i : Int
 v : Int
deriving DecidableEq
abbrev Rd.cs (e : Rd) : List HV := [I e.k, I e.i, I e.v]
structure Vw where
 cells : List (Int × Int)
 files : List (Fl × Int)
 texts : List (List UInt8)
 places : List (Int × Int)
 clock : Int
structure Tri where
 rd : List Rd
 stamp : Int
 dc : List (Int × Int)
 df : List (Int × Fl)
 cu : List Int
 rg : Int × Int × Int × Int
abbrev clC (x : Int × Int) : List HV := [I x.1, I x.2]
abbrev flC (x : Fl × Int) : List HV := [.bool x.1.1, .str (S x.1.2), I x.2]
abbrev dfC (x : Int × Fl) : List HV := [I x.1, .bool x.2.1, .str (S x.2.2)]
/-! drafts -/
def getD {α : Type} (l : List (Int × α)) (i : Int) : Option α := (l.find? fun x => decide (x.1 = i)).map Prod.snd
def Rise {α : Type} (l : List (Int × α)) : Prop := l.Pairwise fun a b => a.1 < b.1
def posD {α : Type} (l : List (Int × α)) (i : Int) : Nat := l.countP fun x => decide (x.1 < i)
def putD {α : Type} (l : List (Int × α)) (i : Int) (x : α) : List (Int × α) := match getD l i with
 | some _ => l.set (posD l i) (i, x)
 | none => l.take (posD l i) ++ (i, x) :: l.drop (posD l i)
/-! versions -/
def verOf (v : Vw) (k i : Int) : Int :=
 if k = 0 then (v.cells[i.toNat]?.map Prod.snd).getD 0 else if k = 1 then (v.files[i.toNat]?.map Prod.snd).getD 0 else (v.places[i.toNat]?.map Prod.snd).getD 0
def validB (v : Vw) (rd : List Rd) : Bool := rd.all fun e => decide (verOf v e.k e.i = e.v)
def atL (l : List UInt8) (i : Int) : Int := if i < 0 ∨ (l.length : Int) ≤ i then -1 else ((l[i.toNat]?).getD 0).toNat
/-! files -/
def putB (f : Fl) (a : Int) (b : UInt8) : Fl := if a < 0 ∨ 32 ≤ a then f else (true, (f.2 ++ List.replicate (a.toNat + 1 - f.2.length) 0).set a.toNat b)
def cutB (f : Fl) (n : Int) : Fl := if f.1 = false ∨ n < 0 ∨ 32 < n then f else (true, f.2.take n.toNat ++ List.replicate (n.toNat - f.2.length) 0)
def goodF (f : Fl) : Prop := f.2.length ≤ 32 ∧ (f.1 = true ∨ f.2 = [])
def shG (fs : List (Fl × Int)) (df : List (Int × Fl)) (i : Int) : Fl × Bool := match getD df i with
 | some f => (f, true)
 | none => ((fs[i.toNat]?.map Prod.fst).getD noFl, false)
def shP (fs : List (Fl × Int)) (df : List (Int × Fl)) (i : Int) (f : Fl) : List (Int × Fl) := if (shG fs df i).1 = f then df else putD df i f
def shR (fs : List (Fl × Int)) (df : List (Int × Fl)) (i j : Int) : List (Int × Fl) := if (shG fs df i).1.1 = false ∨ i = j then df else shP fs (shP fs df j (shG fs df i).1) i noFl
class Sea where
 cl : List (Nat × Clo)
 rn : List (Nat × Rnd)
def lv [Sea] (n : Nat) : DD := levD Sea.cl Sea.rn n
theorem lv_succ [Sea] (n : Nat) : lv (n + 1) = stepD Sea.cl Sea.rn (lv n) := rfl
def rRow {γ : Type} (f : γ → List HV) (sz : Nat) (p : Nat) (xs : List γ) : HP := fun h => ∃ s, Al [own rC p [.sl s], own (rR f sz) s xs] h
instance {γ : Type} {f : γ → List HV} {sz p : Nat} {xs : List γ} : Opn (rRow f sz) p xs Sl (fun _ => True) (fun s F => own rC p [.sl s] :: own (rR f sz) s xs :: F) :=
 ⟨fun _ => ⟨fun ⟨s, h⟩ => ⟨s, trivial, h⟩, fun ⟨s, _, h⟩ => ⟨s, h⟩⟩, fun _ _ => rfl⟩
section
variable {D : DD} {H0 : Heap} {P F : List HP} {Q : HV → List HP → Prop}
theorem cell_New_int_v {n : Nat} {x : Int} (hn : n ≤ 1000) (h : ∀ b, Q (.ptr (some (b, 0))) (own (rRow clC 2) b (List.replicate n (x, 0)) :: P)) : Wp H0 P (f_cell_New_int D [I n, I x]) Q := by
 refine Wp.cl ?_
 unfold f_cell_New_int
 refine go fun b => ?_
 refine Wp.nil clC (sz := 2) (by decide) ?_
 have hroom : room = 140737488355328 := rfl
 refine Wp.forL (σ := Sl) n (by omega) rfl (fun _ i => [I i]) (out := fun _ => []) (fun _ _ => rfl) (fun _ _ => True)
  (fun i s => own rC b [.sl s] :: own (rR clC 2) s (List.replicate i (x, 0)) :: P) ⟨none, 0, 0, none⟩ rfl trivial (.cons rfl (.cons rfl .refl)) ?_ ?_
 ·intro i s hi _
  refine go ?_
  refine Wp.apd (x := (x, (0 : Int))) rfl rfl (by simp; omega) (by simp; omega) fun s' => ?_
  refine go ?_
  exact ⟨s', rfl, trivial, .cons rfl (.cons (by rw [List.replicate_succ']) .refl)⟩
 ·intro s _
  refine go ?_
  exact ⟨_, h b, .fold s trivial .refl⟩
theorem cell_New_file_File_v {n : Nat} {x : Fl} (hn : n ≤ 1000) (h : ∀ b, Q (.ptr (some (b, 0))) (own (rRow flC 3) b (List.replicate n (x, 0)) :: P)) : Wp H0 P (f_cell_New_file_File D [I n, .agg [.bool x.1, .str (S x.2)]]) Q := by
 refine Wp.cl ?_
 unfold f_cell_New_file_File
 refine go fun b => ?_
 refine Wp.nil flC (sz := 3) (by decide) ?_
 have hroom : room = 140737488355328 := rfl
 refine Wp.forL (σ := Sl) n (by omega) rfl (fun _ i => [I i]) (out := fun _ => []) (fun _ _ => rfl) (fun _ _ => True)
  (fun i s => own rC b [.sl s] :: own (rR flC 3) s (List.replicate i (x, 0)) :: P) ⟨none, 0, 0, none⟩ rfl trivial (.cons rfl (.cons rfl .refl)) ?_ ?_
 ·intro i s hi _
  refine go ?_
  refine Wp.apd (x := (x, (0 : Int))) rfl rfl (by simp; omega) (by simp; omega) fun s' => ?_
  refine go ?_
  exact ⟨s', rfl, trivial, .cons rfl (.cons (by rw [List.replicate_succ']) .refl)⟩
 ·intro s _
  refine go ?_
  exact ⟨_, h b, .fold s trivial .refl⟩
theorem cell_Row_int_is_v {p : Nat} {xs : List (Int × Int)} {i : Int} [fd : Fnd P (rRow clC 2) p xs F] (h : ∀ b : Bool, (b = true ↔ 0 ≤ i ∧ i < xs.length) → Q (.bool b) P) : Wp H0 P (f_cell_Row_int_is D [.ptr (some (p, 0)), I i]) Q := by
 refine Wp.cl ?_
 unfold f_cell_Row_int_is
 refine Wp.open (rRow clC 2) p fun s _ => ?_
 refine Wp.row (s := s) fun hs => ?_
 refine go ⟨fun h1 => ?_, fun h1 => ?_⟩
 ·exact ⟨_, h _ (by rw [hs.len]; simp; omega), .back (rRow clC 2) p (.fold s trivial .refl)⟩
 ·exact ⟨_, h _ (by simp; omega), .back (rRow clC 2) p (.fold s trivial .refl)⟩
theorem cell_Row_file_File_is_v {p : Nat} {xs : List (Fl × Int)} {i : Int} [fd : Fnd P (rRow flC 3) p xs F] (h : ∀ b : Bool, (b = true ↔ 0 ≤ i ∧ i < xs.length) → Q (.bool b) P) : Wp H0 P (f_cell_Row_file_File_is D [.ptr (some (p, 0)), I i]) Q := by
 refine Wp.cl ?_
 unfold f_cell_Row_file_File_is
 refine Wp.open (rRow flC 3) p fun s _ => ?_
 refine Wp.row (s := s) fun hs => ?_
 refine go ⟨fun h1 => ?_, fun h1 => ?_⟩
 ·exact ⟨_, h _ (by rw [hs.len]; simp; omega), .back (rRow flC 3) p (.fold s trivial .refl)⟩
 ·exact ⟨_, h _ (by simp; omega), .back (rRow flC 3) p (.fold s trivial .refl)⟩
theorem at_lt {γ : Type} {xs : List γ} {i : Int} {x : γ} (h0 : 0 ≤ i) (hx : xs[i.toNat]? = some x) : 0 ≤ i ∧ i < xs.length := ⟨h0, by have := (List.getElem?_eq_some_iff.1 hx).1; omega⟩
theorem cell_Row_int_Get_v {p : Nat} {xs : List (Int × Int)} {i : Int} {x : Int × Int} [fd : Fnd P (rRow clC 2) p xs F] (h0 : 0 ≤ i) (hx : xs[i.toNat]? = some x) (h : Q (.tup [I x.1, I x.2]) P) : Wp H0 P (f_cell_Row_int_Get D [.ptr (some (p, 0)), I i]) Q := by
 refine Wp.cl ?_
 unfold f_cell_Row_int_Get
 refine go (cell_Row_int_is_v fun b hb => ?_)
 rw [hb.2 (at_lt h0 hx)]
 refine Wp.open (rRow clC 2) p fun s _ => ?_
 refine go ?_
 refine Wp.ixC0 (j := i.toNat) (by omega) hx rfl fun _ _ => ?_
 refine go ?_
 refine Wp.ixC (j := i.toNat) (by omega) hx rfl fun _ _ => ?_
 refine go ?_
 exact ⟨_, h, .back (rRow clC 2) p (.fold s trivial .refl)⟩
theorem cell_Row_file_File_Get_v {p : Nat} {xs : List (Fl × Int)} {i : Int} {x : Fl × Int} [fd : Fnd P (rRow flC 3) p xs F] (h0 : 0 ≤ i) (hx : xs[i.toNat]? = some x) (h : Q (.tup [.agg [.bool x.1.1, .str (S x.1.2)], I x.2]) P) : Wp H0 P (f_cell_Row_file_File_Get D [.ptr (some (p, 0)), I i]) Q := by
 refine Wp.cl ?_
 unfold f_cell_Row_file_File_Get
 refine go (cell_Row_file_File_is_v fun b hb => ?_)
 rw [hb.2 (at_lt h0 hx)]
 refine Wp.open (rRow flC 3) p fun s _ => ?_
 refine go ?_
 refine Wp.ixN0 (j := i.toNat) (vs := [.bool x.1.1, .str (S x.1.2)]) (by omega) hx rfl (by decide) fun _ _ => ?_
 refine go ?_
 refine Wp.ixC (j := i.toNat) (by omega) hx rfl fun _ _ => ?_
 refine go ?_
 exact ⟨_, h, .back (rRow flC 3) p (.fold s trivial .refl)⟩
theorem cell_Row_int_Version_v {p : Nat} {xs : List (Int × Int)} {i : Int} {x : Int × Int} [fd : Fnd P (rRow clC 2) p xs F] (h0 : 0 ≤ i) (hx : xs[i.toNat]? = some x) (h : Q (I x.2) P) : Wp H0 P (f_cell_Row_int_Version D [.ptr (some (p, 0)), I i]) Q := by
 unfold f_cell_Row_int_Version
 refine go (cell_Row_int_Get_v h0 hx ?_)
 exact go h
theorem cell_Row_int_Set_v {p : Nat} {xs : List (Int × Int)} {i : Int} {x x' : Int × Int} [fd : Fnd P (rRow clC 2) p xs F] (h0 : 0 ≤ i) (hx : xs[i.toNat]? = some x) (h : Q (.bool true) (own (rRow clC 2) p (xs.set i.toNat x') :: F)) : Wp H0 P (f_cell_Row_int_Set D [.ptr (some (p, 0)), I i, I x'.1, I x'.2]) Q := by
 refine Wp.cl ?_
 unfold f_cell_Row_int_Set
 refine go (cell_Row_int_is_v fun b hb => ?_)
 rw [hb.2 (at_lt h0 hx)]
 refine Wp.open (rRow clC 2) p fun s _ => ?_
 refine go ?_
 refine Wp.ixStN (j := i.toNat) (x' := x') (by omega) hx (by simp) rfl ?_
 refine go ?_
 exact ⟨_, h, .fold s trivial (.cons rfl (.cons rfl .refl))⟩
theorem cell_Row_file_File_Set_v {p : Nat} {xs : List (Fl × Int)} {i : Int} {x x' : Fl × Int} [fd : Fnd P (rRow flC 3) p xs F] (h0 : 0 ≤ i) (hx : xs[i.toNat]? = some x) (h : Q (.bool true) (own (rRow flC 3) p (xs.set i.toNat x') :: F)) : Wp H0 P (f_cell_Row_file_File_Set D [.ptr (some (p, 0)), I i, .agg [.bool x'.1.1, .str (S x'.1.2)], I x'.2]) Q := by
 refine Wp.cl ?_
 unfold f_cell_Row_file_File_Set
 refine go (cell_Row_file_File_is_v fun b hb => ?_)
 rw [hb.2 (at_lt h0 hx)]
 refine Wp.open (rRow flC 3) p fun s _ => ?_
 refine go ?_
 refine Wp.ixStN (j := i.toNat) (x' := x') (by omega) hx (by simp) rfl ?_
 refine go ?_
 exact ⟨_, h, .fold s trivial (.cons rfl (.cons rfl .refl))⟩
end
def rTome (p : Nat) (fs : List (Fl × Int)) : HP := fun h => ∃ r, Al [own rC p [.ptr (some (r, 0))], own (rRow flC 3) r fs] h
instance {p : Nat} {fs : List (Fl × Int)} : Opn rTome p fs Nat (fun _ => True) (fun r F => own rC p [.ptr (some (r, 0))] :: own (rRow flC 3) r fs :: F) :=
 ⟨fun _ => ⟨fun ⟨s, h⟩ => ⟨s, trivial, h⟩, fun ⟨s, _, h⟩ => ⟨s, h⟩⟩, fun _ _ => rfl⟩
abbrev fdC (ts : List Bs) (r : Nat) : List HV := ts.map (fun t => .str (S t)) ++ [.ptr (some (r, 0))]
def rFeed (p : Nat) (x : List Bs × List (Int × Int)) : HP := fun h => ∃ r, x.1.length = 3 ∧ Al [own rC p (fdC x.1 r), own (rRow clC 2) r x.2] h
instance {p : Nat} {x : List Bs × List (Int × Int)} : Opn rFeed p x Nat (fun _ => x.1.length = 3) (fun r F => own rC p (fdC x.1 r) :: own (rRow clC 2) r x.2 :: F) :=
 ⟨fun _ => Iff.rfl, fun _ _ => rfl⟩
def rView (p : Nat) (v : Vw) : HP := fun h => ∃ y : Nat × Nat × Nat, Al [own rC p [.ptr (some (y.1, 0)), .ptr (some (y.2.1, 0)), .ptr (some (y.2.2, 0)), I v.clock], own (rRow clC 2) y.1 v.cells, own rTome y.2.1 v.files, own rFeed y.2.2 (v.texts, v.places)] h
instance {p : Nat} {v : Vw} : Opn rView p v (Nat × Nat × Nat) (fun _ => True) (fun y F => own rC p [.ptr (some (y.1, 0)), .ptr (some (y.2.1, 0)), .ptr (some (y.2.2, 0)), I v.clock] :: own (rRow clC 2) y.1 v.cells :: own rTome y.2.1 v.files :: own rFeed y.2.2 (v.texts, v.places) :: F) :=
 ⟨fun _ => ⟨fun ⟨s, h⟩ => ⟨s, trivial, h⟩, fun ⟨s, _, h⟩ => ⟨s, h⟩⟩, fun _ _ => rfl⟩
structure VOk (v : Vw) : Prop where
 c : v.cells.length = 8
 f : v.files.length = 6
 t : v.texts.length = 3
 p : v.places.length = 3
def vw0 : Vw := ⟨List.replicate 8 (0, 0), List.replicate 6 (noFl, 0), [[], [], []], List.replicate 3 (0, 0), 0⟩
section
variable {D : DD} {H0 : Heap} {P F : List HP} {Q : HV → List HP → Prop}
theorem tome_New_v (h : ∀ b, Q (.ptr (some (b, 0))) (own rTome b (List.replicate 6 (noFl, 0)) :: P)) : Wp H0 P (f_tome_New D []) Q := by
 refine Wp.cl ?_
 unfold f_tome_New
 refine go (cell_New_file_File_v (n := 6) (x := noFl) (by decide) fun r => ?_)
 refine go fun b => ?_
 exact ⟨_, h b, .fold r trivial .refl⟩
theorem feed_New_v (h : ∀ b, Q (.ptr (some (b, 0))) (own rFeed b ([[], [], []], List.replicate 3 (0, 0)) :: P)) : Wp H0 P (f_feed_New D []) Q := by
 refine Wp.cl ?_
 unfold f_feed_New
 refine go (cell_New_int_v (n := 3) (x := 0) (by decide) fun r => ?_)
 refine go fun b => ?_
 exact ⟨_, h b, .fold r (by rfl) .refl⟩
theorem attempt_NewView_v (h : ∀ b, Q (.ptr (some (b, 0))) (own rView b vw0 :: P)) : Wp H0 P (f_attempt_NewView D []) Q := by
 refine Wp.cl ?_
 unfold f_attempt_NewView
 refine go (cell_New_int_v (n := 8) (x := 0) (by decide) fun c => ?_)
 refine go (tome_New_v fun t => ?_)
 refine go (feed_New_v fun f => ?_)
 refine go fun b => ?_
 exact ⟨_, h b, .fold (c, t, f) trivial (.cons rfl (.cons rfl (.cons rfl (.cons rfl .refl))))⟩
theorem tome_Get_v {p : Nat} {fs : List (Fl × Int)} {i : Int} {x : Fl × Int} [fd : Fnd P rTome p fs F] (h0 : 0 ≤ i) (hx : fs[i.toNat]? = some x) (h : Q (.tup [.agg [.bool x.1.1, .str (S x.1.2)], I x.2]) P) : Wp H0 P (f_tome_Tome_Get D [.ptr (some (p, 0)), I i]) Q := by
 refine Wp.cl ?_
 unfold f_tome_Tome_Get
 refine Wp.open rTome p fun r _ => ?_
 refine go (cell_Row_file_File_Get_v h0 hx ?_)
 refine go ?_
 exact ⟨_, h, .back rTome p (.fold r trivial .refl)⟩
theorem file_Good_v {x : Fl} (h : ∀ b : Bool, (b = true ↔ goodF x) → Q (.bool b) P) : Wp H0 P (f_file_Good D [.agg [.bool x.1, .str (S x.2)]]) Q := by
 unfold f_file_Good
 have hs := S_size x.2
 refine go ⟨fun h1 => ⟨fun h2 => ?_, fun h2 => ?_⟩, fun h1 => ?_⟩
 ·exact h _ (by simp [goodF, h2]; omega)
 ·refine h _ ?_
  have e : (ByteArray.mk #[]) = S [] := rfl
  rw [toList_S, e, toList_S, beq_iff_eq]
  simp [goodF, h2]; intro e; omega
 ·exact h _ (by simp [goodF]; intro; omega)
theorem tome_Set_v {p : Nat} {fs : List (Fl × Int)} {i n : Int} {x : Fl} {y : Fl × Int} [fd : Fnd P rTome p fs F] (h0 : 0 ≤ i) (hy : fs[i.toNat]? = some y) (hg : goodF x) (h : Q (.bool true) (own rTome p (fs.set i.toNat (x, n)) :: F)) : Wp H0 P (f_tome_Tome_Set D [.ptr (some (p, 0)), I i, .agg [.bool x.1, .str (S x.2)], I n]) Q := by
 refine Wp.cl ?_
 unfold f_tome_Tome_Set
 refine go (file_Good_v fun b hb => ?_)
 rw [hb.2 hg]
 refine Wp.open rTome p fun r _ => ?_
 refine go (cell_Row_file_File_Set_v (x' := (x, n)) h0 hy ?_)
 refine go ?_
 exact ⟨_, h, .fold r trivial (.cons rfl (.cons rfl .refl))⟩
theorem feed_is_v {p : Nat} {i : Int} (h : ∀ b : Bool, (b = true ↔ 0 ≤ i ∧ i < 3) → Q (.bool b) P) : Wp H0 P (f_feed_Feed_is D [.ptr (some (p, 0)), I i]) Q := by
 unfold f_feed_Feed_is
 refine go ⟨fun h1 => ?_, fun h1 => ?_⟩
 ·exact h _ (by simp; omega)
 ·exact h _ (by simp; omega)
theorem fd_at {ts : List Bs} {r : Nat} {i : Int} {t : Bs} (ht : ts[i.toNat]? = some t) : (fdC ts r)[0 + i.toNat * 1]? = some (.str (S t)) := by
 have := (List.getElem?_eq_some_iff.1 ht).1
 unfold fdC
 rw [show 0 + i.toNat * 1 = i.toNat by omega, List.getElem?_append_left (by simpa using this), List.getElem?_map, ht]; rfl
theorem fd_ptr {ts : List Bs} {r : Nat} (h : ts.length = 3) : (fdC ts r)[0 + 3]? = some (.ptr (some (r, 0))) := by
 unfold fdC
 rw [List.getElem?_append_right (by simp [h])]; simp [h]
theorem feed_Place_v {p : Nat} {ts : List Bs} {ps : List (Int × Int)} {i : Int} {x : Int × Int} [fd : Fnd P rFeed p (ts, ps) F] (h0 : 0 ≤ i) (hx : ps[i.toNat]? = some x) (h : Q (.tup [I x.1, I x.2]) P) : Wp H0 P (f_feed_Feed_Place D [.ptr (some (p, 0)), I i]) Q := by
 refine Wp.cl ?_
 unfold f_feed_Feed_Place
 refine Wp.open rFeed p fun r ht => ?_
 refine go ?_
 refine Wp.ldC (b := p) (fd_ptr ht) ?_
 refine go (cell_Row_int_Get_v h0 hx ?_)
 refine go ?_
 exact ⟨_, h, .back rFeed p (.fold r ht .refl)⟩
theorem atL_byte {l : List UInt8} {i : Int} (h : ¬ (i < 0 ∨ (l.length : Int) ≤ i)) : wr (((S l).data[i.toNat]?.getD 0).toNat : Int) = atL l i := by
 have e : (S l).data[i.toNat]? = l[i.toNat]? := S_at l _
 rw [e]
 unfold atL
 rw [if_neg h]
 generalize (l[i.toNat]?).getD 0 = b
 have := b.toNat_lt
 rw [wr_small (by omega) (by omega)]
theorem atL_neg {l : List UInt8} {i : Int} (h : 0 ≤ i) : atL l i < 0 ↔ (l.length : Int) ≤ i := by
 unfold atL
 split
 ·omega
 ·have := ((l[i.toNat]?).getD 0).toNat_lt
  omega
theorem feed_At_v {p : Nat} {ts : List Bs} {ps : List (Int × Int)} {i k : Int} {t : Bs} [fd : Fnd P rFeed p (ts, ps) F] (h0 : 0 ≤ i) (hi : i < 3) (ht : ts[i.toNat]? = some t)
  (h : Q (I (atL t k)) P) : Wp H0 P (f_feed_Feed_At D [.ptr (some (p, 0)), I i, I k]) Q := by
 refine Wp.cl ?_
 unfold f_feed_Feed_At
 have e1 := S_size t
 refine go (feed_is_v fun b hb => ?_)
 rw [hb.2 ⟨h0, hi⟩]
 refine Wp.open rFeed p fun r hl3 => ?_
 refine go ⟨fun c => ?_, fun _ => ⟨h0, hi, ?_⟩⟩
 ·have : atL t k = -1 := by unfold atL; rw [if_pos (.inl c)]
  rw [this] at h
  exact ⟨_, h, .back rFeed p (.fold r hl3 .refl)⟩
 refine Wp.ldC (b := p) (fd_at ht) ?_
 refine go ⟨fun c => ?_, fun c => ⟨h0, hi, ?_⟩⟩
 ·have : atL t k = -1 := by unfold atL; rw [if_pos (.inr (by omega))]
  rw [this] at h
  exact ⟨_, h, .back rFeed p (.fold r hl3 .refl)⟩
 refine Wp.ldC (b := p) (fd_at ht) ?_
 refine go ⟨by omega, by omega, ?_⟩
 rw [atL_byte (by omega)]
 exact ⟨_, h, .back rFeed p (.fold r hl3 .refl)⟩
theorem feed_Take_v {p : Nat} {ts : List Bs} {ps : List (Int × Int)} {i k n : Int} {t : Bs} {x : Int × Int} [fd : Fnd P rFeed p (ts, ps) F] (h0 : 0 ≤ i) (hi : i < 3) (ht : ts[i.toNat]? = some t) (hx : ps[i.toNat]? = some x) (h1 : x.1 ≤ k) (h2 : k ≤ t.length)
  (h : Q (.bool true) (own rFeed p (ts, ps.set i.toNat (k, n)) :: F)) : Wp H0 P (f_feed_Feed_Take D [.ptr (some (p, 0)), I i, I k, I n]) Q := by
 refine Wp.cl ?_
 unfold f_feed_Feed_Take
 have e1 := S_size t
 refine go (feed_Place_v h0 hx ?_)
 refine go (feed_is_v fun b hb => ?_)
 rw [hb.2 ⟨h0, hi⟩]
 refine Wp.open rFeed p fun r hl3 => ?_
 refine go ⟨fun c => by omega, fun _ => ⟨h0, hi, ?_⟩⟩
 refine Wp.ldC (b := p) (fd_at ht) ?_
 refine go ⟨fun c => by omega, fun _ => ?_⟩
 refine Wp.ldC (b := p) (fd_ptr hl3) ?_
 refine go (cell_Row_int_Set_v (x' := (k, n)) h0 hx ?_)
 refine go ?_
 exact ⟨_, h, .fold r hl3 (.cons rfl (.cons rfl .refl))⟩
end
def nowAt (v : Vw) (j : Nat) : Int := if j = 24 then v.clock else verOf v ((j / 8 : Nat) : Int) ((j % 8 : Nat) : Int)
def nowV (v : Vw) : List Int := (List.range 25).map (nowAt v)
theorem nowV_len (v : Vw) : (nowV v).length = 25 := by simp [nowV]
theorem nowV_at (v : Vw) {j : Nat} (h : j < 25) : (nowV v)[j]? = some (nowAt v j) := by simp [nowV, h]
theorem map_I_at {l : List Int} {j : Nat} {x : Int} (h : l[j]? = some x) : (l.map fun n => I n)[j]? = some (I x) := by simp [h]
structure NowP (v : Vw) (i : Nat) (y : List Int) : Prop where
 len : y.length = 25
 at_ : ∀ j, j < 25 → y[j]? = some (if j < i ∨ j = 24 then nowAt v j else 0)
theorem NowP.set {v : Vw} {i : Nat} {y : List Int} {x : Int} (h : NowP v i y) (hi : i < 24) (hx : x = nowAt v i) : NowP v (i + 1) (y.set i x) := by
 refine ⟨by simp [h.len], fun j hj => ?_⟩
 rw [List.getElem?_set]
 by_cases e : i = j
 ·subst e
  rw [if_pos rfl, if_pos (by simp [h.len]; omega), if_pos (by omega), hx]
 ·rw [if_neg e, h.at_ j hj]
  by_cases h1 : j < i ∨ j = 24
  ·rw [if_pos h1, if_pos (by omega)]
  ·rw [if_neg h1, if_neg (by omega)]
theorem NowP.up {v : Vw} {i k : Nat} {y : List Int} (h : NowP v i y) (hik : i ≤ k) (hz : ∀ j, i ≤ j → j < k → j < 24 → nowAt v j = 0) : NowP v k y := by
 refine ⟨h.len, fun j hj => ?_⟩
 rw [h.at_ j hj]
 by_cases h1 : j < i ∨ j = 24
 ·rw [if_pos h1, if_pos (by omega)]
 ·rw [if_neg h1]
  by_cases h2 : j < k
  ·rw [if_pos (.inl h2), hz j (by omega) h2 (by omega)]
  ·rw [if_neg (by omega)]
theorem NowP.all {v : Vw} {y : List Int} (h : NowP v 24 y) : y = nowV v := by
 apply List.ext_getElem?
 intro j
 by_cases hj : j < 25
 ·rw [h.at_ j hj, nowV_at v hj, if_pos (by omega)]
 ·rw [List.getElem?_eq_none (by rw [h.len]; omega), List.getElem?_eq_none (by rw [nowV_len]; omega)]
theorem verOf_cell {v : Vw} {i : Nat} {x : Int × Int} (h : v.cells[i]? = some x) : verOf v 0 i = x.2 := by unfold verOf; simp [h]
theorem verOf_file {v : Vw} {i : Nat} {x : Fl × Int} (h : v.files[i]? = some x) : verOf v 1 i = x.2 := by unfold verOf; simp [h]
theorem verOf_sock {v : Vw} {i : Nat} {x : Int × Int} (h : v.places[i]? = some x) : verOf v 2 i = x.2 := by unfold verOf; simp [h]
theorem nowAt_of {v : Vw} {k i : Nat} (hi : i < 8) (hk : k < 3) : nowAt v (8 * k + i) = verOf v k i := by
 unfold nowAt
 rw [if_neg (by omega), show (8 * k + i) / 8 = k by omega, show (8 * k + i) % 8 = i by omega]
section
variable {D : DD} {H0 : Heap} {P F : List HP} {Q : HV → List HP → Prop}
theorem attempt_View_Now_v {p : Nat} {v : Vw} [fd : Fnd P rView p v F] (ok : VOk v) (h : Q (.agg ((nowV v).map fun n => I n)) P) : Wp H0 P (f_attempt_View_Now D [.ptr (some (p, 0))]) Q := by
 refine Wp.cl ?_
 unfold f_attempt_View_Now
 refine Wp.open rView p fun y _ => ?_
 refine go ?_
 have start : NowP v 0 (List.replicate 24 0 ++ [v.clock]) := ⟨rfl, fun j hj => by
  by_cases e : j = 24
  ·subst e; rw [if_pos (.inr rfl)]; rfl
  ·rw [if_neg (by omega), List.getElem?_append_left (by simp; omega), List.getElem?_replicate, if_pos (by omega)]⟩
 refine Wp.forL (σ := List Int) 8 (by decide) rfl (fun y i => [I i, .agg (y.map fun n => I n)]) (out := fun y => [.agg (y.map fun n => I n)]) (fun _ _ => rfl) (fun i y => NowP v i y)
  (fun _ _ => _) (List.replicate 24 0 ++ [v.clock]) rfl start .refl ?_ ?_
 ·intro i z hi hz
  obtain ⟨x, hx⟩ : ∃ x, v.cells[i]? = some x := ⟨_, List.getElem?_eq_getElem (by rw [ok.c]; exact hi)⟩
  refine go ?_
  refine cell_Row_int_Version_v (x := x) (by omega) (by simpa using hx) ?_
  refine go ⟨by omega, by omega, by simp [hz.len]; omega, ?_⟩
  refine ⟨z.set i x.2, ?_, hz.set (by omega) ?_, .refl⟩
  ·rw [show 0 + ((i : Nat) : Int).toNat * 1 = i by omega, List.map_set]
  ·rw [← verOf_cell hx]; exact (nowAt_of (k := 0) (by omega) (by decide)).symm ▸ by simp
 ·intro z hz
  refine go ?_
  refine Wp.forL (σ := List Int) 6 (by decide) rfl (fun y i => [I i, .agg (y.map fun n => I n)]) (out := fun y => [.agg (y.map fun n => I n)]) (fun _ _ => rfl) (fun i y => NowP v (8 + i) y)
   (fun _ _ => _) z rfl hz .refl ?_ ?_
  ·intro i z hi hz
   obtain ⟨x, hx⟩ : ∃ x, v.files[i]? = some x := ⟨_, List.getElem?_eq_getElem (by rw [ok.f]; exact hi)⟩
   refine go ?_
   refine tome_Get_v (x := x) (by omega) (by simpa using hx) ?_
   refine go ⟨by omega, by omega, by simp [hz.len]; omega, ?_⟩
   refine ⟨z.set (8 + i) x.2, ?_, hz.set (by omega) ?_, .refl⟩
   ·rw [show 8 + ((i : Nat) : Int).toNat * 1 = 8 + i by omega, List.map_set]
   ·rw [← verOf_file hx]; exact (nowAt_of (k := 1) (by omega) (by decide)).symm
  ·intro z hz
   refine go ?_
   have hz' : NowP v 16 z := hz.up (by omega) fun j h1 h2 _ => by
    have : j = 8 * 1 + (j - 8) := by omega
    rw [this, nowAt_of (by omega) (by decide)]
    unfold verOf
    simp
    rw [List.getElem?_eq_none (by rw [ok.f]; omega)]; rfl
   refine Wp.forL (σ := List Int) 3 (by decide) rfl (fun y i => [I i, .agg (y.map fun n => I n)]) (out := fun y => [.agg (y.map fun n => I n)]) (fun _ _ => rfl) (fun i y => NowP v (16 + i) y)
    (fun _ _ => _) z rfl hz' .refl ?_ ?_
   ·intro i z hi hz
    obtain ⟨x, hx⟩ : ∃ x, v.places[i]? = some x := ⟨_, List.getElem?_eq_getElem (by rw [ok.p]; exact hi)⟩
    refine go ?_
    refine feed_Place_v (x := x) (by omega) (by simpa using hx) ?_
    refine go ⟨by omega, by omega, by simp [hz.len]; omega, ?_⟩
    refine ⟨z.set (16 + i) x.2, ?_, hz.set (by omega) ?_, .refl⟩
    ·rw [show 16 + ((i : Nat) : Int).toNat * 1 = 16 + i by omega, List.map_set]
    ·rw [← verOf_sock hx]; exact (nowAt_of (k := 2) (by omega) (by decide)).symm
   ·intro z hz
    have hz' : NowP v 24 z := hz.up (by omega) fun j h1 h2 _ => by
     have : j = 8 * 2 + (j - 16) := by omega
     rw [this, nowAt_of (by omega) (by decide)]
     unfold verOf
     simp
     rw [List.getElem?_eq_none (by rw [ok.p]; omega)]; rfl
    have e := hz'.all
    subst e
    have hl : ((nowV v).map fun n => I n).length = 25 := by rw [List.length_map, nowV_len]
    have ht : ((nowV v).map fun n => I n).take 25 = (nowV v).map fun n => I n := by rw [← hl, List.take_length]
    refine go ?_
    refine Wp.gxN (vs := (nowV v).map fun n => I n) (by rw [hl]; decide) (by rw [List.drop_zero, ht]) ?_
    refine go ⟨by rw [hl]; rfl, by rw [hl]; rfl, ?_⟩
    have hp : putN [I 0, I 0, I 0, I 0, I 0, I 0, I 0, I 0, I 0, I 0, I 0, I 0, I 0, I 0, I 0, I 0, I 0, I 0, I 0, I 0, I 0, I 0, I 0, I 0, I 0] 0 ((nowV v).map fun n => I n) = (nowV v).map fun n => I n := by
     unfold putN; rw [hl]; simp
    rw [hp]
    refine Wp.gxN (vs := (nowV v).map fun n => I n) (by rw [hl]; decide) (by rw [List.drop_zero, ht]) ?_
    refine go ?_
    exact ⟨_, h, .back rView p (.fold y trivial .refl)⟩
theorem reads_Now_Of_v {v : Vw} {k i : Int} (hk : 0 ≤ k ∧ k < 3) (hi : 0 ≤ i ∧ i < 8) (h : Q (I (verOf v k i)) P) : Wp H0 P (f_reads_Now_Of D [.agg ((nowV v).map fun n => I n), I k, I i]) Q := by
 unfold f_reads_Now_Of
 refine go ⟨fun c => by omega, fun _ => ⟨fun c => by omega, fun _ => ⟨fun c => by omega, fun _ => ⟨fun c => by omega, fun _ => ⟨by omega, by omega, by omega, by omega, ?_⟩⟩⟩⟩⟩
 have : nowAt v (0 + k.toNat * 8 + i.toNat * 1) = verOf v k i := by
  rw [show 0 + k.toNat * 8 + i.toNat * 1 = 8 * k.toNat + i.toNat by omega, nowAt_of (by omega) (by omega)]
  rw [Int.toNat_of_nonneg hk.1, Int.toNat_of_nonneg hi.1]
 refine Wp.gx (map_I_at (nowV_at v (by omega))) ?_
 rw [this]
 exact go h
end
def rSet (p : Nat) (x : List Rd × Int) : HP := fun h => ∃ s, Al [own rC p [.sl s, I x.2], own (rR Rd.cs 3) s x.1] h
instance {p : Nat} {x : List Rd × Int} : Opn rSet p x Sl (fun _ => True) (fun s F => own rC p [.sl s, I x.2] :: own (rR Rd.cs 3) s x.1 :: F) :=
 ⟨fun _ => ⟨fun ⟨s, h⟩ => ⟨s, trivial, h⟩, fun ⟨s, _, h⟩ => ⟨s, h⟩⟩, fun _ _ => rfl⟩
structure KOk (k i : Int) : Prop where
 k : 0 ≤ k ∧ k < 3
 i : 0 ≤ i ∧ i < 8
def RdsOk (l : List Rd) : Prop := ∀ e ∈ l, KOk e.k e.i
structure PlaceP (rd : List Rd) (k i : Int) (r : Int) : Prop where
 h : (∃ j e, r = (j : Nat) ∧ rd[j]? = some e ∧ e.k = k ∧ e.i = i ∧ ∀ x ∈ rd.take j, ¬ (x.k = k ∧ x.i = i)) ∨ (r = -1 ∧ ∀ x ∈ rd, ¬ (x.k = k ∧ x.i = i))
theorem validB_iff {v : Vw} {rd : List Rd} : validB v rd = true ↔ ∀ e ∈ rd, verOf v e.k e.i = e.v := by unfold validB; simp
section
variable {D : DD} {H0 : Heap} {P F : List HP} {Q : HV → List HP → Prop}
theorem reads_New_v {n : Int} (h : ∀ b, Q (.ptr (some (b, 0))) (own rSet b ([], n) :: P)) : Wp H0 P (f_reads_New D [I n]) Q := by
 refine Wp.cl ?_
 unfold f_reads_New
 refine Wp.nil Rd.cs (sz := 3) (by decide) ?_
 refine go fun b => ?_
 exact ⟨_, h b, .fold _ trivial .refl⟩
theorem reads_Set_Valid_v {p : Nat} {v : Vw} {rd : List Rd} {n : Int} [fd : Fnd P rSet p (rd, n) F] (ok : RdsOk rd) (h : Q (.bool (validB v rd)) P) : Wp H0 P (f_reads_Set_Valid D [.ptr (some (p, 0)), .agg ((nowV v).map fun n => I n)]) Q := by
 refine Wp.cl ?_
 unfold f_reads_Set_Valid
 refine Wp.open rSet p fun s _ => ?_
 refine Wp.row (s := s) fun hs => ?_
 have hlt := hs.lt
 have hcap := hs.cap
 have hlen : s.len = rd.length := hs.len
 have hl : ((nowV v).map fun n => I n).length = 25 := by rw [List.length_map, nowV_len]
 refine go ?_
 refine Wp.forL (σ := Unit) rd.length (by omega) (by rw [hs.len]) (fun _ i => [I i]) (out := fun _ => []) (fun _ _ => rfl) (fun i _ => ∀ e ∈ rd.take i, verOf v e.k e.i = e.v)
  (fun _ _ => _) () rfl (by simp) .refl ?_ ?_
 ·intro i _ hi hp
  refine Wp.ixN (j := i) (x := rd[i]) rfl (List.getElem?_eq_getElem hi) fun _ _ => ?_
  have hk := ok rd[i] (List.getElem_mem hi)
  refine go ?_
  refine Wp.gxN (vs := (nowV v).map fun n => I n) (by rw [hl]; decide) (by rw [List.drop_zero, ← hl, List.take_length]) ?_
  refine go (reads_Now_Of_v hk.k hk.i ?_)
  refine go ⟨fun c => ?_, fun c => ?_⟩
  ·refine ⟨_, (?_ : Q (.bool false) P), .back rSet p (.fold s trivial .refl)⟩
   have : validB v rd = false := by
    cases e : validB v rd with
    | false => rfl
    | true => exact absurd (validB_iff.1 e rd[i] (List.getElem_mem hi)) c
   rwa [this] at h
  ·exact ⟨(), rfl, take_snoc hi hp c, .refl⟩
 ·intro _ hp
  rw [List.take_length] at hp
  refine go ?_
  rw [validB_iff.2 hp] at h
  exact ⟨_, h, .back rSet p (.fold s trivial .refl)⟩
variable [Sea] {n : Nat}
theorem reads_Set_place_v {p : Nat} {rd : List Rd} {st k i : Int} [fd : Fnd P rSet p (rd, st) F] (hc : lkA Sea.cl n_reads_Set_place_1 = some f_reads_Set_place_1) (h : ∀ r, PlaceP rd k i r → Q (I r) P) : Wp H0 P (f_reads_Set_place (lv (n + 1)) [.ptr (some (p, 0)), I k, I i]) Q := by
 refine Wp.cl ?_
 unfold f_reads_Set_place
 refine Wp.open rSet p fun s _ => ?_
 refine Wp.row (s := s) fun hs => ?_
 have hlt := hs.lt
 have hcap := hs.cap
 have hlen : s.len = rd.length := hs.len
 refine go fun b4 b5 => ?_
 unfold f_slices_IndexFunc_reads_Entry_reads_Entry
 have done : ∀ r, PlaceP rd k i r → Clo' Q (I r) (own rC b5 [I i] :: own rC b4 [I k] :: own rC p [.sl s, I st] :: own (rR Rd.cs 3) s rd :: F) := fun r hr => by
  refine ⟨_, h r hr, .back rSet p ?_⟩
  exact .fold s trivial (.cons rfl (.cons rfl (Ent.weak (Ent.weak .refl))))
 refine go ?_
 refine Wp.forL (σ := Unit) rd.length (by omega) (by rw [hs.len]) (fun _ i => [I i]) (out := fun _ => []) (fun _ _ => rfl) (fun j _ => ∀ x ∈ rd.take j, ¬ (x.k = k ∧ x.i = i))
  (fun _ _ => _) () rfl (by simp) .refl ?_ ?_
 ·intro j _ hj hp
  refine Wp.ixN (j := j) (x := rd[j]) rfl (List.getElem?_eq_getElem hj) fun _ _ => ?_
  refine go ?_
  rw [lv_succ]
  refine Wp.clo hc ?_
  show Wp H0 _ (f_reads_Set_place_1 (lv n) [.agg (Rd.cs rd[j]), .ptr (some (b4, 0)), .ptr (some (b5, 0))]) _
  unfold f_reads_Set_place_1
  refine go ⟨fun c1 => ?_, fun c1 => ?_⟩
  ·refine go ⟨fun c2 => ?_, fun c2 => ?_⟩
   ·refine go ?_
    exact done j ⟨.inl ⟨j, _, rfl, List.getElem?_eq_getElem hj, c1, by simpa using c2, hp⟩⟩
   ·exact ⟨(), rfl, take_snoc hj hp (fun hh => by simp [hh.2] at c2), .refl⟩
  ·refine go ?_
   exact ⟨(), rfl, take_snoc hj hp (fun hh => c1 hh.1), .refl⟩
 ·intro _ hp
  rw [List.take_length] at hp
  refine go (go ?_)
  exact done (-1) ⟨.inr ⟨rfl, hp⟩⟩
end
end Go.Proofs.YtbphjihgbenkdaaGreat.HQ
