/- label: names, numbers, words, fields, lines: walked. Conditions: the variables of the package (Gl). -/
import Derived.Test.YtmfmcegpoiinjaaDoorHMLt
import Derived.Test.YtmfmcegpoiinjaaDoorHMNu
import Derived.Test.YtmfmcegpoiinjaaDoorHMCa
import Derived.Test.YtmfmcegpoiinjaaDoorHM4a
import Derived.Lib.SplitLaws
namespace Go.Proofs.YtmfmcegpoiinjaaDoor.HM
open Go

def words : List Bs := [[104, 97, 108, 116], [99, 111, 110, 115, 116], [97, 100, 100], [106, 117, 109, 112], [98, 101, 103, 105, 110], [101, 110, 100], [108, 111, 97, 100], [115, 116, 111, 114, 101], [114, 101, 97, 100], [119, 114, 105, 116, 101], [99, 114, 101, 97, 116, 101], [114, 101, 109, 111, 118, 101], [114, 101, 110, 97, 109, 101], [99, 117, 116], [114, 101, 99, 118], [115, 101, 110, 100], [99, 111, 109, 109, 105, 116], [97, 98, 111, 114, 116], [111, 112, 101, 110], [114, 101, 116, 114, 121], [101, 108, 115, 101], [105, 110, 101, 118]]
def shapes : List Bs := [[], [110, 110], [110, 110], [103, 110, 110], [], [], [110, 110], [110, 110], [110, 110, 110], [110, 110, 110], [110], [110], [110, 110], [110, 110], [110, 110], [110, 110], [110, 110], [110], [110, 110], [], [103], []]
/-- the variables. -/
structure Gl (H : Heap) : Prop where
  n : 6 ≤ H.n
  max : GMax H
  pow : GPow H
  e2 : GErr 2 H
  e3 : GErr 3 H
  words : ∃ ro, H.get 4 = .cells (words.map fun w => .str (S w)) ro
  shapes : ∃ ro, H.get 5 = .cells (shapes.map fun w => .str (S w)) ro
theorem Gl.kp {H H' : Heap} (h : Gl H) (k : Kp H H') : Gl H' := by
  have hn := h.n
  obtain ⟨m, ro, h1⟩ := h.max
  obtain ⟨ro2, t, h2, h3⟩ := h.pow
  obtain ⟨b4, ro4, h4⟩ := h.e2
  obtain ⟨b5, ro5, h5⟩ := h.e3
  obtain ⟨ro6, h6⟩ := h.words
  obtain ⟨ro7, h7⟩ := h.shapes
  have g := fun b (hb : b < H.n) => k.k.get b hb
  exact ⟨Nat.le_trans hn k.k.n, ⟨m, ro, by rw [g 0 (by omega)]; exact h1⟩, ⟨ro2, t, by rw [g 1 (by omega)]; exact h2, by rw [k.t 1 (by omega)]; exact h3⟩, ⟨b4, ro4, by rw [g 2 (by omega)]; exact h4⟩, ⟨b5, ro5, by rw [g 3 (by omega)]; exact h5⟩,
    ⟨ro6, by rw [g 4 (by omega)]; exact h6⟩, ⟨ro7, by rw [g 5 (by omega)]; exact h7⟩⟩

/-! names -/
def okAt (i : Nat) (c : UInt8) : Prop := (97 ≤ c.toNat ∧ c.toNat ≤ 122) ∨ (0 < i ∧ 48 ≤ c.toNat ∧ c.toNat ≤ 57)
def nameOk (l : Bs) : Prop := 1 ≤ l.length ∧ l.length ≤ 8 ∧ ∀ (i : Nat) (c : UInt8), l[i]? = some c → okAt i c
theorem at_S {l : Bs} {i : Nat} (h : i < l.length) : (S l).data[(i : Int).toNat]?.getD 0 = l[i] := by simp [h]
section
variable {D : HV → List HV → M HV} {H : Heap} {Q : HV → Heap → Prop}
theorem label_name_wp {l : Bs} (h : ∀ b : Bool, (b = true ↔ nameOk l) → Q (.bool b) H) : wp (f_label_name D [.str (S l)]) Q H := by
  unfold f_label_name
  have hsz := S_size l
  refine step ?_
  refine wp_jn (step ⟨fun c => ?_, fun c => ⟨fun c2 => ?_, fun c2 => ?_⟩⟩)
  · exact h _ ⟨fun hh => (by cases hh), fun hh => by have := hh.1; omega⟩
  · exact h _ ⟨fun hh => (by cases hh), fun hh => by have := hh.2.1; omega⟩
  · refine wp_loop0 l.length (by omega) (by rw [hsz]) (fun _ => rfl) rfl (fun i => ∀ (j : Nat) (c : UInt8), j < i → l[j]? = some c → okAt j c) (fun j c hj => by omega) ?_ ?_
    · intro i hi hp
      have hat := at_S hi
      have hge : l[i]? = some l[i] := List.getElem?_eq_getElem hi
      have bad : ¬ okAt i l[i] → Q (.bool false) H := fun hb => h _ ⟨fun hh => (by cases hh), fun hh => absurd (hh.2.2 i _ hge) hb⟩
      have good : okAt i l[i] → ∀ (j : Nat) (c : UInt8), j < i + 1 → l[j]? = some c → okAt j c := fun hg j c hj hc => by
        rcases Nat.lt_or_ge j i with h1 | h1
        · exact hp j c h1 hc
        · have : j = i := by omega
          subst this; rw [hge] at hc; cases hc; exact hg
      have dig : wp (gd (decide (0 ≤ (i : Int))) (gd (decide ((i : Int) < ((S l).size : Int))) (cond (decide (((S l).data[(i : Int).toNat]?.getD 0).toNat ≥ (48 : Int))) (gd (decide (0 ≤ (i : Int))) (gd (decide ((i : Int) < ((S l).size : Int))) (ret (.norm [.bool (decide ((((S l).data[(i : Int).toNat]?.getD 0).toNat : Int) ≤ 57))])))) (ret (.norm [.bool false]))))) (PB (48 ≤ (l[i]).toNat ∧ (l[i]).toNat ≤ 57) H) H := by
        refine step ⟨by omega, by omega, ?_⟩
        rw [hat]
        exact ⟨fun c1 => ⟨by omega, by omega, by rw [decide_eq_true_eq]; omega⟩, fun c1 => ⟨fun hh => (by cases hh), fun hh => by omega⟩⟩
      refine wp_jnP (97 ≤ (l[i]).toNat ∧ (l[i]).toNat ≤ 122) ?_ (fun h1 => step ?_) (fun h1 => step ?_)
      · refine step ⟨by omega, by omega, ?_⟩
        rw [hat]
        exact ⟨fun c1 => ⟨by omega, by omega, by rw [decide_eq_true_eq]; omega⟩, fun c1 => ⟨fun hh => (by cases hh), fun hh => by omega⟩⟩
      · refine wp_jnP _ dig (fun h2 => step (wp_jn (step ?_))) (fun h2 => step (wp_jn (step ?_)))
        · exact good (.inl h1)
        · exact good (.inl h1)
      · refine wp_jnP _ dig (fun h2 => step (wp_jn (step ?_))) (fun h2 => step (wp_jn (step ?_)))
        · exact ⟨fun e => bad fun hh => by unfold okAt at hh; omega, fun e => good (.inr ⟨by omega, h2⟩)⟩
        · exact ⟨fun e => bad fun hh => by unfold okAt at hh; omega, fun e => bad fun hh => by unfold okAt at hh; omega⟩
    · intro hp
      refine step (h _ ⟨fun _ => ⟨by omega, by omega, fun i c hc => hp i c (List.getElem?_eq_some_iff.1 hc).1 hc⟩, fun _ => rfl⟩)
end
end Go.Proofs.YtmfmcegpoiinjaaDoor.HM
namespace Go.Proofs.YtmfmcegpoiinjaaDoor.HM
open Go

section
variable {D : HV → List HV → M HV} {H : Heap} {Q : HV → Heap → Prop}
theorem Itoa_wp (hG : Gl H) {n : Int} (hn : Int64 n) (h : Q (.str (S (Lib.itoa n))) H) : wp (f_strconv_Itoa D [I n]) Q H := by
  unfold f_strconv_Itoa
  unfold Int64 at hn
  refine step ⟨by simp; omega, wp_glM hG.pow (wp_ret h)⟩
theorem Atoi_wp (hG : Gl H) {l : Bs} (hl : l.length ≤ 281474976710656) (h : Q (atoiV l) H) : wp (f_strconv_Atoi D [.str (S l)]) Q H := by
  unfold f_strconv_Atoi
  have hsz := S_size l
  refine step ⟨by omega, wp_glM ⟨hG.e2, hG.e3⟩ (wp_ret h)⟩
theorem Split_wp (hG : Gl H) {l : Bs} {c : UInt8} (hl : l.length < 4294967281) (h : wp (nw ((Lib.splitB (S [c]) 0 (Lib.countB (S l) (S [c])) (S l)).map .str) fun b => ret (.sl ⟨some (b, 0), Lib.countB (S l) (S [c]) + 1, Lib.countB (S l) (S [c]) + 1, none⟩)) Q H) :
    wp (f_strings_Split D [.str (S l), .str (S [c])]) Q H := by
  unfold f_strings_Split
  have hsz := S_size l
  have hs2 := S_size [c]
  refine step ⟨?_, wp_glM hG.max h⟩
  simp only [Bool.and_eq_true, decide_eq_true_eq, hsz, hs2]
  exact ⟨by simp, hl⟩
theorem label_number_wp (hG : Gl H) {l : Bs} (hl : l.length ≤ 281474976710656) (h : ∀ (n : Int) (b : Bool), (b = true → NumOk l n) → (b = false → ∀ v, ¬ NumOk l v) → Q (.tup [I n, .bool b]) H) : wp (f_label_number D [.str (S l)]) Q H := by
  unfold f_label_number
  refine step (wp_bnd (Atoi_wp hG hl ?_))
  unfold atoiV
  cases e : Lib.atoiAll l with
  | ok v =>
    have hv := atoi_range e
    refine step (wp_jn (step (wp_bnd (Itoa_wp hG hv (step ?_)))))
    refine h v _ (fun hh => ?_) (fun hh w hw => ?_)
    · rw [beq_iff_eq, toList_S, toList_S] at hh
      exact ⟨hv, hh.symm⟩
    · rw [numOk_atoi hw] at e
      injection e with e
      subst e
      rw [beq_eq_false_iff_ne, toList_S, toList_S] at hh
      exact hh hw.2.symm
  | «syntax» => exact step (wp_jn (step (h _ _ (fun hh => by cases hh) fun _ w hw => by rw [numOk_atoi hw] at e; cases e)))
  | range => exact step (wp_jn (step (h _ _ (fun hh => by cases hh) fun _ w hw => by rw [numOk_atoi hw] at e; cases e)))
theorem label_op_wp (hG : Gl H) {w : Bs} (h1 : ∀ k : Nat, words[k]? = some w → Q (I k) H) (h2 : (∀ k : Nat, words[k]? ≠ some w) → Q (I (-1)) H) : wp (f_label_op D [.str (S w)]) Q H := by
  unfold f_label_op
  obtain ⟨ro, hw⟩ := hG.words
  refine step (wp_ldGN hw (by simp [words]) ?_)
  have hl : ((words.map fun w => HV.str (S w)).drop 0).take 22 = words.map fun w => HV.str (S w) := by rfl
  rw [hl]
  refine wp_loop0 22 (by omega) rfl (fun _ => rfl) rfl (fun i => ∀ j : Nat, j < i → words[j]? ≠ some w) (fun j hj => by omega) ?_ ?_
  · intro i hi hp
    have hwi : i < words.length := hi
    refine step ⟨by omega, by omega, wp_gxG (v := .str (S words[i])) (by rw [show (i : Int).toNat * 1 = i by omega, List.getElem?_map, List.getElem?_eq_getElem hwi]; rfl) (step ⟨fun c => ?_, fun c => ?_⟩)⟩
    · rw [beq_iff_eq, toList_S, toList_S] at c
      exact h1 i (by rw [List.getElem?_eq_getElem hwi, c])
    · rw [beq_eq_false_iff_ne, toList_S, toList_S] at c
      intro j hj
      rcases Nat.lt_or_ge j i with h3 | h3
      · exact hp j h3
      · have : j = i := by omega
        subst this; rw [List.getElem?_eq_getElem hwi]; intro hh; cases hh; exact c rfl
  · intro hp
    refine step (h2 fun k hk => ?_)
    have : k < 22 := (List.getElem?_eq_some_iff.1 hk).1
    exact hp k this hk
theorem stringslite_HasPrefix_wp {l : Bs} {c : UInt8} (h : Q (.bool (decide (l.head? = some c))) H) : wp (f_internal_stringslite_HasPrefix D [.str (S l), .str (S [c])]) Q H := by
  unfold f_internal_stringslite_HasPrefix
  have hsz := S_size l
  have hs2 : (S [c]).size = 1 := rfl
  refine step (wp_jn (step ⟨fun c1 => ⟨by omega, by omega, by omega, ?_⟩, fun c1 => ?_⟩))
  · rw [S_ext, toList_S, toList_S]
    cases l with
    | nil => have h0 : (S ([] : Bs)).size = 0 := rfl
             omega
    | cons x r =>
      have e : ((([c] : Bs)) == [c]) = true := by simp
      have : (List.take ((((S [c]).size : Int)).toNat - (0 : Int).toNat) (List.drop (0 : Int).toNat (x :: r)) == [c]) = decide ((x :: r).head? = some c) := by
        simp [hs2]
        rw [Bool.eq_iff_iff]; simp
      rw [this]; exact h
  · cases l with
    | nil => simpa using h
    | cons x r => simp at hsz; omega
theorem CutPrefix_wp {l : Bs} {c : UInt8} (h1 : ∀ r, l = c :: r → Q (.tup [.str (S r), .bool true]) H) (h2 : l.head? ≠ some c → Q (.tup [.str (S l), .bool false]) H) : wp (f_strings_CutPrefix D [.str (S l), .str (S [c])]) Q H := by
  unfold f_strings_CutPrefix
  refine step (wp_bnd ?_)
  unfold f_internal_stringslite_CutPrefix
  have hsz := S_size l
  have hs2 : (S [c]).size = 1 := rfl
  refine step (wp_bnd (stringslite_HasPrefix_wp ?_))
  by_cases hh : l.head? = some c
  · rw [decide_eq_true hh]
    cases l with
    | nil => cases hh
    | cons x r =>
      simp at hh; subst hh
      refine step ⟨by omega, by simp at hsz; omega, by omega, ?_⟩
      rw [S_ext]
      have : List.take ((((S (x :: r)).size : Int)).toNat - (((S [x]).size : Int)).toNat) (List.drop (((S [x]).size : Int)).toNat (x :: r)) = r := by
        rw [hs2, hsz]; simp
      rw [this]
      refine step ?_
      exact h1 r rfl
  · rw [decide_eq_false hh]
    refine step ?_
    refine step ?_
    exact h2 hh
end

/-! fields -/
abbrev RStrs := Rows (fun x : Bs => [HV.str (S x)]) 1
theorem wp_atS {α : Type} {Q : α → Heap → Prop} {H : Heap} {s : Sl} {l : List Bs} (h : RStrs H s l) {i : Nat} (hi : i < l.length) {g : Nat → Nat → HV → M α} (hg : ∀ b o, wp (g b o (.str (S l[i]))) Q H) : wp (ix s (i : Int) 1 fun b o => ldC b o (g b o)) Q H :=
  wp_ixC h (by omega) (Rows.at h hi) hg
open Classical in
/-- what stands behind an op's word, field by field: the goal, the numbers. -/
noncomputable def fieldsS : Bs → List Bs → Nat → Bs → List Int → Option (Bs × List Int)
  | [], [], _, g, f => some (g, f)
  | c :: sh, x :: xs, i, g, f => if c = 103 then (if nameOk x then fieldsS sh xs (i + 1) x f else none)
      else match refNum x with
        | some n => fieldsS sh xs (i + 1) g (f.set i n)
        | none => none
  | _, _, _, _, _ => none
section
variable {D : HV → List HV → M HV} {H : Heap} {Q : HV → Heap → Prop}
theorem label_fields_wp (hG : Gl H) {k : Nat} (hk : k < 22) {s : Sl} {xs : List Bs} (hs : RStrs H s xs) (hx : ∀ x ∈ xs, x.length ≤ 281474976710656)
    (h1 : ∀ g a b c, fieldsS shapes[k]! xs 0 [] [0, 0, 0] = some (g, [a, b, c]) → Q (.tup [.agg [.str (S []), .str (S g), I k, I a, I b, I c], .bool true]) H)
    (h2 : fieldsS shapes[k]! xs 0 [] [0, 0, 0] = none → ∀ m g a b c, Q (.tup [.agg [.str (S m), .str (S g), I k, I a, I b, I c], .bool false]) H) : wp (f_label_fields D [I k, .sl s]) Q H := by
  unfold f_label_fields
  obtain ⟨ro, hsh⟩ := hG.shapes
  have hkl : k < shapes.length := hk
  have hlen := hs.lenI
  generalize hshk : shapes[k]! = sh at *
  have hcell : (shapes.map fun w => HV.str (S w))[0 + (k : Int).toNat * 1]? = some (.str (S sh)) := by
    rw [show 0 + (k : Int).toNat * 1 = k by omega, List.getElem?_map, List.getElem?_eq_getElem hkl, ← hshk]
    simp [hkl]
  have hl3 : sh.length ≤ 3 := by
    have : ∀ w ∈ shapes, w.length ≤ 3 := by unfold shapes; decide
    rw [← hshk]
    rw [List.getElem!_eq_getElem?_getD, List.getElem?_eq_getElem hkl]
    exact this _ (List.getElem_mem hkl)
  have hsz := S_size sh
  refine step ⟨by omega, by omega, wp_ldG hsh hcell (step ⟨fun c => ?_, fun c => ?_⟩)⟩
  · refine h2 ?_ [] [] 0 0 0
    have hne : xs.length ≠ sh.length := by omega
    have key : ∀ (sh : Bs) (xs : List Bs) i g f, xs.length ≠ sh.length → fieldsS sh xs i g f = none := by
      intro sh
      induction sh with
      | nil => intro xs i g f h; cases xs with
        | nil => simp at h
        | cons x xs => rfl
      | cons c sh ih => intro xs i g f h; cases xs with
        | nil => rfl
        | cons x xs =>
          simp only [fieldsS]
          split
          · split
            · exact ih _ _ _ _ (by simpa using h)
            · rfl
          · split
            · exact ih _ _ _ _ (by simpa using h)
            · rfl
    exact key _ _ _ _ _ hne
  · have hlx : xs.length = sh.length := by omega
    refine wp_for (σ := Bs × List Int) xs.length (by omega) hlen (fun x i => [I i, .agg [.str (S []), .str (S x.1), I k, I 0, I 0, I 0], .agg (x.2.map I)]) (out := fun x => [.agg [.str (S []), .str (S x.1), I k, I 0, I 0, I 0], .agg (x.2.map I)])
      (fun _ _ => rfl) rfl (fun i x H' => H' = H ∧ x.2.length = 3 ∧ fieldsS (sh.drop i) (xs.drop i) i x.1 x.2 = fieldsS sh xs 0 [] [0, 0, 0]) ([], [0, 0, 0]) rfl ⟨rfl, rfl, rfl⟩ ?_ ?_
    · rintro i ⟨g, f⟩ H' hi ⟨rfl, hf3, hst⟩
      have his : i < sh.length := by omega
      simp only at hf3 hst ⊢
      rw [List.drop_eq_getElem_cons hi, List.drop_eq_getElem_cons his] at hst
      simp only [fieldsS] at hst
      refine wp_blk (wp_atS hs hi fun b o => ?_)
      refine step ⟨by omega, by omega, wp_ldG hsh hcell ?_⟩
      refine step ⟨by omega, by omega, ?_⟩
      rw [at_S his]
      have hxi := hx _ (List.getElem_mem hi)
      refine ⟨fun c1 => ?_, fun c1 => ?_⟩
      · have hc : sh[i] = 103 := UInt8.toNat_inj.1 (by simpa using (by omega : (sh[i]).toNat = 103))
        rw [if_pos hc] at hst
        refine wp_bnd (label_name_wp fun b hb => step ⟨fun e => ?_, fun e => ?_⟩)
        · rw [if_neg (fun hh => by rw [hb.2 hh] at e; cases e)] at hst
          exact h2 hst.symm _ _ _ _ _
        · rw [if_pos (hb.1 e)] at hst
          exact ⟨(xs[i], f), rfl, rfl, hf3, hst⟩
      · have hc : sh[i] ≠ 103 := fun hh => c1 (by rw [hh]; rfl)
        rw [if_neg hc] at hst
        refine wp_bnd (label_number_wp hG hxi fun n b hb1 hb2 => step ⟨fun e => ?_, fun e => ?_⟩)
        · have : refNum xs[i] = none := by
            cases hr : refNum xs[i] with
            | none => rfl
            | some v => exact absurd ((refNum_ok _ _).1 hr) (hb2 e v)
          rw [this] at hst
          exact h2 hst.symm _ _ _ _ _
        · have := (refNum_ok _ _).2 (hb1 e)
          rw [this] at hst
          refine ⟨by omega, by omega, by simp [hf3]; omega, ⟨(g, f.set i n), ?_, rfl, by simpa using hf3, hst⟩⟩
          rw [show 0 + (i : Int).toNat * 1 = i by omega, List.map_set]
    · rintro ⟨g, f⟩ H' ⟨rfl, hf3, hst⟩
      simp only at hf3 hst ⊢
      rw [List.drop_eq_nil_of_le (by omega), List.drop_eq_nil_of_le (by omega)] at hst
      simp only [fieldsS] at hst
      match f, hf3 with
      | [a, b, c], _ =>
        rw [show List.map I [a, b, c] = [I a, I b, I c] from rfl]
        exact step (h1 g a b c hst.symm)
end
end Go.Proofs.YtmfmcegpoiinjaaDoor.HM
namespace Go.Proofs.YtmfmcegpoiinjaaDoor.HM
open Go

/-- a text, cut at each sign of a kind. -/
def cutAt (c : UInt8) : Bs → List Bs
  | [] => [[]]
  | b :: r => if b = c then [] :: cutAt c r else match cutAt c r with
    | [] => [[b]]
    | p :: ps => (b :: p) :: ps
theorem cutAt_ne (c : UInt8) : ∀ l, cutAt c l ≠ []
  | [] => by simp [cutAt]
  | b :: r => by
    unfold cutAt
    split
    · simp
    · split <;> simp
theorem index_one (b c : UInt8) (r : Bs) : Lib.index (b :: r) [c] = if b = c then 0 else if Lib.index r [c] = -1 then -1 else Lib.index r [c] + 1 := by
  rw [Lib.index]
  by_cases h : b = c
  · subst h; simp
  · have hp : List.isPrefixOf [c] (b :: r) = false := by
      rw [List.isPrefixOf]
      have : (c == b) = false := by simpa using fun e => h e.symm
      rw [this]; rfl
    rw [hp]
    simp only [Bool.false_eq_true, if_false, if_neg h, beq_iff_eq]
theorem split_cut (c : UInt8) : ∀ l : Bs, Lib.splitK [c] 0 (Lib.count l [c]) l = cutAt c l
  | [] => by
    have hi : Lib.index ([] : Bs) [c] = -1 := rfl
    rw [Lib.count_miss hi]; rfl
  | b :: r => by
    have ih := split_cut c r
    have hx := index_one b c r
    by_cases h : b = c
    · subst h
      rw [if_pos rfl] at hx
      rw [Lib.count_hit (i := 0) (by simp) hx]
      show Lib.splitK [b] 0 (1 + Lib.count r [b]) (b :: r) = _
      rw [Nat.add_comm, Lib.splitK, hx]
      rw [if_neg (by decide)]
      rw [cutAt, if_pos rfl]
      show [] :: Lib.splitK [b] 0 (Lib.count r [b]) r = _
      rw [ih]
    · rw [if_neg h] at hx
      rw [cutAt, if_neg h]
      by_cases hr : Lib.index r [c] = -1
      · rw [if_pos hr] at hx
        rw [Lib.count_miss hx]
        rw [Lib.count_miss hr] at ih
        rw [← ih]; rfl
      · rw [if_neg hr] at hx
        obtain ⟨i, hi⟩ : ∃ i : Nat, Lib.index r [c] = i := ⟨(Lib.index r [c]).toNat, by have := Lib.index_ge r [c]; omega⟩
        have hx' : Lib.index (b :: r) [c] = ((i + 1 : Nat) : Int) := by rw [hx, hi]; rfl
        rw [Lib.count_hit (by simp) hi] at ih
        rw [Lib.count_hit (by simp) hx']
        have hd : (b :: r).drop (i + 1 + [c].length) = r.drop (i + [c].length) := by simp
        rw [hd]
        rw [Nat.add_comm, Lib.splitK, hi, if_neg (by simp <;> omega)] at ih
        rw [Nat.add_comm, Lib.splitK, hx', if_neg (by simp <;> omega)]
        rw [← ih]
        simp
theorem splitB_cut (c : UInt8) (l : Bs) : (Lib.splitB (S [c]) 0 (Lib.countB (S l) (S [c])) (S l)).map HV.str = (cutAt c l).map (fun x => HV.str (S x)) ∧ Lib.countB (S l) (S [c]) + 1 = (cutAt c l).length := by
  have h1 := Lib.splitB_data (S [c]) 0 (Lib.countB (S l) (S [c])) (S l)
  have h2 := Lib.splitB_all (S [c]) (by rw [S_size]; simp) 0 _ (S l) rfl
  have h3 : Lib.splitK [c] 0 (Lib.countB (S l) (S [c])) l = cutAt c l := by
    rw [← split_cut c l]
  simp only at h1
  rw [h3] at h1
  constructor
  · rw [← h1, List.map_map]
    congr 1
  · rw [← h2, ← h1, List.length_map]

section
variable {D : HV → List HV → M HV} {H : Heap} {Q : HV → Heap → Prop}
theorem Split_wp2 (hG : Gl H) {l : Bs} {c : UInt8} (hl : l.length < 4294967281)
    (h : ∀ H' b, b = H.n → Kp H H' → H'.n = b + 1 → H'.get b = .cells ((cutAt c l).map fun x => .str (S x)) false → Q (.sl ⟨some (b, 0), (cutAt c l).length, (cutAt c l).length, none⟩) H') : wp (f_strings_Split D [.str (S l), .str (S [c])]) Q H := by
  obtain ⟨h1, h2⟩ := splitB_cut c l
  refine Split_wp hG hl ?_
  rw [h1, h2]
  refine wp_nw (wp_ret (h _ _ rfl (Kp.push _ _) rfl (by simp [Heap.push])))
theorem RStrs.of {H : Heap} {b : Nat} {xs : List Bs} {ro : Bool} (hb : b < H.n) (hg : H.get b = .cells (xs.map fun x => .str (S x)) ro) (hlt : xs.length ≤ 9223372036854775807) {o : Nat} {ys : List Bs} (hy : xs.drop o = ys) (ho : o ≤ xs.length) {n : Nat} (hn : n = ys.length) {c : Nat} (hc : n ≤ c) :
    RStrs H ⟨some (b, o), n, c, none⟩ ys := by
  have hyl : ys.length = xs.length - o := by rw [← hy]; simp
  refine ⟨by simp [hn], by simp; omega, hc, .inl rfl, fun l hl => ?_, .inr ⟨b, o, _, ro, rfl, hb, hg, by simp; omega, ?_⟩⟩
  · obtain ⟨x, _, rfl⟩ := List.mem_map.1 hl; rfl
  · rw [← List.map_drop, hy]
    have : ∀ ys : List Bs, (ys.map fun x => [HV.str (S x)]).flatten = ys.map fun x => HV.str (S x) := by
      intro ys; induction ys with
      | nil => rfl
      | cons y ys ih => simp [ih]
    rw [this, List.take_of_length_le (by simp)]
theorem RStrs.nil {H : Heap} {b : Nat} {cs : List HV} {ro : Bool} (hb : b < H.n) (hg : H.get b = .cells cs ro) : RStrs H ⟨some (b, 0), 0, 0, none⟩ [] :=
  ⟨rfl, by simp, Nat.le_refl _, .inl rfl, by simp, .inr ⟨b, 0, _, _, rfl, hb, hg, by simp, by simp⟩⟩
end
theorem cut_len (c : UInt8) : ∀ l : Bs, ∀ x ∈ cutAt c l, x.length ≤ l.length
  | [], x, h => by simp [cutAt] at h; subst h; simp
  | b :: r, x, h => by
    have ih := cut_len c r
    unfold cutAt at h
    split at h
    · rcases List.mem_cons.1 h with rfl | h
      · simp
      · have := ih x h; simp; omega
    · split at h
      · simp at h; subst h; simp
      · rename_i p ps e
        rcases List.mem_cons.1 h with rfl | h
        · have := ih p (by rw [e]; exact List.mem_cons_self); simp; omega
        · have := ih x (by rw [e]; exact List.mem_cons_of_mem _ h); simp; omega
theorem cut_count (c : UInt8) : ∀ l : Bs, (cutAt c l).length ≤ l.length + 1
  | [] => by simp [cutAt]
  | b :: r => by
    have ih := cut_count c r
    unfold cutAt
    split
    · simp; omega
    · split
      · simp
      · rename_i p ps e
        rw [e] at ih; simp at ih ⊢; omega

/-- what a line says: a mark; an instruction, and its goal (no text: none). -/
inductive Ln where
  | mark (n : Bs)
  | ins (x : Ins) (goal : Bs)
open Classical in
noncomputable def said (s : Bs) : Option Ln :=
  if s.head? = some 58 then (if nameOk (s.drop 1) then some (.mark (s.drop 1)) else none)
  else match words.idxOf? ((cutAt 32 s).headD []) with
    | none => none
    | some k => match fieldsS shapes[k]! ((cutAt 32 s).drop 1) 0 [] [0, 0, 0] with
      | some (g, f) => some (.ins ⟨k, f.getD 0 0, f.getD 1 0, f.getD 2 0⟩ g)
      | none => none
/-- a line, as the package keeps it. -/
def Ln.cs : Ln → List HV
  | .mark n => [.str (S n), .str (S []), I 0, I 0, I 0, I 0]
  | .ins x g => [.str (S []), .str (S g), I x.op, I x.a, I x.b, I x.c]
abbrev lineC (m g : Bs) (a b c d : Int) : List HV := [.str (S m), .str (S g), I a, I b, I c, I d]
theorem words_nodup : words.Nodup := by unfold words; decide
theorem idx_some {w : Bs} {k : Nat} (h : words[k]? = some w) : words.idxOf? w = some k := by
  have hk := (List.getElem?_eq_some_iff.1 h).1
  have he := (List.getElem?_eq_some_iff.1 h).2
  rw [List.idxOf?, List.findIdx?_eq_some_iff_getElem]
  refine ⟨hk, by simp [he], fun j hj => ?_⟩
  have : words[j] ≠ words[k] := fun e => by
    have := (List.getElem_inj words_nodup).1 e; omega
  rw [he] at this
  simpa using this
theorem idx_none {w : Bs} (h : ∀ k : Nat, words[k]? ≠ some w) : words.idxOf? w = none := by
  rw [List.idxOf?_eq_none_iff]
  intro hm
  obtain ⟨k, hk⟩ := List.mem_iff_getElem?.1 hm
  exact h k hk
section
variable {D : HV → List HV → M HV} {H : Heap} {Q : HV → Heap → Prop}
theorem label_parse_wp (hG : Gl H) {l : Bs} (hl : l.length ≤ 4096)
    (h1 : ∀ x H', Kp H H' → said l = some x → Q (.tup [.agg x.cs, .bool true]) H') (h2 : ∀ m g a b c d H', Kp H H' → said l = none → Q (.tup [.agg (lineC m g a b c d), .bool false]) H') : wp (f_label_parse D [.str (S l)]) Q H := by
  unfold f_label_parse
  refine step (wp_bnd (CutPrefix_wp (fun r hr => ?_) (fun hr => ?_)))
  · subst hr
    refine step (wp_bnd (label_name_wp fun b hb => step ?_))
    cases b with
    | true => exact h1 (.mark r) H (.refl H) (by unfold said; rw [if_pos (show (58 :: r).head? = some 58 from rfl)]; exact if_pos (hb.1 rfl))
    | false => exact h2 r [] 0 0 0 0 H (.refl H) (by unfold said; rw [if_pos (show (58 :: r).head? = some 58 from rfl)]; exact if_neg (fun hh => by have := hb.2 hh; cases this))
  · refine step (wp_bnd (Split_wp2 hG (by omega) fun H1 b hb k1 hn1 hg => step ?_))
    have hG1 := hG.kp k1
    have hcl := cut_count 32 l
    cases hc : cutAt 32 l with
    | nil => exact absurd hc (cutAt_ne 32 l)
    | cons w ws =>
      have hwl : w.length ≤ l.length := cut_len 32 l w (by rw [hc]; exact List.mem_cons_self)
      rw [hc] at hg hcl
      have hr1 : RStrs H1 ⟨some (b, 0), (w :: ws).length, (w :: ws).length, none⟩ (w :: ws) := RStrs.of (xs := w :: ws) (o := 0) (by omega) hg (by omega) rfl (by simp) rfl (Nat.le_refl _)
      have hs : said l = match words.idxOf? w with
          | none => none
          | some k => match fieldsS shapes[k]! ws 0 [] [0, 0, 0] with
            | some (g, f) => some (.ins ⟨k, f.getD 0 0, f.getD 1 0, f.getD 2 0⟩ g)
            | none => none := by
        unfold said; rw [if_neg hr, hc]; rfl
      refine wp_atS hr1 (i := 0) (by simp) fun b' o' => step (wp_bnd (label_op_wp hG1 (fun k hk => ?_) (fun hk => ?_)))
      · replace hk : words[k]? = some w := hk
        have hk22 : k < 22 := (List.getElem?_eq_some_iff.1 hk).1
        rw [idx_some hk] at hs
        simp only at hs
        have hlen : (((w :: ws).length : Nat) : Int) = (ws.length : Int) + 1 := by simp
        refine step ⟨fun c => by omega, fun c => ⟨by omega, (by show (1 : Int) ≤ (((w :: ws).length : Nat) : Int); omega), Int.le_refl _, Int.le_refl _, rfl, ?_⟩⟩
        have hr2 : RStrs H1 ⟨bif decide ((((w :: ws).length : Nat) : Int) = 1) then some (b, 0) else (some (b, 0)).map (fun q => (q.1, q.2 + (1 : Int).toNat * 1)), ((((w :: ws).length : Nat) : Int) - 1).toNat, ((((w :: ws).length : Nat) : Int) - 1).toNat, none⟩ ws := by
          rw [hlen]
          by_cases h0 : ws.length = 0
          · have : ws = [] := List.eq_nil_of_length_eq_zero h0
            subst this
            exact RStrs.nil (by omega) hg
          · rw [decide_eq_false (by omega)]
            exact RStrs.of (xs := w :: ws) (o := 1) (ys := ws) (by omega) hg (by omega) rfl (by simp) (by omega) (Nat.le_refl _)
        have hx : ∀ x ∈ ws, x.length ≤ 281474976710656 := fun x hx => by
          have := cut_len 32 l x (by rw [hc]; exact List.mem_cons_of_mem _ hx); omega
        refine wp_bnd (label_fields_wp hG1 hk22 hr2 hx (fun g a b c hf => step ?_) (fun hf m g a b c => step ?_))
        · rw [hf] at hs
          exact h1 _ H1 k1 hs
        · rw [hf] at hs
          exact h2 m g k a b c H1 k1 hs
      · replace hk : ∀ k : Nat, words[k]? ≠ some w := hk
        rw [idx_none hk] at hs
        simp only at hs
        refine step ⟨fun c => h2 [] [] 0 0 0 0 H1 k1 hs, fun c => by omega⟩
end
end Go.Proofs.YtmfmcegpoiinjaaDoor.HM
