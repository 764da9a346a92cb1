/- Lemmas for the row. Conditions: none. -/
import Derived.Test.YtbphjihgbenkdaaGreatHQBur
namespace Go.Proofs.YtbphjihgbenkdaaGreat.HQ
set_option linter.unusedVariables false
set_option linter.unusedSectionVars false
set_option linter.unusedSimpArgs false
open Go
abbrev rdC (l : Bs) : List HV := [.str (S l), .bool false]
set_option maxRecDepth 100000 in
theorem and_byte (b : UInt8) : IntKind.wrap .u8 ((BitVec.ofInt 8 (b.toNat : Int) &&& BitVec.ofInt 8 127).toNat : Int) = ((b.toNat % 128 : Nat) : Int) := by
 have key : ∀ k : Fin 256, (BitVec.ofNat 8 k.val &&& BitVec.ofInt 8 127).toNat = k.val % 128 := by decide
 have h := b.toNat_lt
 have e1 : BitVec.ofInt 8 (b.toNat : Int) = BitVec.ofNat 8 b.toNat := by simp
 rw [e1, key ⟨b.toNat, h⟩]
 have : b.toNat % 128 < 128 := Nat.mod_lt _ (by decide)
 simp only [IntKind.wrap, IntKind.signed, IntKind.bits]
 simp; omega
theorem u64_nat {n : Nat} (h : n < 18446744073709551616) : IntKind.wrap .u64 (n : Int) = n := by
 have e : (2 : Int) ^ IntKind.u64.bits = 18446744073709551616 := by decide
 have hs : IntKind.u64.signed = false := rfl
 simp only [IntKind.wrap, e, hs, Bool.false_and, Bool.false_eq_true, if_false]
 omega
theorem or_add {u x s : Nat} (hu : u < 2 ^ s) (hx : x < 128) (hs : s ≤ 49) : (BitVec.ofInt 64 (u : Int) ||| BitVec.ofInt 64 ((x * 2 ^ s : Nat) : Int)).toNat = u + x * 2 ^ s := by
 have h49 : (2 : Nat) ^ s ≤ 2 ^ 49 := Nat.pow_le_pow_right (by decide) hs
 have h49' : (2 : Nat) ^ 49 = 562949953421312 := by decide
 have hb : x * 2 ^ s < 72057594037927936 := by
  have : x * 2 ^ s ≤ 127 * 2 ^ s := Nat.mul_le_mul_right _ (by omega)
  omega
 rw [BitVec.toNat_or, BitVec.toNat_ofInt, BitVec.toNat_ofInt]
 have e1 : ((u : Int) % ((2 ^ 64 : Nat) : Int)).toNat = u := by
  have : ((2 ^ 64 : Nat) : Int) = 18446744073709551616 := by decide
  rw [this]; omega
 have e2 : (((x * 2 ^ s : Nat) : Int) % ((2 ^ 64 : Nat) : Int)).toNat = x * 2 ^ s := by
  have : ((2 ^ 64 : Nat) : Int) = 18446744073709551616 := by decide
  rw [this]; omega
 rw [e1, e2, Nat.or_comm, ← Nat.shiftLeft_eq, ← Nat.shiftLeft_add_eq_or_of_lt hu, Nat.add_comm]
theorem word_or {u s : Nat} {b : UInt8} (hu : u < 2 ^ s) (hs : s ≤ 49) :
  IntKind.wrap .u64 ((BitVec.ofInt 64 (u : Int) ||| BitVec.ofInt 64 (IntKind.wrap .u64 ((IntKind.wrap .u64 (IntKind.wrap .u8 ((BitVec.ofInt 8 (b.toNat : Int) &&& BitVec.ofInt 8 127).toNat : Int))) * 2 ^ (min ((s : Int)).toNat 64)))).toNat : Int) = ((u + b.toNat % 128 * 2 ^ s : Nat) : Int) := by
 have hm : b.toNat % 128 < 128 := Nat.mod_lt _ (by decide)
 have h49 : (2 : Nat) ^ s ≤ 2 ^ 49 := Nat.pow_le_pow_right (by decide) hs
 have h49' : (2 : Nat) ^ 49 = 562949953421312 := by decide
 have hb : b.toNat % 128 * 2 ^ s < 72057594037927936 := by
  have : b.toNat % 128 * 2 ^ s ≤ 127 * 2 ^ s := Nat.mul_le_mul_right _ (by omega)
  omega
 rw [and_byte, show min ((s : Int)).toNat 64 = s by simp; omega]
 have e : ((b.toNat % 128 : Nat) : Int) * 2 ^ s = ((b.toNat % 128 * 2 ^ s : Nat) : Int) := by simp
 rw [u64_nat (n := b.toNat % 128) (by omega), e, u64_nat (n := b.toNat % 128 * 2 ^ s) (by omega), or_add hu hm hs, u64_nat (by omega)]
section
variable {H0 : Heap} {P F : List HP} {Q : HV → List HP → Prop} {D : DD} {p : Nat} {l rest : Bs}
theorem stylus_Of_v (h : ∀ b, Q (.ptr (some (b, 0))) (own rC b (rdC l) :: P)) : Wp H0 P (f_stylus_Of D [.str (S l)]) Q := by
 unfold f_stylus_Of
 exact go fun b => h b
theorem Reader_Raw_v {n : Nat} [fd : Fnd P rC p (rdC l) F] (hn : n ≤ l.length) (hl : l.length ≤ 1000000) (h : Q (.str (S (l.take n))) (own rC p (rdC (l.drop n)) :: F)) : Wp H0 P (f_stylus_Reader_Raw D [.ptr (some (p, 0)), I n]) Q := by
 have hs := S_size l
 unfold f_stylus_Reader_Raw
 have hx : (S l).extract n (S l).size = S (l.drop n) := by
  rw [S_ext, hs, List.take_of_length_le (by simp)]
 refine go ⟨fun c => by omega, fun c => ⟨fun c2 => by simp at c2; omega, fun c2 => ?_⟩⟩
 have e1 : (S l).extract (Int.toNat 0) ((n : Int)).toNat = S (l.take n) := by rw [S_ext]; simp
 have e2 : (S l).extract ((n : Int)).toNat (((S l).size : Int)).toNat = S (l.drop n) := by simpa using hx
 rw [e1, e2]
 exact ⟨by decide, by omega, by omega, by omega, by omega, h⟩
theorem S_data (l : List UInt8) : (S l).data = l.toArray := rfl
theorem p128 (k : Nat) : (128 : Nat) ^ k = 2 ^ (7 * k) := by rw [Nat.pow_mul, show (2 : Nat) ^ 7 = 128 by decide]
theorem natL_ne (n : Nat) : natL n ≠ [] := by
 by_cases c : n < 128
 ·rw [natL_lo c]; simp
 ·rw [natL_hi c]; simp
theorem natL_cons (n : Nat) : ∃ b : UInt8, natL n = b :: (if n < 128 then [] else natL (n / 128)) ∧ b.toNat % 128 = n % 128 ∧ (b.toNat < 128 ↔ n < 128) ∧ (0 < n → b.toNat ≠ 0) := by
 by_cases c : n < 128
 ·refine ⟨UInt8.ofNat n, by rw [natL_lo c, if_pos c], ?_, ?_, ?_⟩
  all_goals
   rw [UInt8.toNat_ofNat', Nat.mod_eq_of_lt (show n < 2 ^ 8 by omega)]
   try omega
 ·refine ⟨UInt8.ofNat (n % 128 + 128), by rw [natL_hi c, if_neg c], ?_, ?_, ?_⟩
  all_goals
   rw [UInt8.toNat_ofNat', Nat.mod_eq_of_lt (show n % 128 + 128 < 2 ^ 8 by omega)]
   omega
theorem Reader_word_v {n : Nat} [fd : Fnd P rC p (rdC (natL n ++ rest)) F] (hn : n < 128 ^ 7) (hl : (natL n ++ rest).length ≤ 1000000) (h : Q (.int .u64 n) (own rC p (rdC rest) :: F)) : Wp H0 P (f_stylus_Reader_word D [.ptr (some (p, 0))]) Q := by
 refine Wp.cl ?_
 unfold f_stylus_Reader_word
 refine go ?_
 refine Wp.ent (P' := own rC p (rdC (natL n ++ rest)) :: F) (Ent.perm fd.p) ?_
 refine Wp.blk (Wp.loop (fun kk vs P' => ∃ (k m : Nat), kk = 7 - k ∧ k ≤ 6 ∧ m = n / 128 ^ k ∧ (k = 0 ∨ 0 < m) ∧ (natL m ++ rest).length ≤ 1000000 ∧ vs = [.int .u64 ((n % 128 ^ k : Nat) : Int), I ((7 * k : Nat) : Int)] ∧ P' = own rC p (rdC (natL m ++ rest)) :: F) 7 ⟨0, n, by omega, by omega, by simp, .inl rfl, hl, by rw [Nat.pow_zero, Nat.mod_one]; rfl, rfl⟩ ?_)
 rintro kk vs P' ⟨k, m, hk, hk6, hm, hm0, hml, rfl, rfl⟩
 obtain ⟨b, hb, hb1, hb2, hb3⟩ := natL_cons m
 have e1 : (natL m ++ rest).take 1 = [b] := by rw [hb]; rfl
 have e2 : (natL m ++ rest).drop 1 = (if m < 128 then [] else natL (m / 128)) ++ rest := by rw [hb]; rfl
 have hmlt : m < 128 ^ (7 - k) := by
  rw [hm]
  refine Nat.div_lt_of_lt_mul ?_
  rw [← Nat.pow_add, show k + (7 - k) = 7 by omega]; exact hn
 have hw := word_or (u := n % 128 ^ k) (s := 7 * k) (b := b) (by rw [p128 k]; exact Nat.mod_lt _ (Nat.pow_pos (by decide))) (by omega)
 have hsum : n % 128 ^ k + b.toNat % 128 * 2 ^ (7 * k) = n % 128 ^ (k + 1) := by
  rw [hb1, hm, Nat.pow_succ, Nat.mod_mul, p128 k]
  exact congrArg _ (Nat.mul_comm _ _)
 rw [hsum] at hw
 refine go ⟨fun c => ?_, fun c => by omega⟩
 refine Reader_Raw_v (n := 1) (l := natL m ++ rest) (by rw [hb]; simp) hml ?_
 rw [e1, e2]
 have hg : ((S [b]).data[Int.toNat 0]?.getD 0) = b := rfl
 have hsz : (S [b]).size = 1 := rfl
 refine Wp.jn (Wp.mono (Q' := fun lf P' => lf = .norm [.bool false] ∧ P' = own rC p (rdC ((if m < 128 then [] else natL (m / 128)) ++ rest)) :: F) ?_ ?_)
 ·refine go ⟨fun q => by simp at q, fun _ => ⟨fun q => by omega, fun _ => ⟨fun q => ?_, fun q => ?_⟩⟩⟩
  ·rw [hg, hsz]
   refine ⟨by decide, by decide, ?_⟩
   refine Wp.ret ⟨?_, rfl⟩
   have : b.toNat ≠ 0 := hb3 (by omega)
   simp [this]
  ·exact Wp.ret ⟨rfl, rfl⟩
 rintro lf P' ⟨rfl, rfl⟩
 refine go ?_
 rw [hg, hsz, hw]
 refine ⟨by decide, by decide, by omega, by decide, by decide, fun q => ?_, fun q => ?_⟩
 ·have hm128 : m < 128 := hb2.1 (by omega)
  rw [if_pos hm128]
  have hnn : n % 128 ^ (k + 1) = n := by
   refine Nat.mod_eq_of_lt ?_
   rw [Nat.pow_succ]
   have h0 : 0 < 128 ^ k := Nat.pow_pos (by decide)
   rw [hm] at hm128
   have := (Nat.div_lt_iff_lt_mul h0).1 hm128
   rw [Nat.mul_comm]; exact this
  rw [hnn]
  exact ⟨_, h, .refl⟩
 ·have hm128 : ¬ m < 128 := fun z => q (by have := hb2.2 z; omega)
  have hk6' : k < 6 := by
   rcases Nat.lt_or_ge k 6 with z | z
   ·exact z
   ·have : k = 6 := by omega
    subst this
    have : (128 : Nat) ^ (7 - 6) = 128 := by decide
    omega
  rw [if_neg hm128]
  refine ⟨7 - (k + 1), by omega, k + 1, m / 128, rfl, by omega, by rw [hm, Nat.pow_succ, Nat.div_div_eq_div_mul], .inr (by omega), ?_, ?_, rfl⟩
  ·rw [hb, if_neg hm128] at hml
   simp at hml ⊢; omega
  ·rw [wr_small (by omega) (by omega)]
   congr 3
theorem Reader_Nat_v {n : Nat} {most : Int} [fd : Fnd P rC p (rdC (natL n ++ rest)) F] (hn : (n : Int) ≤ most) (hm : most ≤ 1099511627776) (hl : (natL n ++ rest).length ≤ 1000000) (h : Q (I n) (own rC p (rdC rest) :: F)) : Wp H0 P (f_stylus_Reader_Nat D [.ptr (some (p, 0)), I most]) Q := by
 have h7 : (128 : Nat) ^ 7 = 562949953421312 := by decide
 obtain ⟨k, rfl⟩ : ∃ k : Nat, most = k := ⟨most.toNat, by omega⟩
 have e := u64_nat (n := k) (by omega)
 unfold f_stylus_Reader_Nat
 refine go (Reader_word_v (n := n) (by omega) hl ?_)
 rw [e]
 refine go ⟨fun c => by omega, fun c => ⟨fun c2 => by simp at c2; omega, fun c2 => ?_⟩⟩
 rw [wr_small (by omega) (by omega)]
 exact h
theorem Reader_Bad_v [fd : Fnd P rC p (rdC l) F] (h : Q (.bool false) P) : Wp H0 P (f_stylus_Reader_Bad D [.ptr (some (p, 0))]) Q := by
 unfold f_stylus_Reader_Bad
 exact go h
theorem Reader_Left_v [fd : Fnd P rC p (rdC l) F] (h : Q (I l.length) P) : Wp H0 P (f_stylus_Reader_Left D [.ptr (some (p, 0))]) Q := by
 unfold f_stylus_Reader_Left
 refine go ?_
 rw [S_size]; exact h
theorem Reader_Text_v {t : Bs} {most : Int} [fd : Fnd P rC p (rdC (natL t.length ++ (t ++ rest))) F] (hn : (t.length : Int) ≤ most) (hm : most ≤ 1099511627776) (hl : (natL t.length ++ (t ++ rest)).length ≤ 1000000) (h : Q (.str (S t)) (own rC p (rdC rest) :: F)) : Wp H0 P (f_stylus_Reader_Text D [.ptr (some (p, 0)), I most]) Q := by
 unfold f_stylus_Reader_Text
 refine go (Reader_Nat_v (n := t.length) hn hm hl ?_)
 refine go (Reader_Raw_v (n := t.length) (l := t ++ rest) (by simp) (by simp at hl ⊢; omega) ?_)
 rw [List.take_left, List.drop_left]
 exact go h
/-! a wafer -/
def lenW (b : Bs) : Nat := (b[0]?.getD 0).toNat * 256 + (b[1]?.getD 0).toNat
def openW (b : Bs) : Option Bs :=
 if b.length < 2 then none
 else if 1024 < lenW b ∨ b.length < lenW b + 6 then none
 else if footL (sumL (b.take (2 + lenW b))) = (b.drop (2 + lenW b)).take 4 then some ((b.drop 2).take (lenW b)) else none
set_option maxRecDepth 100000 in
theorem lenW_or {x y : UInt8} : wr ((BitVec.ofInt 64 (wr ((wr (x.toNat : Int)) * 2 ^ 8)) ||| BitVec.ofInt 64 (wr (y.toNat : Int))).toNat : Int) = ((x.toNat * 256 + y.toNat : Nat) : Int) := by
 have hx := x.toNat_lt
 have hy := y.toNat_lt
 rw [wr_small (n := (x.toNat : Int)) (by omega) (by omega), wr_small (n := (y.toNat : Int)) (by omega) (by omega), wr_small (n := (x.toNat : Int) * 2 ^ 8) (by omega) (by omega)]
 have e : ((x.toNat : Int) * 2 ^ 8) = ((x.toNat * 2 ^ 8 : Nat) : Int) := by simp
 rw [e]
 have : (BitVec.ofInt 64 ((x.toNat * 2 ^ 8 : Nat) : Int) ||| BitVec.ofInt 64 (y.toNat : Int)).toNat = x.toNat * 256 + y.toNat := by
  rw [BitVec.toNat_or, BitVec.toNat_ofInt, BitVec.toNat_ofInt]
  have e1 : ((y.toNat : Int) % ((2 ^ 64 : Nat) : Int)).toNat = y.toNat := by
   have : ((2 ^ 64 : Nat) : Int) = 18446744073709551616 := by decide
   rw [this]; omega
  have e2 : (((x.toNat * 2 ^ 8 : Nat) : Int) % ((2 ^ 64 : Nat) : Int)).toNat = x.toNat * 2 ^ 8 := by
   have : ((2 ^ 64 : Nat) : Int) = 18446744073709551616 := by decide
   rw [this]; omega
  rw [e1, e2, ← Nat.shiftLeft_eq, ← Nat.shiftLeft_add_eq_or_of_lt (by omega), Nat.shiftLeft_eq]
 rw [this, wr_small (by omega) (by omega)]
def openR (b : Bs) : HV := match openW b with
 | some l => .tup [.str (S l), I ((l.length : Int) + 6)]
 | none => .tup [.str (S []), I 0]
theorem wafer_Open_v {b : Bs} (hb : b.length ≤ 1000000) (h : Q (openR b) P) : Wp H0 P (f_wafer_Open D [.str (S b)]) Q := by
 have hs := S_size b
 have g0 : ((S b).data[Int.toNat 0]?.getD 0) = b[0]?.getD 0 := by rw [S_data]; simp
 have g1 : ((S b).data[Int.toNat 1]?.getD 0) = b[1]?.getD 0 := by rw [S_data]; simp
 unfold openR openW at h
 unfold f_wafer_Open
 refine go ⟨fun c => ?_, fun c => ?_⟩
 ·rw [if_pos (by omega)] at h
  exact h
 rw [if_neg (by omega)] at h
 rw [g0, g1, lenW_or]
 have hlw : (b[0]?.getD 0).toNat * 256 + (b[1]?.getD 0).toNat = lenW b := rfl
 rw [hlw]
 have w1 := wr_small (n := 2 + (lenW b : Int))
 have hlwb : lenW b ≤ 65535 := by
  have h1 := (b[0]?.getD 0).toNat_lt
  have h2 := (b[1]?.getD 0).toNat_lt
  rw [← hlw]; omega
 rw [wr_small (n := 2 + (lenW b : Int)) (by omega) (by omega), wr_small (n := 2 + (lenW b : Int) + 4) (by omega) (by omega)]
 refine ⟨by decide, by omega, by decide, by omega, fun c1 => ?_, fun c1 => ⟨fun c2 => ?_, fun c2 => ?_⟩⟩
 ·rw [if_pos (.inl (by omega))] at h; exact h
 ·rw [if_pos (.inr (by omega))] at h; exact h
 rw [if_neg (by omega)] at h
 have et : (S b).extract (Int.toNat 0) (2 + (lenW b : Int)).toNat = S (b.take (2 + lenW b)) := by
  rw [S_ext]
  congr 1
  try (simp; omega)
 have ed : (S b).extract (2 + (lenW b : Int)).toNat (2 + (lenW b : Int) + 4).toNat = S ((b.drop (2 + lenW b)).take 4) := by
  rw [S_ext, show (2 + (lenW b : Int)).toNat = 2 + lenW b by omega, show (2 + (lenW b : Int) + 4).toNat - (2 + lenW b) = 4 by omega]
 have el : (S b).extract (Int.toNat 2) (2 + (lenW b : Int)).toNat = S ((b.drop 2).take (lenW b)) := by
  rw [S_ext, show Int.toNat 2 = 2 from rfl, show (2 + (lenW b : Int)).toNat - 2 = lenW b by omega]
 rw [et, ed, el]
 refine ⟨by decide, by omega, by omega, ?_⟩
 refine wafer_Sum_v (by simp; omega) ?_
 refine go (wafer_foots_v ?_)
 refine go ⟨by omega, by omega, by omega, fun q => ?_, fun q => ⟨by decide, by omega, by omega, ?_⟩⟩
 ·have hne : ¬ footL (sumL (b.take (2 + lenW b))) = (b.drop (2 + lenW b)).take 4 := fun z => by rw [z] at q; simp at q
  rw [if_neg hne] at h
  exact h
 ·have he : footL (sumL (b.take (2 + lenW b))) = (b.drop (2 + lenW b)).take 4 := by simpa [toList_S] using q
  rw [if_pos he] at h
  simp only at h
  rw [List.length_take, List.length_drop, Nat.min_eq_left (by omega)] at h
  rw [show (2 + (lenW b : Int) + 4) = (lenW b : Int) + 6 by omega]
  exact h
end
def wafs (ls : List Bs) : Bs := (ls.map closeL).flatten
theorem wafs_cons (l : Bs) (ls : List Bs) : wafs (l :: ls) = closeL l ++ wafs ls := rfl
theorem u8L_mod {n : Nat} : (u8L (n : Int)).toNat = n % 256 := by
 unfold u8L
 have e : (2 : Int) ^ IntKind.u8.bits = 256 := by decide
 have hs : IntKind.u8.signed = false := rfl
 have : IntKind.wrap .u8 (n : Int) = ((n % 256 : Nat) : Int) := by
  simp only [IntKind.wrap, e, hs, Bool.false_and, Bool.false_eq_true, if_false]; omega
 rw [this]
 simp
 omega
theorem head2 (l : Bs) : ∃ x y : UInt8, headL l = x :: y :: l ∧ (l.length ≤ 1024 → x.toNat * 256 + y.toNat = l.length) := by
 refine ⟨_, _, rfl, fun h => ?_⟩
 have e : Int.fdiv (l.length : Int) (2 ^ 8) = ((l.length / 256 : Nat) : Int) := by
  rw [Int.fdiv_eq_ediv_of_nonneg _ (by decide)]; simp
 rw [e, u8L_mod, u8L_mod]
 omega
theorem close_cons (l : Bs) : ∃ x y : UInt8, closeL l = x :: y :: (l ++ footL (sumL (headL l))) ∧ (l.length ≤ 1024 → x.toNat * 256 + y.toNat = l.length) := by
 obtain ⟨x, y, h1, h2⟩ := head2 l
 refine ⟨x, y, ?_, h2⟩
 show headL l ++ _ = _
 rw [h1]; rfl
theorem openW_close {l rest : Bs} (h : l.length ≤ 1024) : openW (closeL l ++ rest) = some l := by
 obtain ⟨x, y, h1, h2⟩ := close_cons l
 obtain ⟨x', y', h3, _⟩ := head2 l
 have hl := closeL_len l
 have hw : lenW (closeL l ++ rest) = l.length := by
  unfold lenW
  rw [h1]
  exact h2 h
 have hhead : headL l = x :: y :: l := by
  have e : closeL l = headL l ++ footL (sumL (headL l)) := rfl
  rw [h3] at e
  rw [h1, h3] at e
  simp at e
  rw [h3, e.1, e.2]
 have hf : (footL (sumL (headL l))).length = 4 := rfl
 unfold openW
 rw [hw, if_neg (by rw [List.length_append, hl]; omega), if_neg (by rw [List.length_append, hl]; omega)]
 have t1 : (closeL l ++ rest).take (2 + l.length) = headL l := by
  have e : closeL l ++ rest = headL l ++ (footL (sumL (headL l)) ++ rest) := by
   show (headL l ++ _) ++ rest = _
   rw [List.append_assoc]
  have hh : (headL l).length = 2 + l.length := by rw [hhead]; simp; omega
  rw [e, ← hh, List.take_left]
 have t2 : ((closeL l ++ rest).drop (2 + l.length)).take 4 = footL (sumL (headL l)) := by
  have e : closeL l ++ rest = headL l ++ (footL (sumL (headL l)) ++ rest) := by
   show (headL l ++ _) ++ rest = _
   rw [List.append_assoc]
  have hh : (headL l).length = 2 + l.length := by rw [hhead]; simp; omega
  rw [e, ← hh, List.drop_left, ← hf, List.take_left]
 have t3 : ((closeL l ++ rest).drop 2).take l.length = l := by
  rw [h1]
  simp
 rw [t1, t2, if_pos rfl, t3]
theorem openW_cut {l : Bs} {k : Nat} (h : l.length ≤ 1024) (hk : k < (closeL l).length) : openW ((closeL l).take k) = none := by
 obtain ⟨x, y, h1, h2⟩ := close_cons l
 have hl := closeL_len l
 have hlen : ((closeL l).take k).length = k := by simp; omega
 unfold openW
 rw [hlen]
 by_cases c : k < 2
 ·rw [if_pos c]
 ·rw [if_neg c]
  have hw : lenW ((closeL l).take k) = l.length := by
   obtain ⟨j, rfl⟩ : ∃ j, k = j + 2 := ⟨k - 2, by omega⟩
   unfold lenW
   rw [h1]
   exact h2 h
  rw [hw, if_pos (.inr (by omega))]
theorem openW_nil : openW [] = none := rfl
class SeaRec [Sea] : Prop where
 rw_ : lkA Sea.rn 94685864 = some r0_wafer_Whole
 rl : lkA Sea.rn 91115101 = some r0_wal_Log_All_1
 rv : lkA Sea.rn 69547369 = some r0_vault_look
section
variable {H0 : Heap} {P F : List HP} {Q : HV → List HP → Prop} {D : DD}
theorem wafer_All_1_v {σ : Type} {b1 lp : Nat} {bs tail : Bs} {ls : List Bs} (hw : bs = wafs ls ++ tail) (ht : openW tail = none) (hl : ∀ l ∈ ls, l.length ≤ 1024) (hbs : bs.length ≤ 1000000) [fb : Fnd P rC b1 [.str (S bs)] F]
  (q : Nat → σ → Prop) (M : Nat → σ → List HP) (x0 : σ) (hq : q 0 x0) (h0 : Ent P (M 0 x0))
  (round : ∀ i e x, ls[i]? = some e → q i x → Wp H0 (M i x) (D (.yld lp) [.str (S e)]) (fun a P' => a = .bool true ∧ ∃ x', q (i + 1) x' ∧ Ent P' (M (i + 1) x')))
  (h1 : ∀ x, q ls.length x → Q (.tup []) (M ls.length x)) : Wp H0 P (f_wafer_All_1 D [.yld lp, .ptr (some (b1, 0))]) Q := by
 refine Wp.cl ?_
 unfold f_wafer_All_1
 refine go ?_
 refine Wp.loop (fun k vs P' => ∃ (i : Nat) (x : σ) (r : Bs), k = ls.length - i ∧ i ≤ ls.length ∧ q i x ∧ r = wafs (ls.drop i) ++ tail ∧ r.length ≤ 1000000 ∧ vs = [.str (S r)] ∧ Ent P' (M i x)) ls.length
  ⟨0, x0, bs, rfl, Nat.zero_le _, hq, by rw [List.drop_zero]; exact hw, hbs, rfl, h0⟩ ?_
 rintro k vs P' ⟨i, x, r, hk, hi, hx, hr, hrl, rfl, he⟩
 refine go (wafer_Open_v hrl ?_)
 unfold openR
 by_cases c : i < ls.length
 ·have hg : ls[i]? = some ls[i] := List.getElem?_eq_getElem c
  have hd : ls.drop i = ls[i] :: ls.drop (i + 1) := List.drop_eq_getElem_cons c
  have hm := hl ls[i] (List.getElem_mem c)
  rw [hd, wafs_cons, List.append_assoc] at hr
  generalize ls[i] = e at hg hm hr
  have ho : openW r = some e := by rw [hr]; exact openW_close hm
  rw [ho]
  simp only
  have hrl2 : r.length = e.length + 6 + (wafs (ls.drop (i + 1)) ++ tail).length := by rw [hr, List.length_append, closeL_len]
  have hdr : r.drop (e.length + 6) = wafs (ls.drop (i + 1)) ++ tail := by
   rw [hr, ← closeL_len, List.drop_left]
  refine go ⟨fun z => by omega, fun _ => ?_⟩
  refine Wp.ent he ?_
  refine (round i e x hg hx).mono ?_
  rintro a P2 ⟨rfl, x', hx', he'⟩
  have hs := S_size r
  refine go ⟨by omega, by omega, ?_⟩
  refine ⟨ls.length - (i + 1), by omega, i + 1, x', r.drop (e.length + 6), rfl, by omega, hx', hdr, by simp; omega, ?_, he'⟩
  rw [S_ext, show ((e.length : Int) + 6).toNat = e.length + 6 by omega, List.take_of_length_le (by simp; omega)]
 ·have hil : i = ls.length := by omega
  subst hil
  have ho : openW r = none := by rw [hr, List.drop_length]; exact ht
  rw [ho]
  exact go ⟨_, h1 x hx, he⟩
end
section
variable {H0 : Heap} {P F : List HP} {Q : HV → List HP → Prop} [Sea] [SeaOpen] [SeaRec] {n : Nat}
theorem wafer_Whole_v {bs tail : Bs} {ls : List Bs} (hw : bs = wafs ls ++ tail) (ht : openW tail = none) (hl : ∀ l ∈ ls, l.length ≤ 1024) (hbs : bs.length ≤ 1000000) (h : Q (I (wafs ls).length) P) : Wp H0 P (f_wafer_Whole (lv (n + 2)) [.str (S bs)]) Q := by
 refine Wp.cl ?_
 unfold f_wafer_Whole
 refine go fun b3 => ?_
 unfold f_wafer_All
 refine go fun b1 => ?_
 refine go fun lp => ?_
 rw [lv_succ]
 refine Wp.clo SeaOpen.wa ?_
 show Wp H0 _ (f_wafer_All_1 (lv (n + 1)) [.yld lp, .ptr (some (b1, 0))]) _
 refine wafer_All_1_v (σ := Unit) hw ht hl hbs (fun _ _ => True) (fun i _ => own rX lp (.loop 94685864 [(3, .ptr (some (b3, 0)))] .ready none) :: own rC b3 [I (wafs (ls.take i)).length] :: P) () trivial (.cons rfl (.cons rfl (.weak .refl))) ?_ ?_
 ·intro i e x he _
  have hsn : wafs (ls.take (i + 1)) = wafs (ls.take i) ++ closeL e := by
   unfold wafs
   rw [List.take_add_one, he]; simp
  have hle : (wafs (ls.take (i + 1))).length ≤ bs.length := by
   rw [hw]
   have : wafs ls = wafs (ls.take (i + 1)) ++ wafs (ls.drop (i + 1)) := by
    unfold wafs
    rw [← List.flatten_append, ← List.map_append, List.take_append_drop]
   rw [this]; simp <;> omega
  have hcl := closeL_len e
  have hln : (wafs (ls.take (i + 1))).length = (wafs (ls.take i)).length + (e.length + 6) := by rw [hsn, List.length_append, hcl]
  have hs := S_size e
  rw [lv_succ]
  refine Wp.rnd (l := lp) SeaRec.rw_ ?_
  unfold r0_wafer_Whole
  refine go ?_
  refine ⟨rfl, (), trivial, .cons rfl (.cons ?_ .refl)⟩
  rw [hs, wr_small (n := 2 + (e.length : Int)) (by omega) (by omega), wr_small (n := 2 + (e.length : Int) + 4) (by omega) (by omega), wr_small (by omega) (by omega), hln]
  congr 2
  omega
 ·intro x _
  rw [List.take_length]
  refine go ?_
  exact ⟨_, h, .weak (.weak .refl)⟩
theorem wal_Open_v {p a : Nat} {d : Dk} {tail : Bs} {ls : List Bs} [fd : Fnd P rDisk p d F] (ha : a ≤ 1) (hw : d.now a = wafs ls ++ tail) (ht : openW tail = none) (hl : ∀ l ∈ ls, l.length ≤ 1024) (hbs : (d.now a).length ≤ 1000000)
  (h : ∀ b, Q (.tup [.ptr (some (b, 0)), I 0]) (own rC b [.ptr (some (p, 0)), I a, I (wafs ls).length, .bool (decide (((wafs ls).length : Int) < ((d.now a).length : Int)))] :: P)) : Wp H0 P (f_wal_Open (lv (n + 2)) [.ptr (some (p, 0)), I a]) Q := by
 refine Wp.cl ?_
 unfold f_wal_Open
 have hs := S_size (d.now a)
 have fin : Wp H0 P (f_disk_Disk_Read (lv (n + 2)) [.ptr (some (p, 0)), I a]) (fun r P' => r = .str (S (d.now a)) ∧ P' = P) := disk_Read_v ha ⟨rfl, rfl⟩
 obtain rfl | rfl : a = 0 ∨ a = 1 := by omega
 ·refine go ?_
  refine fin.mono ?_
  rintro _ _ ⟨rfl, rfl⟩
  refine go (wafer_Whole_v hw ht hl hbs ?_)
  refine go fun b31 => ?_
  exact ⟨_, h b31, .cons (by rw [hs]) .refl⟩
 ·refine go ⟨fun _ => ?_, fun c => absurd c (by decide)⟩
  refine fin.mono ?_
  rintro _ _ ⟨rfl, rfl⟩
  refine go (wafer_Whole_v hw ht hl hbs ?_)
  refine go fun b31 => ?_
  exact ⟨_, h b31, .cons (by rw [hs]) .refl⟩
omit [Sea] [SeaOpen] [SeaRec] in
theorem Ent.inG {A B : HP} {L G : List HP} : Ent (A :: B :: (L ++ G)) (L ++ (A :: B :: G)) :=
 Ent.perm ((List.perm_middle.trans (List.perm_middle.cons A)).symm)
omit [Sea] [SeaOpen] [SeaRec] in
theorem Ent.outG {A B : HP} {L G : List HP} : Ent (L ++ (A :: B :: G)) (A :: B :: (L ++ G)) :=
 Ent.perm (List.perm_middle.trans (List.perm_middle.cons A))
theorem wal_Log_All_1_v {σ : Type} {b1 lp pl p a : Nat} {z t : HV} {d : Dk} {tail : Bs} {ls : List Bs} {F1 F2 F3 : List HP} [fb : Fnd P rC b1 [.ptr (some (pl, 0))] F1] [fl : Fnd F1 rC pl [.ptr (some (p, 0)), I a, z, t] F2] [fd : Fnd F2 rDisk p d F3]
  (ha : a ≤ 1) (hw : d.now a = wafs ls ++ tail) (ht : openW tail = none) (hl : ∀ l ∈ ls, l.length ≤ 1024) (hbs : (d.now a).length ≤ 1000000)
  (q : Nat → σ → Prop) (M : Nat → σ → List HP → List HP) (hM : ∀ i x G, M i x G = M i x [] ++ G) (x0 : σ) (hq : q 0 x0) (h0 : Ent (own rC b1 [.ptr (some (pl, 0))] :: own rC pl [.ptr (some (p, 0)), I a, z, t] :: own rDisk p d :: F3) (M 0 x0 []))
  (round : ∀ (G : List HP) i e x, ls[i]? = some e → q i x → Wp H0 (M i x G) (lv (n + 1) (.yld lp) [.str (S e)]) (fun a P' => a = .bool true ∧ ∃ x', q (i + 1) x' ∧ Ent P' (M (i + 1) x' G)))
  (h1 : ∀ x, q ls.length x → Q (.tup []) (M ls.length x [])) : Wp H0 P (f_wal_Log_All_1 (lv (n + 3)) [.yld lp, .ptr (some (b1, 0))]) Q := by
 refine Wp.cl ?_
 refine Wp.ent (P' := own rC b1 [.ptr (some (pl, 0))] :: own rC pl [.ptr (some (p, 0)), I a, z, t] :: own rDisk p d :: F3) (.cons rfl (.cons rfl (.cons rfl .refl))) ?_
 unfold f_wal_Log_All_1
 refine go fun b2 => ?_
 refine disk_Read_v ha ?_
 refine go ?_
 unfold f_wafer_All
 refine go fun b3 => ?_
 refine go fun lp2 => ?_
 rw [lv_succ]
 refine Wp.clo SeaOpen.wa ?_
 show Wp H0 _ (f_wafer_All_1 (lv (n + 2)) [.yld lp2, .ptr (some (b3, 0))]) _
 refine wafer_All_1_v (σ := σ) hw ht hl hbs q (fun i x => M i x (own rX lp2 (.loop 91115101 [(2, .ptr (some (b2, 0)))] .ready none) :: own rC b2 [.yld lp] :: [])) x0 hq ?_ ?_ ?_
 ·rw [hM]
  refine Ent.trans (P' := own rX lp2 (.loop 91115101 [(2, .ptr (some (b2, 0)))] .ready none) :: own rC b2 [.yld lp] :: own rC b1 [.ptr (some (pl, 0))] :: own rC pl [.ptr (some (p, 0)), I a, z, t] :: own rDisk p d :: F3) (.cons rfl (.cons rfl (.weak .refl))) ?_
  refine Ent.trans (Ent.head (fun _ q => q) (Ent.head (fun _ q => q) h0)) ?_
  have := Ent.inG (A := own rX lp2 (.loop 91115101 [(2, .ptr (some (b2, 0)))] .ready none)) (B := own rC b2 [.yld lp]) (L := M 0 x0 []) (G := [])
  rw [List.append_nil] at this
  exact this
 ·intro i e x he hx
  refine Wp.ent (P' := own rX lp2 (.loop 91115101 [(2, .ptr (some (b2, 0)))] .ready none) :: own rC b2 [.yld lp] :: (M i x [] ++ [])) (by rw [hM]; exact Ent.outG) ?_
  rw [lv_succ]
  refine Wp.rnd (l := lp2) SeaRec.rl ?_
  unfold r0_wal_Log_All_1
  refine go ?_
  refine Wp.ent (P' := M i x (own rX lp2 (.loop 91115101 [(2, .ptr (some (b2, 0)))] .busy none) :: own rC b2 [.yld lp] :: [])) (by rw [hM i x (_ :: _ :: [])]; exact Ent.inG) ?_
  refine (round _ i e x he hx).mono ?_
  rintro a P2 ⟨rfl, x', hx', he'⟩
  refine Wp.ent (P' := own rX lp2 (.loop 91115101 [(2, .ptr (some (b2, 0)))] .busy none) :: own rC b2 [.yld lp] :: (M (i + 1) x' [] ++ [])) (he'.trans (by rw [hM]; exact Ent.outG)) ?_
  refine go ?_
  refine ⟨rfl, x', hx', ?_⟩
  rw [hM (i + 1) x' (_ :: _ :: [])]
  exact Ent.inG
 ·intro x hx
  refine Wp.ent (P' := own rX lp2 (.loop 91115101 [(2, .ptr (some (b2, 0)))] .ready none) :: own rC b2 [.yld lp] :: (M ls.length x [] ++ [])) (by rw [hM]; exact Ent.outG) ?_
  refine go ?_
  refine ⟨_, h1 x hx, ?_⟩
  rw [List.append_nil]
  exact .weak (.weak .refl)
end
def stE (ep : Nat) (img : Bs) : Bs := natL 0 ++ (natL ep ++ img)
abbrev lsC (l : Bs) : List HV := [.str (S l)]
section
variable {H0 : Heap} {P F : List HP} {Q : HV → List HP → Prop} {D : DD}
theorem vault_first_v {ep : Nat} {img : Bs} (he : 0 < ep) (he2 : ep ≤ 1099511627776) (hl : (stE ep img).length ≤ 1000000) (h : Q (.tup [I ep, .str (S img), .bool true]) P) : Wp H0 P (f_vault_first D [.str (S (stE ep img))]) Q := by
 refine Wp.cl ?_
 have hl2 : (natL ep ++ img).length ≤ 1000000 := by unfold stE at hl; rw [List.length_append] at hl; omega
 have hl3 : img.length ≤ 1000000 := by rw [List.length_append] at hl2; omega
 unfold f_vault_first
 refine go (stylus_Of_v fun b => ?_)
 refine go (Reader_Nat_v (n := 0) (rest := natL ep ++ img) (by omega) (by omega) hl ?_)
 refine go (Reader_Nat_v (n := ep) (rest := img) (by omega) (by omega) hl2 ?_)
 refine go (Reader_Left_v (l := img) ?_)
 refine go (Reader_Raw_v (n := img.length) (l := img) (Nat.le_refl _) hl3 ?_)
 rw [List.take_length]
 refine go (Reader_Bad_v (l := img.drop img.length) ?_)
 refine go ?_
 refine ⟨_, ?_, .weak .refl⟩
 have : decide ((ep : Int) > 0) = true := decide_eq_true (by omega)
 rw [this]
 exact h
end
section
variable {H0 : Heap} {P F : List HP} {Q : HV → List HP → Prop} [Sea] [SeaOpen] [SeaRec] {n : Nat}
theorem look_v {pl p a ep : Nat} {z t : HV} {d : Dk} {tail img : Bs} {loads : List Bs} {F1 F2 : List HP} [fl : Fnd P rC pl [.ptr (some (p, 0)), I a, z, t] F1] [fd : Fnd F1 rDisk p d F2]
  (ha : a ≤ 1) (hw : d.now a = wafs (stE ep img :: loads.map (1 :: ·)) ++ tail) (ht : openW tail = none) (hi : (stE ep img).length ≤ 1024) (hl : ∀ l ∈ loads, l.length ≤ 1000) (hbs : (d.now a).length ≤ 1000000) (hn : loads.length ≤ 1000000) (he0 : 0 < ep) (he2 : ep ≤ 1099511627776)
  (h : ∀ s, Q (.tup [I ep, .agg [.str (S img), .sl s]]) (own (rR lsC 1) s loads :: own rC pl [.ptr (some (p, 0)), I a, z, t] :: own rDisk p d :: F2)) : Wp H0 P (f_vault_look (lv (n + 4)) [.ptr (some (pl, 0))]) Q := by
 refine Wp.cl ?_
 have hroom : room = 140737488355328 := rfl
 refine Wp.ent (P' := own rC pl [.ptr (some (p, 0)), I a, z, t] :: own rDisk p d :: F2) (.cons rfl (.cons rfl .refl)) ?_
 unfold f_vault_look
 refine Wp.nil lsC (sz := 1) (by decide) ?_
 refine go fun b2 b3 b4 b5 b6 => ?_
 unfold f_wal_Log_All
 refine go fun b1 => ?_
 refine go fun lp => ?_
 rw [lv_succ]
 refine Wp.clo SeaOpen.la ?_
 show Wp H0 _ (f_wal_Log_All_1 (lv (n + 3)) [.yld lp, .ptr (some (b1, 0))]) _
 refine wal_Log_All_1_v (σ := Sl) (pl := pl) (p := p) (a := a) (d := d) ha hw ht ?_ hbs (fun _ _ => True)
  (fun i s G => own rX lp (.loop 69547369 [(2, .ptr (some (b2, 0))), (3, .ptr (some (b3, 0))), (4, .ptr (some (b4, 0))), (5, .ptr (some (b5, 0))), (6, .ptr (some (b6, 0)))] .ready none) :: own rC b2 [I 0] :: own rC b3 [.str (S []), .sl ⟨none, 0, 0, none⟩] :: own rC b4 [.str (S (if i = 0 then [] else img)), .sl s] :: own rC b5 [I (if i = 0 then 0 else ep)] :: own rC b6 [I i] :: own (rR lsC 1) s (loads.take (i - 1)) :: own rC pl [.ptr (some (p, 0)), I a, z, t] :: own rDisk p d :: (F2 ++ G))
  (fun i x G => by simp) ⟨none, 0, 0, none⟩ trivial ?_ ?_ ?_
 ·intro l hm
  rcases List.mem_cons.1 hm with rfl | hm
  ·exact hi
  ·obtain ⟨x, hx, rfl⟩ := List.mem_map.1 hm
   have := hl x hx
   simp; omega
 ·rw [List.append_nil]
  exact .cons rfl (.cons rfl (.cons rfl (.cons rfl (.cons rfl (.cons rfl (.cons rfl (.cons rfl (.cons rfl (.weak .refl)))))))))
 ·intro G i e s he _
  rw [lv_succ]
  refine Wp.rnd (l := lp) SeaRec.rv ?_
  unfold r0_vault_look
  have hil := (List.getElem?_eq_some_iff.1 he).1
  simp only [List.length_cons, List.length_map] at hil
  have hwr : wr ((i : Int) + 1) = (i : Int) + 1 := wr_small (by omega) (by omega)
  refine go ⟨fun c => ?_, fun c => ?_⟩
  ·have h0 : i = 0 := by omega
   subst h0
   have he : some (stE ep img) = some e := he
   cases he
   refine vault_first_v he0 he2 (by omega) ?_
   refine go ?_
   refine ⟨rfl, s, trivial, .cons rfl (.cons rfl (.cons rfl (.cons rfl (.cons rfl (.cons ?_ (.cons rfl .refl))))))⟩
   rw [hwr]; rfl
  ·obtain ⟨k, rfl⟩ : ∃ k, i = k + 1 := ⟨i - 1, by omega⟩
   have he : (loads.map (1 :: ·))[k]? = some e := he
   rw [List.getElem?_map] at he
   obtain ⟨x, hx, rfl⟩ := Option.map_eq_some_iff.1 he
   have hxl := hl x (List.mem_of_getElem? hx)
   have hs : (S (1 :: x)).size = x.length + 1 := by rw [S_size]; rfl
   have hg : ((S (1 :: x)).data[Int.toNat 0]?.getD 0) = 1 := rfl
   have hxt : (S (1 :: x)).extract (Int.toNat 1) (((x.length + 1 : Nat)) : Int).toNat = S x := by
    rw [S_ext]; simp
   refine ⟨fun c2 => by simp at c2, fun c2 => ?_⟩
   rw [hg, hs]
   refine ⟨by decide, by omega, fun c3 => absurd rfl c3, fun _ => ⟨by decide, by omega, ?_⟩⟩
   rw [hxt]
   refine Wp.apd (s := s) (x := x) (f := lsC) rfl rfl (by simp; omega) (by simp; omega) fun s2 => ?_
   refine go ?_
   have htk : loads.take (k + 1 - 1) ++ [x] = loads.take (k + 1 + 1 - 1) := by
    rw [show k + 1 + 1 - 1 = k + 1 by omega, show k + 1 - 1 = k by omega, List.take_add_one, hx]; rfl
   exact ⟨rfl, s2, trivial, .cons rfl (.cons rfl (.cons rfl (.cons rfl (.cons rfl (.cons (by rw [hwr]; rfl) (.cons htk .refl))))))⟩
 ·intro s _
  refine Wp.ent (P' := own rX lp (.loop 69547369 [(2, .ptr (some (b2, 0))), (3, .ptr (some (b3, 0))), (4, .ptr (some (b4, 0))), (5, .ptr (some (b5, 0))), (6, .ptr (some (b6, 0)))] .ready none) :: own rC b2 [I 0] :: own rC b3 [.str (S []), .sl ⟨none, 0, 0, none⟩] :: own rC b4 [.str (S img), .sl s] :: own rC b5 [I ep] :: own (rR lsC 1) s loads :: own rC pl [.ptr (some (p, 0)), I a, z, t] :: own rDisk p d :: F2) ?_ ?_
  ·rw [List.append_nil]
   exact .cons rfl (.cons rfl (.cons rfl (.cons rfl (.cons rfl (.cons (by simp) (.cons rfl (.cons rfl (.weak .refl))))))))
  refine go fun k0 w0 k1 w1 => ?_
  refine Wp.ldN (b := b4) (vs := [.str (S img), .sl s]) (by simp) rfl ?_
  refine go fun k2 w2 k3 w3 => ⟨⟨⟨Was.eq w3 w2, Was.eq w2 w1, Was.eq w1 w0, trivial⟩, trivial⟩, ?_⟩
  refine Wp.stN (b := b3) (cs' := [.str (S img), .sl s]) (by simp) rfl ?_
  refine go ?_
  refine Wp.ldN (b := b3) (vs := [.str (S img), .sl s]) (by simp) rfl ?_
  refine go ?_
  exact ⟨_, h s, .cons rfl (.cons rfl (.cons rfl (.weak (.weak (.weak (.weak (.weak .refl)))))))⟩
set_option linter.unusedSectionVars false
theorem vault_Open_1 {p ep : Nat} {d : Dk} {tail img : Bs} {loads : List Bs} [fd : Fnd P rDisk p d F]
  (h0 : d.now 0 = []) (hw : d.now 1 = wafs (stE ep img :: loads.map (1 :: ·)) ++ tail) (ht : openW tail = none) (hi : (stE ep img).length ≤ 1024) (hl : ∀ l ∈ loads, l.length ≤ 1000) (hbs : (d.now 1).length ≤ 1000000) (hn : loads.length ≤ 1000000) (he0 : 0 < ep) (he2 : ep ≤ 1099511627776)
  (h : ∀ b l s z tr, Q (.tup [.ptr (some (b, 0)), .agg [.str (S img), .sl s], I 0]) (own rC b [.ptr (some (p, 0)), .ptr (some (l, 0)), I ep, .bool false] :: own rC l [.ptr (some (p, 0)), I 1, I z, .bool tr] :: own (rR lsC 1) s loads :: own rDisk p d :: F)) :
  Wp H0 P (f_vault_Open (lv (n + 4)) [.ptr (some (p, 0))]) Q := by
 refine Wp.cl ?_
 refine Wp.ent (P' := own rDisk p d :: F) (Ent.perm fd.p) ?_
 have hls : ∀ l ∈ stE ep img :: loads.map (1 :: ·), l.length ≤ 1024 := fun l hm => by
  rcases List.mem_cons.1 hm with rfl | hm
  ·exact hi
  ·obtain ⟨x, hx, rfl⟩ := List.mem_map.1 hm
   have := hl x hx
   simp; omega
 unfold f_vault_Open
 refine go fun b => ?_
 refine Wp.blk (Wp.loop (fun k vs P' => (k = 2 ∧ vs = [I 0, .agg [.str (S []), .sl ⟨none, 0, 0, none⟩]] ∧ P' = own rC b [.ptr (some (p, 0)), .ptr none, I 0, .bool false] :: own rDisk p d :: F)
  ∨ (k = 1 ∧ vs = [I 1, .agg [.str (S []), .sl ⟨none, 0, 0, none⟩]] ∧ ∃ l, Ent P' (own rC b [.ptr (some (p, 0)), .ptr (some (l, 0)), I 0, .bool false] :: own rDisk p d :: F))
  ∨ (k = 0 ∧ ∃ l s z tr, vs = [I 2, .agg [.str (S img), .sl s]] ∧ Ent P' (own rC b [.ptr (some (p, 0)), .ptr (some (l, 0)), I ep, .bool false] :: own rC l [.ptr (some (p, 0)), I 1, I z, .bool tr] :: own (rR lsC 1) s loads :: own rDisk p d :: F))) 2 (.inl ⟨rfl, rfl, rfl⟩) ?_)
 rintro k vs P' (⟨rfl, rfl, rfl⟩ | ⟨rfl, rfl, l, hP⟩ | ⟨rfl, l, s, z, tr, rfl, hP⟩)
 ·refine go ⟨fun _ => ?_, fun c => absurd (by decide) c⟩
  refine wal_Open_e (p := p) (a := 0) (d := d) (by decide) h0 fun l => ?_
  refine go ?_
  refine look_e (l := ⟨p, 0, 0⟩) (d := d) (Nat.zero_le 1) h0 ?_
  refine go ?_
  exact ⟨1, by decide, .inr (.inl ⟨rfl, rfl, l, .cons rfl (.weak .refl)⟩)⟩
 ·refine Wp.ent hP ?_
  refine go ⟨fun _ => ?_, fun c => absurd (by decide) c⟩
  refine wal_Open_v (p := p) (a := 1) (d := d) (by decide) hw ht hls hbs fun l2 => ?_
  refine go ?_
  refine look_v (p := p) (a := 1) (d := d) (by decide) hw ht hi hl hbs hn he0 he2 fun s => ?_
  refine go ?_
  refine ⟨fun _ => ⟨0, by decide, .inr (.inr ⟨rfl, l2, s, _, _, rfl, .cons rfl (.cons rfl (.cons rfl (.cons rfl .refl)))⟩)⟩, fun c => absurd (by omega) c⟩
 ·refine Wp.ent hP ?_
  refine go ⟨fun c => absurd c (by decide), fun _ => ?_⟩
  exact ⟨_, h b l s z tr, .refl⟩
end
end Go.Proofs.YtbphjihgbenkdaaGreat.HQ
