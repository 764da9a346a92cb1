/- Lemmas for the row. Conditions: none. -/
import Derived.Test.YtbphjihgbenkdaaGreatHQAte
namespace Go.Proofs.YtbphjihgbenkdaaGreat.HQ
set_option linter.unusedVariables false
set_option linter.unusedSectionVars false
set_option linter.unusedSimpArgs false
open Go
structure Tk where
 h : Int
 s : Bool
 c : Int
abbrev tkC (t : Tk) : List HV := [I t.h, .bool t.s, I t.c]
def Tk.free (t : Tk) (i : Int) : Bool := decide (0 ≤ i) && (decide (t.h = -1) || decide (t.h = i)) && (decide (t.c = -1) || decide (t.c = i))
def Tk.sure (t : Tk) (i : Int) : Bool := decide (0 ≤ i) && decide (t.h = i) && !t.s
def Tk.lock (t : Tk) (i : Int) : Tk := if t.free i = true then { t with c := i } else t
def Tk.unlock (t : Tk) (i : Int) : Tk := if 0 ≤ i ∧ t.c = i then { t with c := -1 } else t
def Tk.drop (t : Tk) (i : Int) : Tk := if 0 ≤ i ∧ t.h = i then { t with h := -1, s := false } else t
section
variable {H0 : Heap} {P F F' : List HP} {Q : HV → List HP → Prop} {D : HV → List HV → M HV}
theorem token_New_v (h : ∀ b, Q (.ptr (some (b, 0))) (own rC b (tkC ⟨-1, false, -1⟩) :: P)) : Wp H0 P (f_token_New D []) Q := by
 unfold f_token_New
 refine go fun b => ?_
 exact h b
theorem Qb {a b : Bool} (h : Q (.bool a) P) (e : a = b) : Q (.bool b) P := e ▸ h
theorem token_Free_v {p : Nat} {t : Tk} {i : Int} [fd : Fnd P rC p (tkC t) F] (h : Q (.bool (t.free i)) P) : Wp H0 P (f_token_Token_Free D [.ptr (some (p, 0)), I i]) Q := by
 unfold f_token_Token_Free
 unfold Tk.free at h
 refine go ⟨fun c => ⟨fun c1 => ⟨fun c2 => ?_, fun c2 => ?_⟩, fun c1 => ⟨fun c2 => ⟨fun c3 => ?_, fun c3 => ?_⟩, fun c2 => ?_⟩⟩, fun c => ?_⟩
 ·exact Qb h (by simp [c1, c2]; omega)
 ·exact Qb h (by simp only [c1, c2, show 0 ≤ i from c, decide_true, decide_false, Bool.true_or, Bool.false_or, Bool.true_and]; rfl)
 ·exact Qb h (by simp [c2, c3]; omega)
 ·exact Qb h (by simp only [c2, c3, show 0 ≤ i from c, decide_true, decide_false, Bool.or_true, Bool.false_or, Bool.true_and]; rfl)
 ·exact Qb h (by simp [c1, c2])
 ·exact Qb h (by simp [show ¬ 0 ≤ i from c])
theorem token_Sure_v {p : Nat} {t : Tk} {i : Int} [fd : Fnd P rC p (tkC t) F] (h : Q (.bool (t.sure i)) P) : Wp H0 P (f_token_Token_Sure D [.ptr (some (p, 0)), I i]) Q := by
 unfold f_token_Token_Sure
 unfold Tk.sure at h
 refine go ⟨fun c => ⟨fun c1 => ?_, fun c1 => ?_⟩, fun c => ?_⟩
 ·exact Qb h (by simp [c1]; omega)
 ·exact Qb h (by simp [c1])
 ·exact Qb h (by simp [show ¬ 0 ≤ i from c])
theorem token_Lock_v {p : Nat} {t : Tk} {i : Int} [fd : Fnd P rC p (tkC t) F] (h : Q (.bool (t.free i)) (own rC p (tkC (t.lock i)) :: F)) : Wp H0 P (f_token_Token_Lock D [.ptr (some (p, 0)), I i]) Q := by
 refine Wp.cl ?_
 unfold f_token_Token_Lock
 refine go (token_Free_v ?_)
 unfold Tk.lock at h
 refine go ⟨fun c => ?_, fun c => ?_⟩
 ·rw [c, if_neg (by simp)] at h; exact ⟨_, h, .perm fd.p⟩
 ·rw [c, if_pos rfl] at h; exact ⟨_, h, .refl⟩
theorem token_Unlock_v {p : Nat} {t : Tk} {i : Int} [fd : Fnd P rC p (tkC t) F] (h : ∀ b, Q (.bool b) (own rC p (tkC (t.unlock i)) :: F)) : Wp H0 P (f_token_Token_Unlock D [.ptr (some (p, 0)), I i]) Q := by
 refine Wp.cl ?_
 unfold f_token_Token_Unlock
 unfold Tk.unlock at h
 refine go ⟨fun c => ?_, fun c => ⟨fun c1 => ?_, fun c1 => ?_⟩⟩
 ·rw [if_neg (by omega)] at h; exact ⟨_, h _, .perm fd.p⟩
 ·rw [if_neg (by omega)] at h; exact ⟨_, h _, .perm fd.p⟩
 ·rw [if_pos (by omega)] at h; exact ⟨_, h _, .refl⟩
theorem token_Drop_v {p : Nat} {t : Tk} {i : Int} [fd : Fnd P rC p (tkC t) F] (h : ∀ b, Q (.bool b) (own rC p (tkC (t.drop i)) :: F)) : Wp H0 P (f_token_Token_Drop D [.ptr (some (p, 0)), I i]) Q := by
 refine Wp.cl ?_
 unfold f_token_Token_Drop
 unfold Tk.drop at h
 refine go ⟨fun c => ?_, fun c => ⟨fun c1 => ?_, fun c1 => ?_⟩⟩
 ·rw [if_neg (by omega)] at h; exact ⟨_, h _, .perm fd.p⟩
 ·rw [if_neg (by omega)] at h; exact ⟨_, h _, .perm fd.p⟩
 ·rw [if_pos (by omega)] at h; exact ⟨_, h _, .refl⟩
end
def crcS (c : Int) : Int := IntKind.wrap .u32 ((BitVec.ofInt 32 (Int.fdiv c (2 ^ 1)) ^^^ BitVec.ofInt 32 (IntKind.wrap .u32 ((BitVec.ofInt 32 2197175160 &&& BitVec.ofInt 32 (IntKind.wrap .u32 (0 - (IntKind.wrap .u32 ((BitVec.ofInt 32 c &&& BitVec.ofInt 32 1).toNat : Int))))).toNat : Int))).toNat : Int)
def crcN : Nat → Int → Int
 | 0, c => c
 | k + 1, c => crcS (crcN k c)
def crcB (c : Int) (b : UInt8) : Int := crcN 8 (IntKind.wrap .u32 ((BitVec.ofInt 32 c ^^^ BitVec.ofInt 32 (IntKind.wrap .u32 (b.toNat : Int))).toNat : Int))
def crcL (l : Bs) : Int := l.foldl crcB 4294967295
def sumL (l : Bs) : Int := IntKind.wrap .u32 ((BitVec.ofInt 32 (4294967295) ^^^ BitVec.ofInt 32 (crcL l)).toNat : Int)
def u8L (n : Int) : UInt8 := UInt8.ofNat (IntKind.wrap .u8 n).toNat
def footL (n : Int) : Bs := [u8L n, u8L (Int.fdiv n (2 ^ 8)), u8L (Int.fdiv n (2 ^ 16)), u8L (Int.fdiv n (2 ^ 24))]
def headL (l : Bs) : Bs := [u8L (Int.fdiv (l.length : Int) (2 ^ 8)), u8L (l.length : Int)] ++ l
def closeL (l : Bs) : Bs := headL l ++ footL (sumL (headL l))
theorem closeL_len (l : Bs) : (closeL l).length = l.length + 6 := by simp [closeL, headL, footL]
structure Ch where
 a : Nat
 r : Bool
 b : Bs
abbrev chC (c : Ch) : List HV := [I c.a, .bool c.r, .str (S c.b)]
structure Dk where
 n0 : Bs
 s0 : Bs
 n1 : Bs
 s1 : Bs
 w : List Ch
abbrev dkC (d : Dk) (s : Sl) : List HV := [.str (S d.n0), .str (S d.s0), .str (S d.n1), .str (S d.s1), .sl s]
def rDisk (p : Nat) (d : Dk) : HP := fun h => ∃ s : Sl, Al [own rC p (dkC d s), own (rR chC 3) s d.w] h
instance {p : Nat} {d : Dk} : Opn rDisk p d Sl (fun _ => True) fun s F => own rC p (dkC d s) :: own (rR chC 3) s d.w :: F :=
 ⟨fun _ => ⟨fun ⟨s, h⟩ => ⟨s, trivial, h⟩, fun ⟨s, _, h⟩ => ⟨s, h⟩⟩, fun _ _ => rfl⟩
def Dk.now (d : Dk) (a : Nat) : Bs := if a = 0 then d.n0 else d.n1
def Dk.safe (d : Dk) (a : Nat) : Bs := if a = 0 then d.s0 else d.s1
def Dk.setN (d : Dk) (a : Nat) (b : Bs) : Dk := if a = 0 then { d with n0 := b } else { d with n1 := b }
def Dk.setS (d : Dk) (a : Nat) (b : Bs) : Dk := if a = 0 then { d with s0 := b } else { d with s1 := b }
def Dk.app (d : Dk) (a : Nat) (b : Bs) : Dk := { d.setN a (d.now a ++ b) with w := d.w ++ [⟨a, false, b⟩] }
def Dk.reset (d : Dk) (a : Nat) : Dk := { d.setN a [] with w := d.w ++ [⟨a, true, []⟩] }
def Dk.land1 (d : Dk) (c : Ch) : Dk := d.setS c.a (if c.r = true then [] else d.safe c.a ++ c.b)
def Dk.lands (d : Dk) (l : List Ch) : Dk := l.foldl Dk.land1 d
def Dk.sync (d : Dk) : Dk := { d.lands d.w with w := [] }
structure DOk' (d : Dk) : Prop where
 n : ∀ a, (d.now a).length ≤ 16384
 s : ∀ a, (d.safe a).length ≤ 16384
 w : d.w.length ≤ 1000000
 c : ∀ c ∈ d.w, c.a ≤ 1 ∧ c.b.length ≤ 16384
 l : ∀ a, (d.lands d.w).safe a = d.now a
theorem Dk.safe_setS (d : Dk) (a k : Nat) (b : Bs) (ha : a ≤ 1) (hk : k ≤ 1) : (d.setS a b).safe k = if k = a then b else d.safe k := by
 obtain rfl | rfl : a = 0 ∨ a = 1 := by omega
 all_goals obtain rfl | rfl : k = 0 ∨ k = 1 := by omega
 all_goals rfl
theorem Dk.lands_len {k : Nat} (hk : k ≤ 1) : ∀ {l : List Ch} {d : Dk}, (∀ c ∈ l, c.a ≤ 1 ∧ c.b.length ≤ 16384) → ((d.lands l).safe k).length ≤ (d.safe k).length + l.length * 16384
 | [], _, _ => by simp [Dk.lands]
 | c :: l, d, h => by
  have h1 := h c List.mem_cons_self
  have ih := Dk.lands_len hk (l := l) (d := d.land1 c) (fun x hx => h x (List.mem_cons_of_mem _ hx))
  show (((d.land1 c).lands l).safe k).length ≤ _
  have h2 : ((d.land1 c).safe k).length ≤ (d.safe k).length + 16384 := by
   unfold Dk.land1
   rw [Dk.safe_setS _ _ _ _ h1.1 hk]
   split
   ·rename_i e; subst e; split
    ·simp
    ·simp; omega
   ·omega
  simp only [List.length_cons, Nat.add_mul]
  omega
theorem Dk.lands_now (l : List Ch) : ∀ (d : Dk) (a : Nat), (d.lands l).now a = d.now a := by
 induction l with
 | nil => intro d a; rfl
 | cons c l ih => intro d a; show ((d.land1 c).lands l).now a = _; rw [ih]; unfold Dk.land1 Dk.setS Dk.now; split <;> split <;> rfl
theorem Dk.safe2 (d : Dk) {a : Nat} (ha : 1 ≤ a) : d.safe a = d.s1 := by unfold Dk.safe; rw [if_neg (by omega)]
theorem DOk'.sync_eq {d : Dk} (h : DOk' d) : d.sync = ⟨d.n0, d.n0, d.n1, d.n1, []⟩ := by
 unfold Dk.sync
 have h0 := h.l 0
 have h1 := h.l 1
 have g0 := Dk.lands_now d.w d 0
 have g1 := Dk.lands_now d.w d 1
 simp only [Dk.safe, Dk.now, if_pos, reduceIte, Nat.one_ne_zero] at h0 h1 g0 g1
 show Dk.mk (d.lands d.w).n0 (d.lands d.w).s0 (d.lands d.w).n1 (d.lands d.w).s1 [] = _
 rw [h0, h1, g0, g1]
theorem DOk'.sync {d : Dk} (h : DOk' d) : DOk' d.sync := by
 rw [h.sync_eq]
 have h0 := h.n 0
 have h1 := h.n 1
 refine ⟨fun a => ?_, fun a => ?_, by simp, fun c hc => by simp at hc, fun a => rfl⟩
 all_goals (simp only [Dk.now, Dk.safe]; split; exact h0; exact h1)
theorem Dk.lands_setN (l : List Ch) (b : Bs) (w : List Ch) (a : Nat) : ∀ (d : Dk) (k : Nat), (Dk.lands { d.setN a b with w := w } l).safe k = (d.lands l).safe k := by
 have key : ∀ (l : List Ch) (d d' : Dk), d.s0 = d'.s0 → d.s1 = d'.s1 → (d.lands l).s0 = (d'.lands l).s0 ∧ (d.lands l).s1 = (d'.lands l).s1 := by
  intro l
  induction l with
  | nil => intro d d' h1 h2; exact ⟨h1, h2⟩
  | cons c l ih =>
   intro d d' h1 h2
   refine ih (d.land1 c) (d'.land1 c) ?_ ?_
   all_goals (unfold Dk.land1 Dk.setS Dk.safe; split <;> simp [h1, h2])
 intro d k
 have := key l { d.setN a b with w := w } d (by unfold Dk.setN; split <;> rfl) (by unfold Dk.setN; split <;> rfl)
 unfold Dk.safe
 rw [this.1, this.2]
theorem Dk.now_setN (d : Dk) (a k : Nat) (b : Bs) (w : List Ch) (ha : a ≤ 1) : Dk.now { d.setN a b with w := w } k = if min k 1 = a then b else d.now k := by
 unfold Dk.now Dk.setN
 obtain rfl | rfl : a = 0 ∨ a = 1 := by omega
 ·by_cases hk : k = 0
  ·subst hk; rfl
  ·rw [if_neg hk, if_pos rfl, if_neg (by omega), if_neg hk]
 ·by_cases hk : k = 0
  ·subst hk; rfl
  ·rw [if_neg hk, if_neg (by omega), if_pos (by omega)]
theorem Dk.lands_snoc (d : Dk) (l : List Ch) (c : Ch) : d.lands (l ++ [c]) = (d.lands l).land1 c := by unfold Dk.lands; rw [List.foldl_append]; rfl
theorem Dk.safe_land1 (d : Dk) (c : Ch) (k : Nat) (ha : c.a ≤ 1) : (d.land1 c).safe k = if min k 1 = c.a then (if c.r = true then [] else d.safe c.a ++ c.b) else d.safe k := by
 unfold Dk.land1
 by_cases hk : k ≤ 1
 ·rw [Dk.safe_setS _ _ _ _ ha hk]
  by_cases e : k = c.a
  ·rw [if_pos e, if_pos (show min k 1 = c.a by omega)]
  ·rw [if_neg e, if_neg (show ¬ min k 1 = c.a by omega)]
 ·rw [Dk.safe2 (a := k) _ (by omega), ← Dk.safe2 _ (Nat.le_refl 1), Dk.safe_setS _ _ _ _ ha (Nat.le_refl 1), Dk.safe2 d (a := k) (by omega), ← Dk.safe2 d (Nat.le_refl 1)]
  by_cases e : 1 = c.a
  ·rw [if_pos e, if_pos (show min k 1 = c.a by omega)]
  ·rw [if_neg e, if_neg (show ¬ min k 1 = c.a by omega)]
theorem Dk.safe_mk (d : Dk) (a k : Nat) (b : Bs) (w : List Ch) : Dk.safe { d.setN a b with w := w } k = d.safe k := Dk.lands_setN [] b w a d k
theorem DOk'.app {d : Dk} (h : DOk' d) {a : Nat} {b : Bs} (ha : a ≤ 1) (hb : (d.now a).length + b.length ≤ 16384) (hw : d.w.length < 1000000) : DOk' (d.app a b) := by
 unfold Dk.app
 refine ⟨fun k => ?_, fun k => ?_, by simp; omega, fun c hc => ?_, fun k => ?_⟩
 ·rw [Dk.now_setN _ _ _ _ _ ha]
  split
  ·simp; omega
  ·exact h.n k
 ·rw [Dk.safe_mk]; exact h.s k
 ·rcases List.mem_append.1 hc with hc | hc
  ·exact h.c c hc
  ·rw [List.mem_singleton] at hc; subst hc; exact ⟨ha, by show b.length ≤ _; omega⟩
 ·show (Dk.lands _ (d.w ++ [_])).safe k = _
  rw [Dk.lands_setN, Dk.lands_snoc, Dk.safe_land1 _ _ _ ha, Dk.now_setN _ _ _ _ _ ha]
  show (if min k 1 = a then (if false = true then [] else (d.lands d.w).safe a ++ b) else (d.lands d.w).safe k) = _
  rw [h.l, h.l]; rfl
theorem DOk'.reset {d : Dk} (h : DOk' d) {a : Nat} (ha : a ≤ 1) (hw : d.w.length < 1000000) : DOk' (d.reset a) := by
 unfold Dk.reset
 refine ⟨fun k => ?_, fun k => ?_, by simp; omega, fun c hc => ?_, fun k => ?_⟩
 ·rw [Dk.now_setN _ _ _ _ _ ha]
  split
  ·simp
  ·exact h.n k
 ·rw [Dk.safe_mk]; exact h.s k
 ·rcases List.mem_append.1 hc with hc | hc
  ·exact h.c c hc
  ·rw [List.mem_singleton] at hc; subst hc; exact ⟨ha, by simp⟩
 ·show (Dk.lands _ (d.w ++ [_])).safe k = _
  rw [Dk.lands_setN, Dk.lands_snoc, Dk.safe_land1 _ _ _ ha, Dk.now_setN _ _ _ _ _ ha]
  show (if min k 1 = a then (if true = true then [] else (d.lands d.w).safe a ++ []) else (d.lands d.w).safe k) = _
  rw [h.l, h.l, if_pos rfl]
theorem DOk'.new : DOk' ⟨[], [], [], [], []⟩ := ⟨fun a => by simp [Dk.now], fun a => by simp [Dk.safe], by simp, fun c hc => by simp at hc, fun a => rfl⟩
section
variable {H0 : Heap} {P F F' : List HP} {Q : HV → List HP → Prop} {D : HV → List HV → M HV}
theorem wafer_Sum_v {l : Bs} (hl : l.length ≤ 1000000) (h : Q (.int .u32 (sumL l)) P) : Wp H0 P (f_wafer_Sum D [.str (S l)]) Q := by
 refine Wp.cl ?_
 unfold f_wafer_Sum
 have hs := S_size l
 refine go ?_
 refine Wp.forL (σ := Int) l.length (by omega) (by omega) (fun x i => [.int .u32 x, I i]) (out := fun x => [.int .u32 x]) (fun _ _ => rfl) (fun i x => x = crcL (l.take i)) (fun _ _ => P) 4294967295 rfl rfl .refl ?_ ?_
 ·rintro i x hi rfl
  refine go ⟨by omega, by omega, ?_⟩
  refine Wp.forL (σ := Int) 8 (by decide) rfl (fun x i => [.int .u32 x, I i]) (out := fun x => [.int .u32 x]) (fun _ _ => rfl) (fun j x => x = crcN j (IntKind.wrap .u32 ((BitVec.ofInt 32 (crcL (l.take i)) ^^^ BitVec.ofInt 32 (IntKind.wrap .u32 ((((S l).data[((i : Nat) : Int).toNat]?).getD 0).toNat : Int))).toNat : Int))) (fun _ _ => P) _ rfl rfl .refl ?_ ?_
  ·rintro j x hj rfl
   refine go ?_
   exact ⟨_, rfl, rfl, .refl⟩
  ·rintro x rfl
   refine go ?_
   refine ⟨_, rfl, ?_, .refl⟩
   have e : (((S l).data[((i : Nat) : Int).toNat]?).getD 0) = l[i] := by simp [hi]
   rw [e, List.take_succ_eq_append_getElem hi]
   unfold crcL
   rw [List.foldl_append]
   rfl
 ·rintro x rfl
  refine go ?_
  rw [List.take_length]
  exact ⟨_, h, .refl⟩
theorem wafer_foots_v {c : Int} (h : Q (.str (S (footL c))) P) : Wp H0 P (f_wafer_foots D [.int .u32 c]) Q := by
 unfold f_wafer_foots
 exact go h
theorem wafer_Close_v {l : Bs} (hl : l.length ≤ 1024) (h : Q (.str (S (closeL l))) P) : Wp H0 P (f_wafer_Close D [.str (S l)]) Q := by
 unfold f_wafer_Close
 have hs := S_size l
 have e1 : (strB [IntKind.wrap .u8 (Int.fdiv ((S l).size : Int) (2 ^ 8)), IntKind.wrap .u8 ((S l).size : Int)]) ++ S l = S (headL l) := by
  rw [hs]
  have : strB [IntKind.wrap .u8 (Int.fdiv (l.length : Int) (2 ^ 8)), IntKind.wrap .u8 (l.length : Int)] = S [u8L (Int.fdiv (l.length : Int) (2 ^ 8)), u8L (l.length : Int)] := rfl
  rw [this, S_app]; rfl
 have e2 : ∀ n : Int, S (headL l) ++ S (footL n) = S (headL l ++ footL n) := fun n => S_app _ _
 refine go ⟨fun c => by omega, fun _ => ⟨?_, ?_⟩⟩
 ·rw [hs]; show 2 + l.length ≤ _; omega
 ·rw [e1]
  refine wafer_Sum_v (by simp [headL]; omega) ?_
  refine go (wafer_foots_v ?_)
  refine go ⟨?_, ?_⟩
  ·rw [S_size, S_size]; simp [headL, footL]; omega
  ·rw [e2]; exact h
theorem disk_good_v {a : Nat} (ha : a ≤ 1) (h : Q (.bool true) P) : Wp H0 P (f_disk_good D [I a]) Q := by
 unfold f_disk_good
 refine go ⟨fun _ => h, fun c => ?_⟩
 exact Qb h (by simp; omega)
theorem off_a (a : Nat) : 0 + ((a : Nat) : Int).toNat * 2 = a * 2 := by omega
theorem off_b (a : Nat) : 0 + ((a : Nat) : Int).toNat * 2 + 1 = a * 2 + 1 := by omega
theorem dk_now {d : Dk} {s : Sl} {a : Nat} (ha : a ≤ 1) : (dkC d s)[a * 2]? = some (.str (S (d.now a))) := by
 obtain rfl | rfl : a = 0 ∨ a = 1 := by omega
 all_goals rfl
theorem dk_safe {d : Dk} {s : Sl} {a : Nat} (ha : a ≤ 1) : (dkC d s)[a * 2 + 1]? = some (.str (S (d.safe a))) := by
 obtain rfl | rfl : a = 0 ∨ a = 1 := by omega
 all_goals rfl
theorem dk_setN {d : Dk} {s : Sl} {a : Nat} {b : Bs} (ha : a ≤ 1) : (dkC d s).set (a * 2) (.str (S b)) = dkC (d.setN a b) s := by
 obtain rfl | rfl : a = 0 ∨ a = 1 := by omega
 all_goals rfl
theorem dk_setS {d : Dk} {s : Sl} {a : Nat} {b : Bs} (ha : a ≤ 1) : (dkC d s).set (a * 2 + 1) (.str (S b)) = dkC (d.setS a b) s := by
 obtain rfl | rfl : a = 0 ∨ a = 1 := by omega
 all_goals rfl
theorem disk_Append_v {p a : Nat} {d : Dk} {b : Bs} [fd : Fnd P rDisk p d F] (ok : DOk' d) (ha : a ≤ 1) (hb : (d.now a).length + b.length ≤ 16384) (h : Q (I 0) (own rDisk p (d.app a b) :: F)) : Wp H0 P (f_disk_Disk_Append D [.ptr (some (p, 0)), I a, .str (S b)]) Q := by
 refine Wp.cl ?_
 unfold f_disk_Disk_Append
 have hroom : room = 140737488355328 := rfl
 have hsb := S_size b
 have hs := S_size (d.now a)
 have hw := ok.w
 have hsw : (d.setN a (d.now a ++ b)).w = d.w := by unfold Dk.setN; split <;> rfl
 refine go (disk_good_v ha ?_)
 refine Wp.open rDisk p fun s _ => ?_
 refine go ⟨by omega, by omega, ?_⟩
 rw [off_a]
 refine Wp.ldC (dk_now ha) ?_
 refine go ⟨fun c => ?_, fun _ => ⟨by omega, by omega, ?_⟩⟩
 ·exfalso; rw [wr_small (by omega) (by omega)] at c; omega
 rw [off_a]
 refine Wp.ldC (dk_now ha) ?_
 refine go ⟨by omega, by omega, by omega, ?_⟩
 rw [off_a, S_app]
 refine Wp.stC (by simp; omega) (dk_setN ha) rfl ?_
 refine go ?_
 refine Wp.apd (x := (⟨a, false, b⟩ : Ch)) rfl rfl (by omega) (by omega) fun s' => ?_
 refine go ?_
 exact ⟨_, h, .fold s' trivial (.cons rfl (.cons rfl .refl))⟩
theorem disk_Reset_v {p a : Nat} {d : Dk} [fd : Fnd P rDisk p d F] (ok : DOk' d) (ha : a ≤ 1) (h : Q (I 0) (own rDisk p (d.reset a) :: F)) : Wp H0 P (f_disk_Disk_Reset D [.ptr (some (p, 0)), I a]) Q := by
 refine Wp.cl ?_
 unfold f_disk_Disk_Reset
 have hroom : room = 140737488355328 := rfl
 have hw := ok.w
 refine go (disk_good_v ha ?_)
 refine Wp.open rDisk p fun s _ => ?_
 refine go ⟨by omega, by omega, ?_⟩
 rw [off_a]
 refine Wp.stC (by simp; omega) (dk_setN (b := []) ha) rfl ?_
 refine go ?_
 refine Wp.apd (x := (⟨a, true, []⟩ : Ch)) rfl rfl (by omega) (by omega) fun s' => ?_
 refine go ?_
 exact ⟨_, h, .fold s' trivial (.cons rfl (.cons rfl .refl))⟩
theorem disk_Read_v {p a : Nat} {d : Dk} [fd : Fnd P rDisk p d F] (ha : a ≤ 1) (h : Q (.str (S (d.now a))) P) : Wp H0 P (f_disk_Disk_Read D [.ptr (some (p, 0)), I a]) Q := by
 refine Wp.cl ?_
 unfold f_disk_Disk_Read
 refine go (disk_good_v ha ?_)
 refine Wp.open rDisk p fun s _ => ?_
 refine go ⟨by omega, by omega, ?_⟩
 rw [off_a]
 refine Wp.ldC (dk_now ha) ?_
 refine go ?_
 exact ⟨_, h, .back rDisk p (.fold s trivial .refl)⟩
theorem disk_land_v {p : Nat} {d : Dk} {c : Ch} {s : Sl} [fd : Fnd P rC p (dkC d s) F] (ha : c.a ≤ 1) (hb : (d.safe c.a).length + c.b.length ≤ 1000000000000000) (h : Q (.tup []) (own rC p (dkC (d.land1 c) s) :: F)) : Wp H0 P (f_disk_Disk_land D [.ptr (some (p, 0)), .agg (chC c)]) Q := by
 refine Wp.cl ?_
 unfold f_disk_Disk_land
 unfold Dk.land1 at h
 have hs := S_size (d.safe c.a)
 have hs2 := S_size c.b
 refine go ⟨fun e => ⟨by omega, by omega, ?_⟩, fun e => ⟨by omega, by omega, ?_⟩⟩
 ·rw [off_b]
  rw [if_pos e] at h
  refine Wp.stC (by simp; omega) (dk_setS (b := []) ha) rfl ?_
  refine go ?_
  exact ⟨_, h, .refl⟩
 ·rw [off_b]
  rw [if_neg (by simp [e])] at h
  refine Wp.ldC (dk_safe ha) ?_
  refine go ⟨by omega, by omega, by omega, ?_⟩
  rw [off_b, S_app]
  refine Wp.stC (by simp; omega) (dk_setS ha) rfl ?_
  refine go ?_
  exact ⟨_, h, .refl⟩
theorem disk_Sync_v {p : Nat} {d : Dk} [fd : Fnd P rDisk p d F] (ok : DOk' d) (h : Q (.tup []) (own rDisk p d.sync :: F)) : Wp H0 P (f_disk_Disk_Sync D [.ptr (some (p, 0))]) Q := by
 refine Wp.cl ?_
 unfold f_disk_Disk_Sync
 have hw := ok.w
 refine Wp.open rDisk p fun s _ => ?_
 refine Wp.row (s := s) fun hs => ?_
 refine go ?_
 have hsl := hs.len
 refine Wp.forL (σ := Unit) d.w.length (by omega) (by omega) (fun _ i => [I i]) (out := fun _ => []) (fun _ _ => rfl) (fun _ _ => True)
  (fun i _ => own rC p (dkC (d.lands (d.w.take i)) s) :: own (rR chC 3) s d.w :: F) () rfl trivial (.cons rfl (.cons rfl .refl)) ?_ ?_
 ·intro i _ hi _
  have hx : d.w[i]? = some d.w[i] := List.getElem?_eq_getElem hi
  have hm : d.w[i] ∈ d.w := List.getElem_mem hi
  generalize d.w[i] = c at hx hm
  obtain ⟨h1, h2⟩ := ok.c c hm
  have hlen := Dk.lands_len (k := c.a) h1 (l := d.w.take i) (d := d) (fun x hx => ok.c x (List.mem_of_mem_take hx))
  have hs0 := ok.s c.a
  have htl : (d.w.take i).length ≤ 1000000 := by simp; omega
  refine Wp.ixN rfl hx fun _ _ => ?_
  refine go (disk_land_v (c := c) h1 (by omega) ?_)
  refine go ?_
  refine ⟨(), rfl, trivial, .cons ?_ (.cons rfl .refl)⟩
  have : d.w.take (i + 1) = d.w.take i ++ [c] := by rw [List.take_add_one, hx]; rfl
  rw [this, Dk.lands_snoc]
 ·intro _ _
  rw [List.take_length]
  refine Wp.nil chC (sz := 3) (by decide) ?_
  refine go ?_
  exact ⟨_, h, .fold (⟨none, 0, 0, none⟩ : Sl) trivial (.cons rfl (.cons rfl (.weak .refl)))⟩
end
structure Lg where
 d : Nat
 a : Nat
 z : Nat
abbrev lgC (l : Lg) : List HV := [.ptr (some (l.d, 0)), I l.a, I l.z, .bool false]
structure Va where
 d : Nat
 l : Nat
 e : Nat
abbrev vaC (v : Va) : List HV := [.ptr (some (v.d, 0)), .ptr (some (v.l, 0)), I v.e, .bool true]
section
variable {H0 : Heap} {P F F' F'' F3 F4 F5 F6 : List HP} {α : Type} {Q : α → List HP → Prop} {m : M α} {κ1 κ2 κ3 κ4 κ5 κ6 γ1 γ2 γ3 γ4 γ5 γ6 : Type} {r1 : κ1 → γ1 → HP} {k1 : κ1} {x1 : γ1} {r2 : κ2 → γ2 → HP} {k2 : κ2} {x2 : γ2} {r3 : κ3 → γ3 → HP} {k3 : κ3} {x3 : γ3} {r4 : κ4 → γ4 → HP} {k4 : κ4} {x4 : γ4}
theorem Wp.two (f1 : Fnd P r1 k1 x1 F) (f2 : Fnd F r2 k2 x2 F') (h : Wp H0 (own r1 k1 x1 :: own r2 k2 x2 :: F') m Q) : Wp H0 P m Q := Wp.ent (Ent.perm (f1.p.trans (f2.p.cons _))) h
theorem Wp.three (f1 : Fnd P r1 k1 x1 F) (f2 : Fnd F r2 k2 x2 F') (f3 : Fnd F' r3 k3 x3 F'') (h : Wp H0 (own r1 k1 x1 :: own r2 k2 x2 :: own r3 k3 x3 :: F'') m Q) : Wp H0 P m Q :=
 Wp.two f1 f2 (Wp.ent (Ent.perm ((f3.p.cons _).cons _)) h)
theorem Wp.four (f1 : Fnd P r1 k1 x1 F) (f2 : Fnd F r2 k2 x2 F') (f3 : Fnd F' r3 k3 x3 F'') (f4 : Fnd F'' r4 k4 x4 F3) (h : Wp H0 (own r1 k1 x1 :: own r2 k2 x2 :: own r3 k3 x3 :: own r4 k4 x4 :: F3) m Q) : Wp H0 P m Q :=
 Wp.three f1 f2 f3 (Wp.ent (Ent.perm (((f4.p.cons _).cons _).cons _)) h)
end
section
variable {H0 : Heap} {P F F' F'' : List HP} {Q : HV → List HP → Prop} {D : HV → List HV → M HV}
theorem wal_Append_v {p : Nat} {l : Lg} {d : Dk} {b : Bs} [fl : Fnd P rC p (lgC l) F] [fk : Fnd F rDisk l.d d F'] (ok : DOk' d) (ha : l.a ≤ 1) (hz : l.z ≤ 1000000) (hb : b.length ≤ 1024) (hr : (d.now l.a).length + (b.length + 6) ≤ 16384)
  (h : Q (I 0) (own rC p (lgC { l with z := l.z + (b.length + 6) }) :: own rDisk l.d (d.app l.a (closeL b)) :: F')) : Wp H0 P (f_wal_Log_Append D [.ptr (some (p, 0)), .str (S b)]) Q := by
 refine Wp.cl (Wp.two fl fk ?_)
 unfold f_wal_Log_Append
 have hs := S_size b
 have hs2 := S_size (closeL b)
 have hcl := closeL_len b
 refine go ⟨fun c => by omega, fun _ => ?_⟩
 refine wafer_Close_v hb ?_
 refine go (disk_Append_v ok ha (by omega) ?_)
 refine go ?_
 refine ⟨_, h, .cons ?_ (.cons rfl .refl)⟩
 rw [hs2, hcl, wr_small (by omega) (by omega)]
 rfl
theorem wal_Force_v {p : Nat} {l : Lg} {d : Dk} [fl : Fnd P rC p (lgC l) F] [fk : Fnd F rDisk l.d d F'] (ok : DOk' d) (h : Q (.tup []) (own rC p (lgC l) :: own rDisk l.d d.sync :: F')) : Wp H0 P (f_wal_Log_Force D [.ptr (some (p, 0))]) Q := by
 refine Wp.cl (Wp.two fl fk ?_)
 unfold f_wal_Log_Force
 refine go (disk_Sync_v ok ?_)
 refine go ?_
 exact ⟨_, h, .cons rfl (.cons rfl .refl)⟩
theorem wal_Clear_v {p : Nat} {l : Lg} {d : Dk} [fl : Fnd P rC p (lgC l) F] [fk : Fnd F rDisk l.d d F'] (ok : DOk' d) (ha : l.a ≤ 1) (h : Q (.tup []) (own rC p (lgC { l with z := 0 }) :: own rDisk l.d (d.reset l.a) :: F')) : Wp H0 P (f_wal_Log_Clear D [.ptr (some (p, 0))]) Q := by
 refine Wp.cl (Wp.two fl fk ?_)
 unfold f_wal_Log_Clear
 refine go (disk_Reset_v ok ha ?_)
 refine go ?_
 exact ⟨_, h, .cons rfl (.cons rfl .refl)⟩
theorem wal_Size_v {p : Nat} {l : Lg} [fl : Fnd P rC p (lgC l) F] (h : Q (I l.z) P) : Wp H0 P (f_wal_Log_Size D [.ptr (some (p, 0))]) Q := by
 unfold f_wal_Log_Size
 exact go h
theorem wal_Area_v {p : Nat} {l : Lg} [fl : Fnd P rC p (lgC l) F] (h : Q (I l.a) P) : Wp H0 P (f_wal_Log_Area D [.ptr (some (p, 0))]) Q := by
 unfold f_wal_Log_Area
 exact go h
theorem vault_Append_v {p : Nat} {v : Va} {l : Lg} {d : Dk} {b : Bs} [fv : Fnd P rC p (vaC v) F] [fl : Fnd F rC v.l (lgC l) F'] [fk : Fnd F' rDisk l.d d F''] (ok : DOk' d) (ha : l.a ≤ 1) (hz : l.z ≤ 1000000) (hb : b.length ≤ 1023) (hr : (d.now l.a).length + (b.length + 7) ≤ 16384)
  (h : Q (I 0) (own rC p (vaC v) :: own rC v.l (lgC { l with z := l.z + (b.length + 7) }) :: own rDisk l.d (d.app l.a (closeL (1 :: b))) :: F'')) : Wp H0 P (f_vault_Vault_Append D [.ptr (some (p, 0)), .str (S b)]) Q := by
 refine Wp.cl (Wp.three fv fl fk ?_)
 unfold f_vault_Vault_Append
 have hs := S_size b
 have e1 : strB [1] ++ S b = S (1 :: b) := S_app [1] b
 refine go ⟨?_, ?_⟩
 ·show 1 + (S b).size ≤ _; omega
 rw [e1]
 refine wal_Append_v (b := 1 :: b) ok ha hz (by simp; omega) (by simp; omega) ?_
 refine go ?_
 exact ⟨_, h, .cons rfl (.cons (by rw [List.length_cons, Nat.add_assoc, Nat.add_comm 1 6]) (.cons rfl .refl))⟩
theorem vault_Force_v {p : Nat} {v : Va} {l : Lg} {d : Dk} [fv : Fnd P rC p (vaC v) F] [fl : Fnd F rC v.l (lgC l) F'] [fk : Fnd F' rDisk l.d d F''] (ok : DOk' d)
  (h : Q (.tup []) (own rC p (vaC v) :: own rC v.l (lgC l) :: own rDisk l.d d.sync :: F'')) : Wp H0 P (f_vault_Vault_Force D [.ptr (some (p, 0))]) Q := by
 refine Wp.cl (Wp.three fv fl fk ?_)
 unfold f_vault_Vault_Force
 refine go (wal_Force_v ok ?_)
 refine go ?_
 exact ⟨_, h, .cons rfl (.cons rfl (.cons rfl .refl))⟩
theorem vault_Size_v {p : Nat} {v : Va} {l : Lg} [fv : Fnd P rC p (vaC v) F] [fl : Fnd F rC v.l (lgC l) F'] (h : Q (I l.z) P) : Wp H0 P (f_vault_Vault_Size D [.ptr (some (p, 0))]) Q := by
 refine Wp.cl (Wp.two fv fl ?_)
 unfold f_vault_Vault_Size
 refine go (wal_Size_v ?_)
 refine go ?_
 exact ⟨_, h, .perm (fv.p.trans (fl.p.cons _)).symm⟩
end
def apdO {α : Type} (t : Option (Nat × Option Nat)) (s : Sl) (sz by_ : Nat) (m : Nat) (vs : List HV) (f : Sl → M α) : M α := fun H n =>
 gd (decide ((s.len + m) * by_ ≤ room) && decide (vs.length = m * sz) && decide (0 < sz) && decide (s.len + m ≤ room)) (fun H n =>
  if s.len + m ≤ s.cap then
   match s.p with
   | none => gd (decide (m = 0)) (f s) H n
   | some (b, o) => stN b (o + s.len * sz) vs (f { s with len := s.len + m }) H n
  else match s.p with
   | none => gd (decide (s.len = 0)) (nwO t vs fun b' => f { p := some (b', 0), len := m, cap := m, opn := some sz }) H n
   | some (b, o) =>
    match H.get b with
    | .cells cs ro =>
     gxN cs o (s.len * sz) (fun old =>
      match s.opn with
      | none => nwO t (old ++ vs) fun b' => f { p := some (b', 0), len := s.len + m, cap := s.len + m, opn := some sz }
      | some es => gd (decide (es = sz) && decide (o = 0) && decide (cs.length = s.len * sz) && !ro) (fun H n =>
        nwO t (old ++ vs) (fun b' => f { p := some (b', 0), len := s.len + m, cap := s.len + m, opn := some sz }) (H.set b .dead) n)) H n
    | _ => none) H n
theorem apd_O {α : Type} {s : Sl} {sz by_ m : Nat} {vs : List HV} {f : Sl → M α} : apd s sz by_ m vs f = apdO none s sz by_ m vs f := rfl
theorem wp_apdU {α : Type} {Q : α → Heap → Prop} {H : Heap} {e sz by_ m : Nat} {vs : List HV} {s : Sl} {f : Sl → M α} (h : ∀ t, wp (apdO t s sz by_ m vs f) Q H) : wp (apdU e s sz by_ m vs f) Q H := by
 have key : (∃ b o es, s.p = some (b, o) ∧ s.opn = some es ∧ ¬ H.ty b = some (e, none)) ∨ ∀ n, apdT e s sz by_ m vs f H n = apdO (some (e, none)) s sz by_ m vs f H n ∧ apdU e s sz by_ m vs f H n = apdT e s sz by_ m vs f H n := by
  obtain ⟨p, len, cap, opn⟩ := s
  cases p with
  | none => exact .inr fun n => ⟨rfl, rfl⟩
  | some q =>
   obtain ⟨b, o⟩ := q
   cases opn with
   | none => exact .inr fun n => ⟨rfl, rfl⟩
   | some es =>
    by_cases hd : H.ty b = some (e, none)
    ·refine .inr fun n => ⟨?_, ?_⟩
     ·unfold apdT apdO
      generalize (decide ((len + m) * by_ ≤ room) && decide (vs.length = m * sz) && decide (0 < sz) && decide (len + m ≤ room)) = c0
      cases c0
      ·rfl
      ·simp only [gd, hd, decide_true, Bool.and_true]
       rfl
     ·unfold apdU
      simp only [hd, decide_true]
    ·exact .inl ⟨b, o, es, rfl, rfl, hd⟩
 rcases key with ⟨b, o, es, h1, h2, h3⟩ | key
 ·obtain ⟨n0, a, H', h4, h5⟩ := h none
  refine ⟨n0, a, H', fun n hn => ?_, h5⟩
  rw [← h4 n hn]
  unfold apdU
  simp only [h1, h2, h3, decide_false]
  rfl
 ·obtain ⟨n0, a, H', h4, h5⟩ := h (some (e, none))
  exact ⟨n0, a, H', fun n hn => by rw [(key n).2, (key n).1]; exact h4 n hn, h5⟩
def Tight (s : Sl) : Prop := s.opn = none ∨ s.cap = s.len
theorem Ho.frr {H0 H : Heap} {F : List HP} {τ : Option (Nat × Option Nat)} {γ : Type} {f : γ → List HV} {sz : Nat} {s : Sl} {xs : List γ} (h : Ho H0 H (own (rRt τ f sz) s xs :: F)) : Ho H0 H (own (rR f sz) s (xs ++ []) :: F) := by
 rw [List.append_nil]; exact h.ent Ent.forget
section
variable {H0 : Heap} {P F : List HP} {τ : Option (Nat × Option Nat)} {γ : Type} {f : γ → List HV} {sz : Nat} {s : Sl} {xs ys : List γ} {α : Type} {Q : α → List HP → Prop}
theorem Wp.apdO {t : Option (Nat × Option Nat)} {l : List HV} {m by_ : Nat} {g : Sl → M α} [fd : FndR P s τ γ f sz xs F] (hl : l = (ys.map f).flatten) (hm : m = ys.length) (hx : ∀ y ∈ ys, (f y).length = sz) (h1 : (xs.length + ys.length) * by_ ≤ room) (h2 : xs.length + ys.length ≤ room) (ht : Tight s ∨ s.len + ys.length ≤ s.cap)
  (h : ∀ s', (Tight s → Tight s') → (s.len + ys.length ≤ s.cap → s'.cap = s.cap) → Wp H0 (own (rR f sz) s' (xs ++ ys) :: F) (g s') Q) : Wp H0 P (HQ.apdO t s sz by_ m l g) Q := fun H hH => by
 subst hl hm
 have hH := hH.perm fd.p
 have q := hH.rRf
 have hlen := q.len
 have hcap := q.cap
 have hroom : room = 140737488355328 := rfl
 have hszs : ∀ y ∈ xs ++ ys, (f y).length = sz := fun y hy => by
  rcases List.mem_append.1 hy with hy | hy
  ·exact q.szs y hy
  ·exact hx y hy
 have hfl : ((xs ++ ys).map f).flatten = (xs.map f).flatten ++ (ys.map f).flatten := by simp
 have hf0 := flat_len q.szs
 have hfy := flat_len hx
 have hmul : (xs.length + ys.length) * sz = xs.length * sz + ys.length * sz := Nat.add_mul _ _ _
 unfold HQ.apdO
 have hg : (decide ((s.len + ys.length) * by_ ≤ room) && decide (((ys.map f).flatten).length = ys.length * sz) && decide (0 < sz) && decide (s.len + ys.length ≤ room)) = true := by
  rw [hlen]; simp only [hfy, q.pos, h1, h2, decide_true, Bool.and_self]
 rw [hg]
 have fin : ∀ {H1 : Heap} {P1 : List HP}, ¬ (s.len + ys.length ≤ s.cap) → Ho H0 H1 P1 → (∀ H2, Ho H0 H2 (P1) → Ho H0 H2 F) → ∀ cs, cs = ((xs ++ ys).map f).flatten → wp (HQ.nwO t cs fun b' => g { p := some (b', 0), len := s.len + ys.length, cap := s.len + ys.length, opn := some sz }) (fun a H' => ∃ P', Q a P' ∧ Ho H0 H' P') H1 := by
  intro H1 P1 hnc ho hsub cs hcs
  have hw : ∀ {Q : α → Heap → Prop}, wp (g { p := some (H1.n, 0), len := s.len + ys.length, cap := s.len + ys.length, opn := some sz }) Q (H1.pushT t (.cells cs false)) → wp (HQ.nwO t cs fun b' => g { p := some (b', 0), len := s.len + ys.length, cap := s.len + ys.length, opn := some sz }) Q H1 := fun h => h
  refine hw (h _ (fun _ => .inr rfl) (fun c => absurd c hnc) _ ?_)
  have := (hsub _ ho).new (A := own (HQ.rCt none) H1.n cs) t (.cells cs false) ⟨t, (by cases t <;> simp), rfl⟩
  rw [hcs] at this ⊢
  refine Ho.rRo (ext := []) ⟨hszs, q.pos, by simp [hlen], Nat.le_refl _, by simp only [hlen]; omega⟩ rfl (.inr rfl) ?_ (by rw [List.append_nil]; exact this)
  rw [List.append_nil, flat_len hszs]; simp [hlen]
 rcases hH.rRb with ⟨rfl, rfl⟩ | ⟨b, ext, g1, g2, g3, g4⟩
 ·rcases Nat.eq_zero_or_pos ys.length with h0 | h0
  ·have hys : ys = [] := List.eq_nil_of_length_eq_zero h0
   subst hys
   refine wp_of (H' := H) (m' := g ⟨none, 0, 0, none⟩) (fun n => rfl) (h _ (fun h => h) (fun _ => rfl) _ ?_)
   exact hH.frr
  ·refine wp_of (H' := H) (m' := HQ.nwO t ((ys.map f).flatten) fun b' => g { p := some (b', 0), len := ys.length, cap := ys.length, opn := some sz }) (fun n => ?_) ?_
   ·show (if 0 + ys.length ≤ 0 then _ else _ : Option (α × Heap)) = _
    rw [if_neg (by omega)]
    rfl
   ·have := fin (by show ¬ (0 + ys.length ≤ 0); omega) hH (fun _ h => h.tail) ((ys.map f).flatten) (by simp)
    simpa using this
 ·have hget := g4.rCt
  rw [List.length_append, hf0] at g3
  by_cases hc : s.len + ys.length ≤ s.cap
  ·have hmul2 : (s.len + ys.length) * sz ≤ s.cap * sz := Nat.mul_le_mul_right _ hc
   have hext : ys.length * sz ≤ ext.length := by rw [hlen, hmul] at hmul2; omega
   have e : putN ((xs.map f).flatten ++ ext) (0 + s.len * sz) ((ys.map f).flatten) = ((xs ++ ys).map f).flatten ++ ext.drop (ys.length * sz) := by
    have := putN_mid (A := (xs.map f).flatten) (B := ext) (C := []) (vs := (ys.map f).flatten) (k := 0) (by omega)
    rw [List.append_nil, List.append_nil] at this
    rw [Nat.zero_add, hlen, ← hf0]
    rw [Nat.add_zero] at this
    rw [this, hfl]; unfold putN; rw [List.take_zero, List.nil_append, Nat.zero_add, hfy, List.append_assoc]
   refine wp_of (m' := g { s with len := s.len + ys.length }) (H' := H.set b (.cells (((xs ++ ys).map f).flatten ++ ext.drop (ys.length * sz)) false)) (fun n => ?_) (h { s with len := s.len + ys.length } (fun h => ?_) (fun _ => rfl) _ ?_)
   ·show (if s.len + ys.length ≤ s.cap then _ else _ : Option (α × Heap)) = _
    rw [if_pos hc, g1]
    simp only [HQ.stN, hget]
    rw [show decide (0 + s.len * sz + ((ys.map f).flatten).length ≤ ((xs.map f).flatten ++ ext).length) = true from by simp only [List.length_append, hf0, hfy, hlen, decide_eq_true_eq]; omega]
    rw [e]; rfl
   ·rcases h with h | h
    ·exact .inl h
    ·refine .inr ?_; show s.cap = s.len + ys.length; omega
   ·refine Ho.rRo (ext := ext.drop (ys.length * sz)) ⟨hszs, q.pos, by simp [hlen], hc, q.lt⟩ g1 g2 ?_ ((g4.rCt_set _).frg)
    show s.cap * sz = _
    rw [List.length_append, flat_len hszs, List.length_append, List.length_drop, Nat.add_mul]
    omega
  ·have hold : (((xs.map f).flatten ++ ext).drop 0).take (s.len * sz) = (xs.map f).flatten := by rw [List.drop_zero, hlen, ← hf0, List.take_left]
   have hgx : decide (0 + s.len * sz ≤ ((xs.map f).flatten ++ ext).length) = true := by rw [List.length_append, hf0, hlen]; simp
   rcases g2 with g2 | g2
   ·refine wp_of (H' := H) (m' := HQ.nwO t ((xs.map f).flatten ++ (ys.map f).flatten) fun b' => g { p := some (b', 0), len := s.len + ys.length, cap := s.len + ys.length, opn := some sz }) (fun n => ?_) (fin hc hH (fun _ h => h.tail) _ hfl.symm)
    show (if s.len + ys.length ≤ s.cap then _ else _ : Option (α × Heap)) = _
    rw [if_neg hc, g1]
    simp only [hget, HQ.gxN, hgx, hold, g2]
    rfl
   ·have hce : s.cap = s.len := by
     rcases ht with (ht | ht) | ht
     ·rw [g2] at ht; cases ht
     ·exact ht
     ·exact absurd ht hc
    have hext : ext = [] := List.eq_nil_of_length_eq_zero (by rw [hce, hlen] at g3; omega)
    subst hext
    rw [List.append_nil] at hget g4 hold hgx
    have hdead : Ho H0 (H.set b .dead) F := (g4.one (B := fun h => ∃ t, h = Pc.one b (.dead, t)) (fun _ ⟨t, _, e⟩ => ⟨t, e⟩) .dead (fun t => ⟨t, rfl⟩)).tail
    refine wp_of (H' := H.set b .dead) (m' := HQ.nwO t ((xs.map f).flatten ++ (ys.map f).flatten) fun b' => g { p := some (b', 0), len := s.len + ys.length, cap := s.len + ys.length, opn := some sz }) (fun n => ?_) (fin hc hdead (fun _ h => h) _ hfl.symm)
    show (if s.len + ys.length ≤ s.cap then _ else _ : Option (α × Heap)) = _
    rw [if_neg hc, g1]
    simp only [hget, HQ.gxN, hgx, hold, g2]
    rw [show decide ((xs.map f).flatten.length = s.len * sz) = true from by simp [hf0, hlen]]
    simp only [decide_true, Bool.and_self, Bool.not_false, gd]
end
def natL (n : Nat) : Bs := if n < 128 then [UInt8.ofNat n] else UInt8.ofNat (n % 128 + 128) :: natL (n / 128)
theorem natL_lo {n : Nat} (h : n < 128) : natL n = [UInt8.ofNat n] := by rw [natL, if_pos h]
theorem natL_hi {n : Nat} (h : ¬ n < 128) : natL n = UInt8.ofNat (n % 128 + 128) :: natL (n / 128) := by rw [natL, if_neg h]
set_option maxRecDepth 100000 in
theorem nat_byte (n : Nat) : IntKind.wrap .u8 ((BitVec.ofInt 8 (IntKind.wrap .u8 (n : Int)) ||| BitVec.ofInt 8 128).toNat : Int) = ((UInt8.ofNat (n % 128 + 128)).toNat : Int) := by
 have key : ∀ k : Fin 256, (BitVec.ofNat 8 k.val ||| BitVec.ofInt 8 128).toNat = k.val % 128 + 128 := by decide
 have e1 : IntKind.wrap .u8 (n : Int) = ((n % 256 : Nat) : Int) := by simp only [IntKind.wrap, IntKind.signed, IntKind.bits]; simp
 rw [e1, BitVec.ofInt_natCast, key ⟨n % 256, Nat.mod_lt _ (by decide)⟩]
 simp only [IntKind.wrap, IntKind.signed, IntKind.bits]
 simp
theorem nat_low {n : Nat} : IntKind.wrap .u8 (n : Int) = ((UInt8.ofNat n).toNat : Int) := by
 simp only [IntKind.wrap, IntKind.signed, IntKind.bits]
 simp
theorem nat_shift (n : Nat) : Int.fdiv (n : Int) (2 ^ 7) = ((n / 128 : Nat) : Int) := by
 rw [show (2 : Int) ^ 7 = ((128 : Nat) : Int) from rfl, Int.fdiv_eq_ediv_of_nonneg _ (by omega)]; rfl
abbrev inC (n : Nat) : List HV := [I n]
def rSty (p : Nat) (bs : Bs) : HP := fun h => ∃ s : Sl, Tight s ∧ Al [own rC p [.sl s], own (rR byC 1) s bs] h
instance {p : Nat} {bs : Bs} : Opn rSty p bs Sl Tight (fun s F => own rC p [.sl s] :: own (rR byC 1) s bs :: F) :=
 ⟨fun _ => ⟨fun h => h, fun h => h⟩, fun _ _ => rfl⟩
section
variable {H0 : Heap} {P F F' : List HP} {Q : HV → List HP → Prop} {D : HV → List HV → M HV}
theorem stylus_Nat_v {p : Nat} {bs : Bs} {s : Sl} {xs : List Nat} [fd : Fnd P rSty p bs F] [fr : FndR F s none Nat inC 1 xs F'] (hl : (bs ++ (xs.map natL).flatten).length ≤ 1000000) (hx : xs.length ≤ 1000000) (h : Q (.tup []) (own rSty p (bs ++ (xs.map natL).flatten) :: F)) :
  Wp H0 P (f_stylus_Stylus_Nat D [.ptr (some (p, 0)), .sl s]) Q := by
 refine Wp.cl ?_
 unfold f_stylus_Stylus_Nat
 have hroom : room = 140737488355328 := rfl
 refine Wp.open rSty p fun t ht => ?_
 refine Wp.row (s := s) fun hs => ?_
 have hsl := hs.len
 refine go ?_
 refine Wp.forL (σ := Sl) xs.length (by omega) (by omega) (fun _ i => [I i]) (out := fun _ => []) (fun _ _ => rfl) (fun _ t => Tight t)
  (fun i t => own rC p [.sl t] :: own (rR byC 1) t (bs ++ ((xs.take i).map natL).flatten) :: F) t rfl ht (.cons rfl (.cons (by simp) .refl)) ?_ ?_
 ·intro i t hi ht
  have hxi : xs[i]? = some xs[i] := List.getElem?_eq_getElem hi
  generalize xs[i] = x at hxi
  have htk : (xs.take (i + 1)).map natL = (xs.take i).map natL ++ [natL x] := by rw [List.take_add_one, hxi]; simp
  have hle : (((xs.take (i + 1)).map natL).flatten).length ≤ ((xs.map natL).flatten).length := by
   have e : (xs.map natL).flatten = ((xs.take (i + 1)).map natL).flatten ++ ((xs.drop (i + 1)).map natL).flatten := by rw [← List.flatten_append, ← List.map_append, List.take_append_drop]
   rw [e, List.length_append]; omega
  rw [htk] at hle
  simp only [List.flatten_append, List.flatten_cons, List.flatten_nil, List.append_nil, List.length_append] at hle hl
  refine Wp.blk ?_
  refine Wp.ixC0 (v := I x) (j := i) rfl hxi rfl fun _ _ => ?_
  refine go ⟨fun c => by omega, fun _ => ?_⟩
  refine Wp.blk (Wp.loop (fun k vs P' => ∃ (t : Sl) (y : Nat) (done : Bs), vs = [I y] ∧ Tight t ∧ k = y ∧ natL x = done ++ natL y ∧ Ent P' (own rC p [.sl t] :: own (rR byC 1) t (bs ++ ((xs.take i).map natL).flatten ++ done) :: F)) x
   ⟨t, x, [], rfl, ht, rfl, rfl, .cons rfl (.cons (by simp) .refl)⟩ ?_)
  rintro k vs P' ⟨t, y, done, rfl, ht, rfl, he, hp⟩
  refine Wp.ent hp ?_
  have hdl : done.length + (natL k).length = (natL x).length := by rw [he]; simp
  refine go ⟨fun c => ?_, fun c => ?_⟩
  ·have c : ¬ k < 128 := by omega
   have e1 := natL_hi c
   have e2 : (natL k).length = (natL (k / 128)).length + 1 := by rw [e1]; rfl
   rw [nat_byte, nat_shift]
   rw [apd_O]
   refine Wp.apdO (ys := [UInt8.ofNat (k % 128 + 128)]) rfl rfl (fun _ _ => rfl) (by simp only [List.length_append, List.length_cons, List.length_nil]; omega) (by simp only [List.length_append, List.length_cons, List.length_nil]; omega) (.inl ht) fun t' ht' _ => ?_
   refine go ?_
   refine ⟨k / 128, Nat.div_lt_self (by omega) (by decide), t', k / 128, done ++ [UInt8.ofNat (k % 128 + 128)], rfl, ht' ht, rfl, by rw [he, e1]; simp, .cons rfl (.cons (by simp) .refl)⟩
  ·have c : k < 128 := by omega
   have e1 := natL_lo c
   have e2 : (natL k).length = 1 := by rw [e1]; rfl
   rw [nat_low, apd_O]
   refine Wp.apdO (ys := [UInt8.ofNat k]) rfl rfl (fun _ _ => rfl) (by simp only [List.length_append, List.length_cons, List.length_nil]; omega) (by simp only [List.length_append, List.length_cons, List.length_nil]; omega) (.inl ht) fun t' ht' _ => ?_
   refine go ?_
   exact ⟨t', rfl, ht' ht, .cons rfl (.cons (by rw [htk, he, e1]; simp) .refl)⟩
 ·intro t ht
  rw [List.take_length]
  refine go ?_
  exact ⟨_, h, .fold t ht .refl⟩
theorem stylus_Raw_v {p : Nat} {bs l : Bs} [fd : Fnd P rSty p bs F] (hl : (bs ++ l).length ≤ 1000000) (h : Q (.tup []) (own rSty p (bs ++ l) :: F)) :
  Wp H0 P (f_stylus_Stylus_Raw D [.ptr (some (p, 0)), .str (S l)]) Q := by
 refine Wp.cl ?_
 unfold f_stylus_Stylus_Raw
 have hroom : room = 140737488355328 := rfl
 have hs := S_size l
 rw [List.length_append] at hl
 refine Wp.open rSty p fun t ht => ?_
 refine go ?_
 refine fun H hH => wp_apdU fun τ => ?_
 refine Wp.apdO (P := own rC p [.sl t] :: own (rR byC 1) t bs :: F) (ys := l) (bytesHV_S l) hs (fun _ _ => rfl) (by omega) (by omega) (.inl ht) (fun t' ht' _ => ?_) H hH
 refine go ?_
 exact ⟨_, h, .fold t' (ht' ht) .refl⟩
theorem stylus_Bytes_v {p : Nat} {bs : Bs} [fd : Fnd P rSty p bs F] (h : Q (.str (S bs)) P) : Wp H0 P (f_stylus_Stylus_Bytes D [.ptr (some (p, 0))]) Q := by
 refine Wp.cl ?_
 unfold f_stylus_Stylus_Bytes
 refine Wp.open rSty p fun t ht => ?_
 refine Wp.row (s := t) fun hs => ?_
 have hsl := hs.len
 refine go ?_
 refine Wp.rdS (s := t) ?_
 refine go ⟨by rw [flat_len (f := byC) (sz := 1) (fun _ _ => rfl)]; omega, ?_⟩
 rw [strM_S]
 refine go ?_
 exact ⟨_, h, .back rSty p (.fold t ht .refl)⟩
end
end Go.Proofs.YtbphjihgbenkdaaGreat.HQ
