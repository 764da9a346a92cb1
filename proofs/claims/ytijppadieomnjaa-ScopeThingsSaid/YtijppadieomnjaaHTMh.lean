/- Files, place by place; the document's sheet. Conditions: texts are short (lemmas). -/
import Derived.Test.YtijppadieomnjaaHTPc
namespace Go.Proofs.Ytijppadieomnjaa.HT
open Go

abbrev Fil := Bool × ByteArray
def atF (t : ByteArray) (i : Int) : Int := if 0 ≤ i ∧ i < (t.size : Int) then ((t.data[i.toNat]?.getD 0).toNat : Int) else -1
theorem strB_one (n : Int) : (strB [n]).size = 1 := rfl
def max0 (x : Int) : Int := bif decide (0 > x) then 0 else x
/-- with another byte at a place: so many bytes of it. -/
def putG (t : ByteArray) (at_ b : Int) : Nat → ByteArray
  | 0 => ByteArray.mk #[]
  | k + 1 => putG t at_ b k ++ strB [IntKind.wrap .u8 (if (k : Int) = at_ then wr b else max0 (atF t k))]
theorem putG_size (t : ByteArray) (at_ b : Int) : ∀ k, (putG t at_ b k).size = k
  | 0 => rfl
  | k + 1 => by simp only [putG, ByteArray.size_append, putG_size t at_ b k, strB_one]
def putF (f : Fil) (at_ b : Int) : Fil := if at_ < 0 ∨ at_ > 31 then f else (true, putG f.2 at_ b (max f.2.size (at_ + 1).toNat))
/-- with so many bytes. -/
def cutG (t : ByteArray) : Nat → ByteArray
  | 0 => ByteArray.mk #[]
  | k + 1 => cutG t k ++ strB [IntKind.wrap .u8 (max0 (atF t k))]
theorem cutG_size (t : ByteArray) : ∀ k, (cutG t k).size = k
  | 0 => rfl
  | k + 1 => by simp only [cutG, ByteArray.size_append, cutG_size t k, strB_one]
def cutF (f : Fil) (n : Int) : Fil := if f.1 = false ∨ n < 0 ∨ n > 32 then f else (true, cutG f.2 n.toNat)
theorem putN_getW {cs vs : List HV} {o i : Nat} (h : o + vs.length ≤ cs.length) : (putN cs o vs)[i]? = if o ≤ i ∧ i < o + vs.length then vs[i - o]? else cs[i]? := by
  unfold putN
  rw [List.append_assoc]
  by_cases h1 : i < o
  · rw [List.getElem?_append_left (by simp; omega), if_neg (by omega), List.getElem?_take, if_pos h1]
  · rw [List.getElem?_append_right (by simp; omega)]
    simp only [List.length_take, Nat.min_eq_left (show o ≤ cs.length by omega)]
    by_cases h2 : i < o + vs.length
    · rw [List.getElem?_append_left (by omega), if_pos (by omega)]
    · rw [List.getElem?_append_right (by omega), if_neg (by omega), List.getElem?_drop]
      congr 1; omega
theorem putN_lenW {cs vs : List HV} {o : Nat} (h : o + vs.length ≤ cs.length) : (putN cs o vs).length = cs.length := by
  simp [putN]; omega
theorem wp_gxNm {α : Type} {Q : α → Heap → Prop} {H : Heap} {cs : List HV} {o m : Nat} {f : List HV → M α} (hm : o + m ≤ cs.length) (h : wp (f ((cs.drop o).take m)) Q H) : wp (gxN cs o m f) Q H := by
  unfold gxN
  exact wp_gd (by simpa using hm) h
/-- a sheet in memory: its files. -/
structure Shee (H : Heap) (b : Nat) (fs : Nat → Fil) : Prop where
  lt : b < H.n
  mem : ∃ cs, H.get b = .cells cs false ∧ cs.length = 30 ∧ ∀ i, i < 6 → cs[12 + i * 2]? = some (.bool (fs i).1) ∧ cs[12 + i * 2 + 1]? = some (.str (fs i).2)
theorem Shee.keeps {H H' : Heap} {b : Nat} {fs : Nat → Fil} (h : Shee H b fs) (k : Keeps H H') : Shee H' b fs := by
  obtain ⟨h1, cs, h2, h3⟩ := h
  exact ⟨Nat.lt_of_lt_of_le h1 k.n, cs, by rw [k.get b h1]; exact h2, h3⟩
def updF (fs : Nat → Fil) (i : Nat) (f : Fil) : Nat → Fil := fun j => if j = i then f else fs j
section
variable {α : Type} {Q : α → Heap → Prop} {H : Heap}
end
end Go.Proofs.Ytijppadieomnjaa.HT
namespace Go.Proofs.Ytijppadieomnjaa.HT
open Go

/-- all files are short. -/
def Short (fs : Nat → Fil) (n : Nat) : Prop := ∀ i, i < 6 → (fs i).2.size ≤ n
abbrev noFile : Fil := (false, ByteArray.mk #[])
def renF (fs : Nat → Fil) (i j : Nat) : Nat → Fil := if (fs i).1 = true ∧ i ≠ j then updF (updF fs j (fs i)) i noFile else fs
/-- cells, files, places. -/
structure Th where
  c : Nat → Int
  f : Nat → Fil
  p : Nat → Int
structure ThL (y : List HV) (t : Th) : Prop where
  len : y.length = 23
  c : ∀ i, i < 8 → y[i]? = some (I (t.c i))
  f : ∀ i, i < 6 → y[8 + i * 2]? = some (.bool (t.f i).1) ∧ y[8 + i * 2 + 1]? = some (.str (t.f i).2)
  p : ∀ i, i < 3 → y[20 + i]? = some (I (t.p i))
def updI (c : Nat → Int) (i : Nat) (v : Int) : Nat → Int := fun j => if j = i then v else c j
theorem ThL.files {y z : List HV} {t : Th} {fs : Nat → Fil} (h : ThL y t) (hz : z.length = 12) (hf : ∀ i, i < 6 → z[i * 2]? = some (.bool (fs i).1) ∧ z[i * 2 + 1]? = some (.str (fs i).2)) : ThL (putN y 8 z) { t with f := fs } := by
  have hl := h.len
  have hput : 8 + z.length ≤ y.length := by omega
  refine ⟨by rw [putN_lenW hput]; exact hl, fun j hj => ?_, fun j hj => ?_, fun j hj => ?_⟩
  · rw [putN_getW hput, if_neg (by omega)]; exact h.c j hj
  · rw [putN_getW hput, putN_getW hput, if_pos (by omega), if_pos (by omega), show 8 + j * 2 - 8 = j * 2 by omega, show 8 + j * 2 + 1 - 8 = j * 2 + 1 by omega]
    exact hf j hj
  · rw [putN_getW hput, if_neg (by omega)]; exact h.p j hj
/-- the lists of the same things are one. -/
theorem ThL.only {y y' : List HV} {t : Th} (h : ThL y t) (h' : ThL y' t) : y = y' := by
  refine List.ext_getElem? fun i => ?_
  by_cases h23 : i < 23
  · by_cases h8 : i < 8
    · rw [h.c i h8, h'.c i h8]
    · by_cases h20 : i < 20
      · by_cases he : i % 2 = 0
        · have e : i = 8 + ((i - 8) / 2) * 2 := by omega
          rw [e, (h.f _ (by omega)).1, (h'.f _ (by omega)).1]
        · have e : i = 8 + ((i - 8) / 2) * 2 + 1 := by omega
          rw [e, (h.f _ (by omega)).2, (h'.f _ (by omega)).2]
      · have e : i = 20 + (i - 20) := by omega
        rw [e, h.p _ (by omega), h'.p _ (by omega)]
  · rw [List.getElem?_eq_none (by have := h.len; omega), List.getElem?_eq_none (by have := h'.len; omega)]
/-- a deed. -/
structure De where
  k : Int
  a : Int
  b : Int
  c : Int
abbrev De.cs (d : De) : List HV := [I d.k, I d.a, I d.b, .int .u8 d.c]
/-- what it names is there. -/
structure De.ok (d : De) : Prop where
  k : 0 ≤ d.k ∧ d.k ≤ 8
  c : d.k ≤ 1 → 0 ≤ d.a ∧ d.a < 8
  f : 2 ≤ d.k ∧ d.k ≤ 7 → 0 ≤ d.a ∧ d.a < 6
  r : d.k = 6 → 0 ≤ d.b ∧ d.b < 6
  s : d.k = 8 → 0 ≤ d.a ∧ d.a < 3
def doF (t : Th) (tx : Nat → ByteArray) (d : De) : Int × Th :=
  let i := d.a.toNat
  if d.k = 0 then (t.c i, t)
  else if d.k = 1 then (0, { t with c := updI t.c i d.b })
  else if d.k = 2 then (atF (t.f i).2 d.b, t)
  else if d.k = 3 then (0, { t with f := updF t.f i (putF (t.f i) d.b d.c) })
  else if d.k = 4 then (0, { t with f := updF t.f i (true, (t.f i).2) })
  else if d.k = 5 then (0, { t with f := updF t.f i noFile })
  else if d.k = 6 then (0, { t with f := renF t.f i d.b.toNat })
  else if d.k = 7 then (0, { t with f := updF t.f i (cutF (t.f i) d.b) })
  else if t.p i < ((tx i).size : Int) then ((((tx i).data[(t.p i).toNat]?.getD 0).toNat : Int), { t with p := updI t.p i (wr (t.p i + 1)) })
  else (-1, t)
theorem ThL.slice {y : List HV} {t : Th} (h : ThL y t) : ((y.drop 8).take 12).length = 12 ∧ ∀ i, i < 6 → ((y.drop 8).take 12)[i * 2]? = some (.bool (t.f i).1) ∧ ((y.drop 8).take 12)[i * 2 + 1]? = some (.str (t.f i).2) := by
  have hl := h.len
  refine ⟨by simp; omega, fun i hi => ?_⟩
  rw [List.getElem?_take, if_pos (by omega), List.getElem?_drop, List.getElem?_take, if_pos (by omega), List.getElem?_drop, show 8 + (i * 2 + 1) = 8 + i * 2 + 1 by omega]
  exact h.f i hi
end Go.Proofs.Ytijppadieomnjaa.HT
namespace Go.Proofs.Ytijppadieomnjaa.HT
open Go

def sumI (x y : Int) : Int := wr (IntKind.wrap .u64 (IntKind.wrap .u64 x + IntKind.wrap .u64 y))
/-- what the numbers of an instruction may be. -/
structure RngB (c : Ins) : Prop where
  h1 : c.op = 1 → 0 ≤ c.a ∧ c.a < 4
  h2 : c.op = 2 → 0 ≤ c.a ∧ c.a < 4 ∧ 0 ≤ c.b ∧ c.b < 4
  h3 : c.op = 3 → 0 ≤ c.b ∧ c.b < 4
  h6 : c.op = 6 → 0 ≤ c.a ∧ c.a < 4 ∧ 0 ≤ c.b ∧ c.b < 8
  h7 : c.op = 7 → 0 ≤ c.a ∧ c.a < 8 ∧ 0 ≤ c.b ∧ c.b < 4
  h8 : c.op = 8 → 0 ≤ c.a ∧ c.a < 4 ∧ 0 ≤ c.b ∧ c.b < 6
  h9 : c.op = 9 → 0 ≤ c.a ∧ c.a < 6 ∧ 0 ≤ c.c ∧ c.c < 4
  h10 : c.op = 10 ∨ c.op = 11 ∨ c.op = 13 → 0 ≤ c.a ∧ c.a < 6
  h12 : c.op = 12 → 0 ≤ c.a ∧ c.a < 6 ∧ 0 ≤ c.b ∧ c.b < 6
  h14 : c.op = 14 → 0 ≤ c.a ∧ c.a < 4 ∧ 0 ≤ c.b ∧ c.b < 3
  h15 : c.op = 15 → 0 ≤ c.a ∧ c.a < 3 ∧ 0 ≤ c.b ∧ c.b < 4
  h16 : c.op = 16 → 0 ≤ c.a ∧ c.a < 3
  h18 : c.op = 18 → 0 ≤ c.a ∧ c.a < 4
theorem Fits.rngB {c : Ins} (h : Fits c) : RngB c := by
  obtain ⟨⟨l, h1, h2⟩, h3⟩ := h
  have key : ∀ {o : Int} {a0 a1 b0 b1 c0 c1 : Int}, c.op = o → lims o = some [a0, a1, b0, b1, c0, c1] → a0 ≤ c.a ∧ c.a ≤ a1 ∧ b0 ≤ c.b ∧ c.b ≤ b1 ∧ c0 ≤ c.c ∧ c.c ≤ c1 := by
    intro o a0 a1 b0 b1 c0 c1 ho hl
    rw [ho, hl] at h1
    cases h1
    exact h2
  refine ⟨fun e => ?_, fun e => ?_, fun e => ?_, fun e => ?_, fun e => ?_, fun e => ?_, fun e => ?_, fun e => ?_, fun e => ?_, fun e => ?_, fun e => ?_, fun e => ?_, fun e => ?_⟩
  all_goals first
    | (have := key e rfl; omega)
    | (rcases e with e | e | e <;> (have := key e rfl; omega))

theorem lt4 {k : Nat} (h : k < 4) : k = 0 ∨ k = 1 ∨ k = 2 ∨ k = 3 := by omega
def goes (c : Ins) (r : Nat → Int) : Prop := c.c = 2 ∨ (c.c = 0 ∧ r c.b.toNat = 0) ∨ (c.c = 1 ∧ r c.b.toNat ≠ 0)
instance decGoes (c : Ins) (r : Nat → Int) : Decidable (goes c r) := by unfold goes; infer_instance
/-- an instruction on registers. -/
def plainF (c : Ins) (pl : Int) (r : Nat → Int) : Option (Int × (Nat → Int)) :=
  if c.op = 1 then some (wr (pl + 1), updI r c.a.toNat c.b)
  else if c.op = 2 then some (wr (pl + 1), updI r c.a.toNat (sumI (r c.a.toNat) (r c.b.toNat)))
  else if c.op = 3 then (if goes c r then some (c.a, r) else some (wr (pl + 1), r))
  else none
/-- an instruction that is a deed; and whether its answer is a register's. -/
def deedF (c : Ins) (r : Nat → Int) : De × Bool × Bool :=
  if c.op = 6 then (⟨0, c.b, 0, 0⟩, true, true)
  else if c.op = 7 then (⟨1, c.a, r c.b.toNat, 0⟩, true, false)
  else if c.op = 8 then (⟨2, c.b, c.c, 0⟩, true, true)
  else if c.op = 9 then (⟨3, c.a, c.b, IntKind.wrap .u8 (r c.c.toNat)⟩, true, false)
  else if c.op = 10 then (⟨4, c.a, 0, 0⟩, true, false)
  else if c.op = 11 then (⟨5, c.a, 0, 0⟩, true, false)
  else if c.op = 12 then (⟨6, c.a, c.b, 0⟩, true, false)
  else if c.op = 13 then (⟨7, c.a, c.b, 0⟩, true, false)
  else if c.op = 14 then (⟨8, c.b, 0, 0⟩, true, true)
  else (⟨0, 0, 0, 0⟩, false, false)
theorem deedF_ok {c : Ins} (hr : RngB c) (r : Nat → Int) : (deedF c r).2.1 = true → (deedF c r).1.ok := by
  obtain ⟨o, a, b, c⟩ := c
  obtain ⟨_, _, _, k6, k7, k8, k9, k10, k12, k14, _, _, _⟩ := hr
  simp only at k6 k7 k8 k9 k10 k12 k14
  unfold deedF
  simp only
  intro h
  split at h <;> rename_i e <;> (try rw [if_pos e])
  · have := k6 e; exact ⟨by simp, by simp; omega, by simp, by simp, by simp⟩
  rw [if_neg e]
  split at h <;> rename_i e <;> (try rw [if_pos e])
  · have := k7 e; exact ⟨by simp, by simp; omega, by simp, by simp, by simp⟩
  rw [if_neg e]
  split at h <;> rename_i e <;> (try rw [if_pos e])
  · have := k8 e; exact ⟨by simp, by simp, by simp; omega, by simp, by simp⟩
  rw [if_neg e]
  split at h <;> rename_i e <;> (try rw [if_pos e])
  · have := k9 e; exact ⟨by simp, by simp, by simp; omega, by simp, by simp⟩
  rw [if_neg e]
  split at h <;> rename_i e <;> (try rw [if_pos e])
  · have := k10 (.inl e); exact ⟨by simp, by simp, by simp; omega, by simp, by simp⟩
  rw [if_neg e]
  split at h <;> rename_i e <;> (try rw [if_pos e])
  · have := k10 (.inr (.inl e)); exact ⟨by simp, by simp, by simp; omega, by simp, by simp⟩
  rw [if_neg e]
  split at h <;> rename_i e <;> (try rw [if_pos e])
  · have := k12 e; exact ⟨by simp, by simp, by simp; omega, by simp; omega, by simp⟩
  rw [if_neg e]
  split at h <;> rename_i e <;> (try rw [if_pos e])
  · have := k10 (.inr (.inr e)); exact ⟨by simp, by simp, by simp; omega, by simp, by simp⟩
  rw [if_neg e]
  split at h <;> rename_i e <;> (try rw [if_pos e])
  · have := k14 e; exact ⟨by simp, by simp, by simp, by simp, by simp; omega⟩
  · cases h
end Go.Proofs.Ytijppadieomnjaa.HT
