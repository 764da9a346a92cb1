/- Lemmas for the row. Conditions: none. -/
import Derived.Test.YtbphjihgbenkdaaGreatHQL
namespace Go.Proofs.YtbphjihgbenkdaaGreat.HQ
set_option linter.unusedVariables false
set_option linter.unusedSectionVars false
set_option linter.unusedSimpArgs false
open Go
set_option linter.unusedSectionVars false
variable [Sites]
section
variable {E : Env} {P : Program} {I0 : Inj} {H0 : Heap} {w0 : World} {nt : Cx} {β : Nat → Option Nat} {I : Inj} {H : Heap} {w : World} {S : St} {a : Act}
variable {K : SV → St → M Leaf} {n : Nat} {r : Leaf × Heap} {next : Act → World → Prop} {Q : Exit → Act → World → Prop} {o : Oper} {ro : Option Nat}
theorem fold_set (off : Nat) : ∀ (l : List Value) (k : Nat) (cells : Array Value),
  let out := (l.zipIdx k).foldl (fun cs (c, j) => cs.setIfInBounds (off + j) c) cells
  out.size = cells.size ∧ ∀ i, i < cells.size → out[i]? = if off + k ≤ i ∧ i < off + k + l.length then l[i - (off + k)]? else cells[i]?
 | [], k, cells => ⟨rfl, fun i _ => by rw [if_neg (by simp only [List.length_nil]; omega)]; rfl⟩
 | v :: l, k, cells => by
  obtain ⟨h1, h2⟩ := fold_set off l (k + 1) (cells.setIfInBounds (off + k) v)
  refine ⟨by simpa using h1, fun i hi => ?_⟩
  have h3 := h2 i (by simpa using hi)
  simp only [List.zipIdx_cons, List.foldl_cons]
  rw [h3]
  by_cases e : off + (k + 1) ≤ i ∧ i < off + (k + 1) + l.length
  ·rw [if_pos e, if_pos (by simp only [List.length_cons]; omega)]
   rw [show i - (off + k) = (i - (off + (k + 1))) + 1 by omega, List.getElem?_cons_succ]
  ·rw [if_neg e]
   by_cases e2 : i = off + k
   ·subst e2; simp [hi]
   ·rw [if_neg (by simp only [List.length_cons]; omega), Array.getElem?_setIfInBounds, if_neg (Ne.symm e2)]
theorem fill_one {off : Nat} {v cells : Array Value} (_h : off + v.size ≤ cells.size) :
  let out := v.zipIdx.foldl (fun cs (c, j) => cs.setIfInBounds (off + j) c) cells
  out.size = cells.size ∧ ∀ i, i < cells.size → out[i]? = if off ≤ i ∧ i < off + v.size then v[i - off]? else cells[i]? := by
 have := fold_set off v.toList 0 cells
 simp only [Nat.add_zero, Array.length_toList, Array.getElem?_toList] at this
 have e : v.zipIdx.foldl (fun cs (c, j) => cs.setIfInBounds (off + j) c) cells = (v.toList.zipIdx 0).foldl (fun cs (c, j) => cs.setIfInBounds (off + j) c) cells := by
  rw [← Array.foldl_toList, Array.toList_zipIdx]
 simp only [e]; exact this
theorem fill_ok {I : Inj} {pl : Nat → Option (Nat × Nat)} : ∀ {l : List (Nat × HV)} {lv : List (Nat × Value)} {cs out : List HV} {cells : Array Value}, fillD pl cs l = some out →
  VRs I cs cells.toList → (∀ v ∈ cells.toList, v.oneCell' = true) → lv.length = l.length → (∀ (i : Nat) (x : Nat × HV) (y : Nat × Value), l[i]? = some x → lv[i]? = some y → x.1 = y.1 ∧ VR I x.2 y.2 ∧ ∀ l, x.2 ≠ .tup l) →
  ∃ oc, Instr.fill pl cells lv = some oc ∧ VRs I out oc.toList ∧ ∀ v ∈ oc.toList, v.oneCell' = true
 | [], lv, cs, out, cells, h, hc, h1, hl, _ => by
  have : lv = [] := by simpa using hl
  subst this
  simp [fillD] at h; subst h
  exact ⟨cells, rfl, hc, h1⟩
 | (i, x) :: l, lv, cs, out, cells, h, hc, h1, hl, hr => by
  cases lv with
  | nil => simp at hl
  | cons y lv =>
   obtain ⟨i', y⟩ := y
   obtain ⟨hi, hxy, hnt⟩ := hr 0 (i, x) (i', y) rfl rfl
   simp only at hi hxy hnt; subst hi
   obtain ⟨c1, c2⟩ := hxy.cells hnt
   simp only [fillD] at h
   split at h
   ·cases h
   ·rename_i off sz hp
    split at h
    ·rename_i hb
     simp only [Bool.and_eq_true] at hb
     have b1 : x.cs.length = sz := Nat.eq_of_beq_eq_true hb.1
     have b2 : off + sz ≤ cs.length := Nat.le_of_ble_eq_true hb.2
     have l1 := c1.length
     have l2 := hc.length
     rw [Array.length_toList] at l1 l2
     have hfit : off + y.cells.size ≤ cells.size := by omega
     obtain ⟨f1, f2⟩ := fill_one hfit
     have hput : off + x.cs.length ≤ cs.length := by omega
     obtain ⟨oc, o1, o2, o3⟩ := fill_ok (I := I) (pl := pl) (l := l) (lv := lv) (cells := y.cells.zipIdx.foldl (fun cs (c, j) => cs.setIfInBounds (off + j) c) cells) h (by
       refine VRs.of_get (by rw [Array.length_toList, f1, putN_length hput]; omega) fun j p q q1 q2 => ?_
       rw [Array.getElem?_toList] at q2
       have hj : j < cells.size := by have := (Array.getElem?_eq_some_iff.1 q2).1; omega
       rw [f2 j hj] at q2
       rw [putN_get hput] at q1
       by_cases hin : off ≤ j ∧ j < off + x.cs.length
       ·rw [if_pos hin] at q1; rw [if_pos (by omega)] at q2
        obtain ⟨u, u1, u2⟩ := c1.get q1
        rw [Array.getElem?_toList, q2] at u1; cases u1; exact u2
       ·rw [if_neg hin] at q1; rw [if_neg (by omega)] at q2
        obtain ⟨u, u1, u2⟩ := hc.get q1
        rw [Array.getElem?_toList, q2] at u1; cases u1; exact u2) (by
       intro v hv
       rw [Array.mem_toList_iff] at hv
       obtain ⟨j, hj, hjv⟩ := Array.getElem_of_mem hv
       have q2 := Array.getElem?_eq_getElem hj
       rw [hjv, f2 j (by omega)] at q2
       split at q2
       ·exact c2 v (by rw [Array.mem_toList_iff]; exact Array.mem_of_getElem? q2)
       ·exact h1 v (by rw [Array.mem_toList_iff]; exact Array.mem_of_getElem? q2)) (by simpa using hl) (fun j p q q1 q2 => hr (j + 1) p q (by simpa using q1) (by simpa using q2))
     refine ⟨oc, ?_, o2, o3⟩
     simp only [Instr.fill, hp]
     rw [if_neg (by simp; omega)]
     exact o1
    ·cases h
theorem parts_ok (hI : Inv E P I0 H0 w0 nt β I H w S a) : ∀ {ps : List (Nat × Operand)} {l : List (Nat × HV)}, partsD E S ps = some l →
  (ps.map fun p => (p.1, a.eval p.2)).length = l.length ∧ ∀ (i : Nat) (x : Nat × HV) (y : Nat × Value), l[i]? = some x → (ps.map fun p => (p.1, a.eval p.2))[i]? = some y → x.1 = y.1 ∧ VR I x.2 y.2 ∧ ∀ l, x.2 ≠ .tup l
 | [], l, h => by simp [partsD] at h; subst h; simp
 | (i, x) :: ps, l, h => by
  simp only [partsD] at h
  split at h
  ·cases h
  ·rename_i _ _ hv lt hnt e1 e2
   cases h
   obtain ⟨r1, r2⟩ := parts_ok hI e2
   refine ⟨by simpa using r1, fun j p q q1 q2 => ?_⟩
   cases j with
   | zero =>
    simp at q1 q2; subst q1; subst q2
    exact ⟨rfl, hI.evv e1, fun l hl => by subst hl; first | exact hnt _ e1 | exact hnt _ rfl⟩
   | succ j => exact r2 j p q (by simpa using q1) (by simpa using q2)
  ·cases h
theorem run_places (fs : List Field) (h : fs.all (fun f => (P.info? f.type).isSome) = true) (w : World) :
  (fs.mapM fun f => (do pure (f.offset, ← sizeOf f.type) : Sem (Nat × Nat))).run P w = .ok (fs.map fun f => (f.offset, sizeT P f.type)) w := by
 induction fs with
 | nil => simp
 | cons f fs ih =>
  simp only [List.all_cons, Bool.and_eq_true] at h
  obtain ⟨i, hi⟩ := Option.isSome_iff_exists.1 h.1
  simp only [List.mapM_cons, Sem.run_bind, run_sizeT hi, Result.andThen_ok, Sem.run_pure, List.map_cons]
  rw [ih h.2]; rfl
def LensOk (pl : Nat → Option (Nat × Nat)) (l : List (Nat × HV)) : Prop := ∀ p ∈ l, ∃ off sz, pl p.1 = some (off, sz) ∧ Nat.beq p.2.cs.length sz = true
theorem gdLens_some {α : Type} {pl : Nat → Option (Nat × Nat)} {m : M α} {H : Heap} {n : Nat} {r : α × Heap} : ∀ {l : List (Nat × HV)}, gdLens pl l m H n = some r → LensOk pl l ∧ app m H n = some r
 | [], h => ⟨fun p hp => (by cases hp), h⟩
 | (i, v) :: l, h => by
  unfold gdLens at h
  cases hp : pl i with
  | none => rw [hp] at h; exact (stk_some (H := H) (n := n) (r := r) h).elim
  | some x =>
   obtain ⟨off, sz⟩ := x
   rw [hp] at h
   obtain ⟨h1, h2⟩ := gd_some h
   obtain ⟨h3, h4⟩ := gdLens_some h2
   refine ⟨fun p hq => ?_, h4⟩
   rcases List.mem_cons.1 hq with rfl | hq
   ·exact ⟨off, sz, hp, h1⟩
   ·exact h3 p hq
theorem gdLens_eq {α : Type} {pl : Nat → Option (Nat × Nat)} {m : M α} {H : Heap} {n : Nat} : ∀ {l : List (Nat × HV)}, LensOk pl l → gdLens pl l m H n = m H n
 | [], _ => rfl
 | (i, v) :: l, h => by
  obtain ⟨off, sz, h1, h2⟩ := h (i, v) List.mem_cons_self
  unfold gdLens
  simp only at h1 h2
  rw [h1]
  simp only
  rw [h2]
  exact gdLens_eq fun p hp => h p (List.mem_cons_of_mem _ hp)
theorem fillP_D {pl : Nat → Option (Nat × Nat)} {tot : Nat} : ∀ {l : List (Nat × HV)} {cs out : List HV}, LensOk pl l → cs.length = tot → fillP pl tot cs l = some out → fillD pl cs l = some out
 | [], cs, out, _, _, h => by simpa [fillP, fillD] using h
 | (i, v) :: l, cs, out, hl, ht, h => by
  obtain ⟨off, sz, h1, h2⟩ := hl (i, v) List.mem_cons_self
  simp only at h1 h2
  unfold fillP at h
  unfold fillD
  rw [h1] at h ⊢
  simp only at h ⊢
  have e2 := Nat.eq_of_beq_eq_true h2
  split at h
  ·rename_i hb
   have hle := Nat.le_of_ble_eq_true hb
   rw [h2, ht, hb]
   exact fillP_D (fun p hp => hl p (List.mem_cons_of_mem _ hp)) (by rw [putN_length (by omega)]; exact ht) h
  ·cases h
theorem build_st_ok {t : TypeId} {ps : Array (Nat × Operand)} {fs : Array Field} {z : List HV} {l : List (Nat × HV)} {cs : List HV} (hI : Inv E P I0 H0 w0 nt β I H w S a) (hu : P.underlying t = some (.struct fs)) (hz : zeroCells? P t = some z)
  (hp : partsD E S ps.toList = some l) (hall : fs.toList.all (fun f => (P.info? f.type).isSome) = true) (hf : fillP (fieldPl P fs) z.length z l = some cs) (h : app (gdLens (fieldPl P fs) l (K (.v (.agg cs)) S)) H n = some r) (ho : o.op = .build t ps)
  (hk : Kont E P I0 H0 w0 nt K n r a o.dst next) : o.wpIn (FW ro) 0 P a w next Q := by
 obtain ⟨hlens, h⟩ := gdLens_some h
 replace hf := fillP_D hlens rfl hf
 obtain ⟨i, zv, hi, hzv, hzr, hz1⟩ := zeroCells_some hz
 obtain ⟨p1, p2⟩ := parts_ok hI hp
 have hpl : fieldPl P fs = fun i => (fs.map fun f => (f.offset, sizeT P f.type))[i]? := by
  funext j; simp only [fieldPl]; cases e : fs[j]? <;> simp [e]
 rw [hpl] at hf
 obtain ⟨oc, o1, o2, o3⟩ := fill_ok hf (hzr I) hz1 p1 p2
 have hpt : (ps.map fun (i, x) => (i, a.eval x)).toList = ps.toList.map fun p => (p.1, a.eval p.2) := by simp
 have hm : (fs.mapM fun f => (do pure (f.offset, ← sizeOf f.type) : Sem (Nat × Nat))).run P w = .ok (fs.map fun f => (f.offset, sizeT P f.type)) w := by
  have := run_places fs.toList hall w
  rw [Array.mapM_eq_mapM_toList]
  simp only [Sem.run_map, this, Result.andThen_ok]
  congr 1
  apply Array.ext'; simp
 have hrun : (Instr.build t (ps.map fun (i, x) => (i, a.eval x))).run P w = .ok (.agg oc) w := by
  unfold Instr.build
  simp only [Sem.run_bind, zeroValue, typeInfo, run_program, Result.andThen_ok, hi, hzv, Sem.run_pure, run_underlying hu, hm, hpt, o1]
 have hag := VR.agg (l := oc.toList) o2 o3
 simp only [Array.toArray_toList] at hag
 exact wp_value (v := .agg oc) (w' := w) (by simp only [execOp, ho, Sem.run_bind, hrun, Result.andThen_ok, Sem.run_pure]) (hk _ _ _ _ _ _ _ h hI hag)
theorem build_ar_ok {t e : TypeId} {m : Nat} {ps : Array (Nat × Operand)} {z : List HV} {l : List (Nat × HV)} {cs : List HV} (hI : Inv E P I0 H0 w0 nt β I H w S a) (hu : P.underlying t = some (.array m e)) (hz : zeroCells? P t = some z)
  (hp : partsD E S ps.toList = some l) (hie : (P.info? e).isSome = true) (hf : fillP (fun i => some (i * sizeT P e, sizeT P e)) z.length z l = some cs) (h : app (gdLens (fun i => some (i * sizeT P e, sizeT P e)) l (K (.v (.agg cs)) S)) H n = some r) (ho : o.op = .build t ps)
  (hk : Kont E P I0 H0 w0 nt K n r a o.dst next) : o.wpIn (FW ro) 0 P a w next Q := by
 obtain ⟨hlens, h⟩ := gdLens_some h
 replace hf := fillP_D hlens rfl hf
 obtain ⟨i, zv, hi, hzv, hzr, hz1⟩ := zeroCells_some hz
 obtain ⟨p1, p2⟩ := parts_ok hI hp
 obtain ⟨oc, o1, o2, o3⟩ := fill_ok hf (hzr I) hz1 p1 p2
 obtain ⟨ie, hie⟩ := Option.isSome_iff_exists.1 hie
 have hpt : (ps.map fun (i, x) => (i, a.eval x)).toList = ps.toList.map fun p => (p.1, a.eval p.2) := by simp
 have hrun : (Instr.build t (ps.map fun (i, x) => (i, a.eval x))).run P w = .ok (.agg oc) w := by
  unfold Instr.build
  simp only [Sem.run_bind, zeroValue, typeInfo, run_program, Result.andThen_ok, hi, hzv, Sem.run_pure, run_underlying hu, run_sizeT hie, hpt, o1]
 have hag := VR.agg (l := oc.toList) o2 o3
 simp only [Array.toArray_toList] at hag
 exact wp_value (v := .agg oc) (w' := w) (by simp only [execOp, ho, Sem.run_bind, hrun, Result.andThen_ok, Sem.run_pure]) (hk _ _ _ _ _ _ _ h hI hag)
theorem buildSlice_ok {esc : Nat → Bool} {t e : TypeId} {m : Nat} {ps : Array (Nat × Operand)} {z : List HV} {l : List (Nat × HV)} {cs : List HV} (hI : Inv E P I0 H0 w0 nt β I H w S a) (hu : P.underlying t = some (.slice e)) (hz : zeroCells? P e = some z)
    (hp : partsD E S ps.toList = some l) (hf : fillD (fun i => some (i * sizeT P e, sizeT P e)) (repL m z) l = some cs)
    (h : app (match Nat.ble (m * sizeT P e) 16777216 && Nat.beq z.length (sizeT P e), o.dst with
          | true, some d => match esc d with
            | true => nw cs fun b => K (.v (.sl ⟨some (b, 0), m, m, none⟩)) S
            | false => match S.B.get d with
              | some _ => stk
              | none => K (.lsl d m) { S with B := .set d cs S.B }
          | _, _ => stk) H n = some r) (ho : o.op = .buildSlice t m ps)
    (hk : Kont E P I0 H0 w0 nt K n r a o.dst next) : o.wpIn (FW ro) 0 P a w next Q := by
  obtain ⟨i, zv, hi, hzv, hzr, hz1⟩ := zeroCells_some hz
  obtain ⟨p1, p2⟩ := parts_ok hI hp
  have hzl := (hzr I).length
  rw [Array.length_toList] at hzl
  have hmade := made_VRs (I := I) (hzr I) hzl.symm hz1 m
  split at h
  · rename_i d hb hd
    simp only [Bool.and_eq_true] at hb
    have b1 : m * sizeT P e ≤ 16777216 := Nat.le_of_ble_eq_true hb.1
    have b2 : z.length = sizeT P e := Nat.eq_of_beq_eq_true hb.2
    obtain ⟨oc, o1, o2, o3⟩ := fill_ok hf hmade.1 hmade.2 p1 p2
    have hpt : (ps.map fun (i, x) => (i, a.eval x)).toList = ps.toList.map fun p => (p.1, a.eval p.2) := by simp
    rw [hzl, b2] at o1
    have hrun : (Instr.buildSlice t m (ps.map fun (i, x) => (i, a.eval x))).run P w = .ok (.slice (some ⟨w.heap.size, 0, none⟩) m m) (w.alloc (.cells oc e)) := by
      unfold Instr.buildSlice
      have hn : ¬ (m * sizeT P e > 2 ^ 24) := by omega
      simp only [Sem.run_bind, run_underlying hu, Result.andThen_ok, run_sizeT hi, if_neg hn, Sem.run_ite, Sem.run_pure]
      by_cases h0 : m * sizeT P e = 0
      · have hma : (Array.range (m * sizeT P e)).map (fun x => (#[] : Array Value)[x % (#[] : Array Value).size]!) = madeCells zv.cells (m * sizeT P e) := by
          unfold madeCells; rw [h0]; have h00 : Array.range 0 = #[] := by simp
          rw [h00, Array.map_empty, Array.map_empty]
        rw [if_pos h0]
        simp only [Result.andThen_ok, hma, hpt, o1, newRow, Sem.run_bind, run_newObj, Sem.run_pure]
        rfl
      · rw [if_neg h0]
        simp only [zeroValue, typeInfo, Sem.run_bind, run_program, Result.andThen_ok, hi, hzv, Sem.run_pure]
        have hma : (Array.range (m * sizeT P e)).map (fun x => zv.cells[x % zv.cells.size]!) = madeCells zv.cells (m * sizeT P e) := rfl
        simp only [hma, hpt, o1, newRow, Sem.run_bind, run_newObj, Sem.run_pure, Result.andThen_ok]
        rfl
    have hex : (execOp a.eval o).run P w = .ok (.value (.slice (some ⟨w.heap.size, 0, none⟩) m m)) (w.alloc (.cells oc e)) := by
      simp only [execOp, ho, Sem.run_bind, hrun, Result.andThen_ok, Sem.run_pure]
    split at h
    · replace h := nw_app h
      refine wp_value hex (hk _ _ _ _ _ _ _ h (hI.heapnew e o2 o3) ?_)
      exact VR.sl (b := H.n) (b' := w.heap.size) (d := 0) (o := 0) (up_j I H.n _ _) (Nat.le_refl _) (fun _ => rfl) (fun es hes => by cases hes)
    · split at h
      · exact (stk_some h).elim
      · rename_i hdn
        refine wp_value hex (hk _ _ _ _ _ _ _ h (hI.boxnew e hdn o2 o3) ?_)
        exact ⟨by rw [Bx.get_set]; simp, w.heap.size, by simp, rfl⟩
  · exact (stk_some h).elim
theorem run_bound {k : IntKind} {i : Int} {y : Nat} {code : BoundsCode} (h0 : 0 ≤ i) (h1 : i ≤ y) (w : World) : (Instr.sliceBound (.int k i) y code).run P w = .ok i.toNat w := by
 simp [Instr.sliceBound, asIntOf, h0, h1]
theorem run_bounds {isS : Bool} {len cap : Nat} {lo hi mx : Option Value} {l h m : Int} (hl : (lo = none ∧ l = 0) ∨ ∃ k, lo = some (.int k l)) (hh : (hi = none ∧ h = len) ∨ ∃ k, hi = some (.int k h)) (hm : (mx = none ∧ m = cap) ∨ ((∃ k, mx = some (.int k m)) ∧ hi ≠ none))
  (g0 : 0 ≤ l) (g1 : l ≤ h) (g2 : h ≤ m) (g3 : m ≤ (cap : Int)) (w : World) : (Instr.sliceBounds isS len cap lo hi mx).run P w = .ok (l.toNat, h.toNat, m.toNat) w := by
 have e1 : (m.toNat : Int) = m := by omega
 have e2 : (h.toNat : Int) = h := by omega
 rcases hm with ⟨rfl, rfl⟩ | ⟨⟨km, rfl⟩, hne⟩
 ·rcases hh with ⟨rfl, rfl⟩ | ⟨kh, rfl⟩
  ·rcases hl with ⟨rfl, rfl⟩ | ⟨kl, rfl⟩
   ·simp [Instr.sliceBounds]
   ·simp [Instr.sliceBounds, run_bound (P := P) (k := kl) g0 g1]
  ·rcases hl with ⟨rfl, rfl⟩ | ⟨kl, rfl⟩
   ·simp [Instr.sliceBounds, run_bound (P := P) (k := kh) (by omega : 0 ≤ h) g2]
   ·simp [Instr.sliceBounds, run_bound (P := P) (k := kh) (by omega : 0 ≤ h) g2, run_bound (P := P) (k := kl) (y := h.toNat) g0 (by omega)]
 ·rcases hh with ⟨rfl, rfl⟩ | ⟨kh, rfl⟩
  ·exact absurd rfl hne
  ·rcases hl with ⟨rfl, rfl⟩ | ⟨kl, rfl⟩
   ·simp [Instr.sliceBounds, run_bound (P := P) (k := km) (by omega : 0 ≤ m) g3, run_bound (P := P) (k := kh) (y := m.toNat) (by omega : 0 ≤ h) (by omega)]
   ·simp [Instr.sliceBounds, run_bound (P := P) (k := km) (by omega : 0 ≤ m) g3, run_bound (P := P) (k := kh) (y := m.toNat) (by omega : 0 ≤ h) (by omega), run_bound (P := P) (k := kl) (y := h.toNat) g0 (by omega)]
end
end Go.Proofs.YtbphjihgbenkdaaGreat.HQ
