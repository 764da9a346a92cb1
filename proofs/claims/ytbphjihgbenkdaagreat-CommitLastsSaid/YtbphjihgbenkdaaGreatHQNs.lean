/- Lemmas for the row. Conditions: none. -/
import Derived.Test.YtbphjihgbenkdaaGreatHQN
import Derived.Test.YtbphjihgbenkdaaGreatHQCs
import Derived.Lib.UnsafeStr
namespace Go.Proofs.YtbphjihgbenkdaaGreat.HQ
set_option linter.unusedVariables false
set_option linter.unusedSectionVars false
set_option linter.unusedSimpArgs false
open Go
set_option linter.unusedSectionVars false
variable [Sites]
theorem lkM_some {α : Type} {b : Nat} {s : ByteArray} {f : Option HV → M α} {H : Heap} {n : Nat} {r : α × Heap} (h : lkM b s f H n = some r) : ∃ es q, H.get b = .spc (.map es) ∧ lkS es s = some q ∧ app (f q) H n = some r := by
 unfold lkM at h; split at h
 ·split at h
  ·exact ⟨_, _, by assumption, by assumption, h⟩
  ·cases h
 ·cases h
theorem puM_some {α : Type} {b : Nat} {s : ByteArray} {v : HV} {m : M α} {H : Heap} {n : Nat} {r : α × Heap} (h : puM b s v m H n = some r) : ∃ es es', H.get b = .spc (.map es) ∧ puS es s v = some es' ∧ app m (H.set b (.spc (.map es'))) n = some r := by
 unfold puM at h; split at h
 ·split at h
  ·exact ⟨_, _, by assumption, by assumption, h⟩
  ·cases h
 ·cases h
theorem nxM_some {α : Type} {b : Nat} {f : Nat → Nat → M α} {m : M α} {H : Heap} {n : Nat} {r : α × Heap} (h : nxM b f m H n = some r) : ∃ s pos, H.get b = .spc (.iter s pos) ∧
  ((pos < s.size ∧ app (f pos (Utf8.decode s pos).1) (H.set b (.spc (.iter s (pos + (Utf8.decode s pos).2)))) n = some r) ∨ (¬ pos < s.size ∧ app m H n = some r)) := by
 unfold nxM at h; split at h
 ·rename_i s pos hg
  refine ⟨s, pos, hg, ?_⟩
  split at h
  ·rename_i hd; exact .inl ⟨of_decide_eq_true hd, h⟩
  ·rename_i hd; exact .inr ⟨of_decide_eq_false hd, h⟩
 ·cases h
theorem mpP_some {α : Type} {b : Option Nat} {f : Nat → M α} {H : Heap} {n : Nat} {r : α × Heap} (h : mpP b f H n = some r) : ∃ c, b = some c ∧ app (f c) H n = some r := by
 cases b with
 | none => exact (stk_some (H := H) (n := n) (r := r) h).elim
 | some c => exact ⟨c, rfl, h⟩
theorem ERel.cons {I : Inj} {k v : HV} {es : List (HV × HV)} {l : List MapEntry} (h : ERel I ((k, v) :: es) l) : ∃ e l', l = e :: l' ∧ VR I k e.key ∧ VR I v e.val ∧ ERel I es l' := by
 obtain ⟨h1, h2⟩ := h
 cases l with
 | nil => simp only [List.map_cons, List.map_nil] at h1; cases h1
 | cons e l =>
  simp only [List.map_cons] at h1 h2
  cases h1 with | cons a b => cases h2 with | cons c d => exact ⟨e, l, rfl, a, c, b, d⟩
theorem str_of {I : Inj} {s : ByteArray} {v : Value} (h : VR I (.str s) v) : v = .string s := by cases h; rfl
theorem ba_beq (s k : ByteArray) : (s == k) = decide (s = k) := by
 cases s with | mk a => cases k with | mk b =>
  show (a == b) = _
  by_cases h : a = b
  ·subst h; simp
  ·rw [decide_eq_false (by simpa using h)]; simpa using h
theorem ba_self (s : ByteArray) : (s == s) = true := by rw [ba_beq]; simp
theorem find_ok {I : Inj} {s : ByteArray} : ∀ {es : List (HV × HV)} {l : List MapEntry} {i : Nat} {r : Option HV}, ERel I es l → lkS es s = some r →
  (r = none ∧ Instr.findNow .string (.string s) l i = some none) ∨ (∃ hv j v, r = some hv ∧ Instr.findNow .string (.string s) l i = some (some (j, v)) ∧ VR I hv v)
 | [], l, i, r, h, e => by
  simp only [lkS, Option.some.injEq] at e
  have : l = [] := by
   have := h.1.length
   simpa using this
  subst this
  exact .inl ⟨e.symm, rfl⟩
 | (k, v) :: es, l, i, r, h, e => by
  obtain ⟨x, l', rfl, h1, h2, h3⟩ := h.cons
  obtain ⟨xk, xv, xb⟩ := x
  simp only at h1 h2
  cases k with
  | str k =>
   cases h1
   simp only [lkS] at e
   split at e
   ·rename_i hd
    have := of_decide_eq_true hd
    subst this
    cases e
    exact .inr ⟨v, i, xv, rfl, by simp [Instr.findNow, Instr.sameNow, ba_self], h2⟩
   ·rename_i hd
    have hne := of_decide_eq_false hd
    have hb : (s == k) = false := by rw [ba_beq]; exact hd
    rcases find_ok (i := i + 1) h3 e with ⟨a, b⟩ | ⟨hv, j, u, a, b, c⟩
    ·exact .inl ⟨a, by simp [Instr.findNow, Instr.sameNow, hb, b]⟩
    ·exact .inr ⟨hv, j, u, a, by simp [Instr.findNow, Instr.sameNow, hb, b], c⟩
  | _ => simp [lkS] at e
theorem put_ok {I : Inj} {s : ByteArray} {hv : HV} {v : Value} (hvv : VR I hv v) : ∀ {es es' : List (HV × HV)} {l : List MapEntry} {i : Nat}, ERel I es l → puS es s hv = some es' →
  (Instr.findNow .string (.string s) l i = some none ∧ ∀ born, ERel I es' (l ++ [{ key := .string s, val := v, born }])) ∨
  (∃ j u e, Instr.findNow .string (.string s) l i = some (some (i + j, u)) ∧ l[j]? = some e ∧ e.key = .string s ∧ ERel I es' (l.modify j fun e => { e with key := .string s, val := v }))
 | [], es', l, i, h, e => by
  simp only [puS, Option.some.injEq] at e
  have : l = [] := by
   have := h.1.length
   simpa using this
  subst this; subst e
  exact .inl ⟨rfl, fun born => ⟨.cons (.str s) .nil, .cons hvv .nil⟩⟩
 | (k, w) :: es, es', l, i, h, e => by
  obtain ⟨x, l', rfl, h1, h2, h3⟩ := h.cons
  obtain ⟨xk, xv, xb⟩ := x
  simp only at h1 h2
  cases k with
  | str k =>
   cases h1
   simp only [puS] at e
   split at e
   ·rename_i hd
    have := of_decide_eq_true hd
    subst this
    cases e
    exact .inr ⟨0, xv, ⟨_, xv, xb⟩, by simp [Instr.findNow, Instr.sameNow, ba_self], rfl, rfl, .cons (.str s) h3.1, .cons hvv h3.2⟩
   ·rename_i hd
    have hne := of_decide_eq_false hd
    have hb : (s == k) = false := by rw [ba_beq]; exact hd
    split at e
    ·rename_i r' hr
     cases e
     rcases put_ok hvv (i := i + 1) h3 hr with ⟨a, b⟩ | ⟨j, u, y, a, b, c, d⟩
     ·exact .inl ⟨by simp [Instr.findNow, Instr.sameNow, hb, a], fun born => ⟨.cons (.str _) (b born).1, .cons h2 (b born).2⟩⟩
     ·exact .inr ⟨j + 1, u, y, by simp [Instr.findNow, Instr.sameNow, hb, a]; omega, by simpa using b, c, .cons (.str _) d.1, .cons h2 d.2⟩
    ·cases e
  | _ => simp [puS] at e
section
variable {E : Env} {P : Program} {I0 : Inj} {H0 : Heap} {w0 : World} {nt : Cx} {β : Nat → Option Nat} {I : Inj} {H : Heap} {w : World} {S : St} {a : Act}
variable {K : SV → St → M Leaf} {n : Nat} {r : Leaf × Heap} {next : Act → World → Prop} {Q : Exit → Act → World → Prop} {o : Oper} {ro : Option Nat}
theorem map_of {b : Nat} {v : Value} (h : VR I (.mp (some b)) v) : ∃ b', v = .map (some b') ∧ I.j b = some (b', 0) := by cases h; exact ⟨_, rfl, by assumption⟩
theorem Rel.map (h : Rel I H w) {b b' : Nat} {es : List (HV × HV)} (hj : I.j b = some (b', 0)) (hg : H.get b = .spc (.map es)) : ∃ l clock, w.heap[b']? = some (.map l clock) ∧ ERel I es l.toList := by
 obtain ⟨_, o, ho, hs⟩ := h.spc b b' 0 _ hj hg
 cases o <;> simp only [SRel] at hs
 exact ⟨_, _, ho, hs⟩
theorem Rel.iter (h : Rel I H w) {b b' : Nat} {s : ByteArray} {pos : Nat} (hj : I.j b = some (b', 0)) (hg : H.get b = .spc (.iter s pos)) : w.heap[b']? = some (.stringIter s pos) := by
 obtain ⟨_, o, ho, hs⟩ := h.spc b b' 0 _ hj hg
 cases o <;> simp only [SRel] at hs
 rw [ho, hs.1, hs.2]
theorem zeroV_some {t : TypeId} {h : HV} (e : zeroV? P t = some h) : ∃ i z, P.info? t = some i ∧ i.zero = some z ∧ VR I h z := by
 unfold zeroV? at e
 split at e
 ·split at e
  ·exact ⟨_, _, by assumption, by assumption, (ofS_VR e).1⟩
  ·cases e
 ·cases e
theorem run_getMap {x : Nat} {l : Array MapEntry} {k : Nat} (h : w.heap[x]? = some (.map l k)) : (getObj x).run P w = .ok (.map l k) w := by simp [getObj, Sem.run, h]
theorem run_setMap {x : Nat} {l : Array MapEntry} {k : Nat} (ob2 : Obj) (h : w.heap[x]? = some (.map l k)) : (setObj x ob2).run P w = .ok () (w.putObj x ob2) := by simp [setObj, Sem.run, World.putObj, h]
theorem run_getIter {x : Nat} {l : ByteArray} {k : Nat} (h : w.heap[x]? = some (.stringIter l k)) : (getObj x).run P w = .ok (.stringIter l k) w := by simp [getObj, Sem.run, h]
theorem run_setIter {x : Nat} {l : ByteArray} {k : Nat} (ob2 : Obj) (h : w.heap[x]? = some (.stringIter l k)) : (setObj x ob2).run P w = .ok () (w.putObj x ob2) := by simp [setObj, Sem.run, World.putObj, h]
theorem key_ok' {kt : TypeId} (hu : P.underlying kt = some .string) (b : Bool) (s : ByteArray) (n : Nat) (w : World) : (Instr.checkKey b (n + 1) kt (.string s)).run P w = .ok () w := by
 simp [Instr.checkKey, run_underlying hu]
theorem key_ok {kt : TypeId} (hu : P.underlying kt = some .string) (b : Bool) (s : ByteArray) (w : World) : (Instr.checkKey b 10000 kt (.string s)).run P w = .ok () w := key_ok' hu b s 9999 w
theorem spc_ok (hI : Inv E P I0 H0 w0 nt β I H w S a) (h : spcD E P o S K H n = some r) (hk : Kont E P I0 H0 w0 nt K n r a o.dst next) : o.wpIn (FW ro) 0 P a w next Q := by
 replace h : app (spcD E P o S K) H n = some r := h
 unfold spcD at h
 split at h
 case h_1 t ho =>
  refine wp_value (v := .map (some w.heap.size)) (w' := w.alloc (.map #[] 0)) (by simp [execOp, ho, Instr.makeMap]) ?_
  exact hk _ _ _ _ _ _ _ h (hI.heapput (Step.newS hI.rel (.map []) (.map #[] 0)) (hI.rel.newS (s := .map []) (o := .map #[] 0) ⟨.nil, .nil⟩)) (VR.mp (by simp [Inj.mv]))
 case h_2 t m k ok ho =>
  split at h
  ·rename_i kt et b s hu em ek
   split at h
   ·rename_i z hkt hz
    obtain ⟨b, rfl, h⟩ := mpP_some h
    obtain ⟨es, q, hg, hq, h⟩ := lkM_some h
    have h := Sh1.d_some h
    obtain ⟨b', hm, hj⟩ := map_of (hI.evv em)
    have hs := str_of (hI.evv ek)
    obtain ⟨l, clock, hl, hE⟩ := hI.rel.map hj hg
    obtain ⟨i, zv, hi, hzv, hzz⟩ := zeroV_some hz
    have hfind : ∃ v, (Instr.lookup t (.map (some b')) (.string s) ok).run P w = .ok (if ok then .tuple #[v, .bool q.isSome] else v) w ∧ VR I (q.getD z) v := by
     rcases find_ok (i := 0) hE hq with ⟨rfl, hf⟩ | ⟨hv, j, v, rfl, hf, hv2⟩
     ·exact ⟨zv, by simp [Instr.lookup, run_underlying hu, run_getMap hl, key_ok hkt, Instr.findKey, run_underlying hkt, hf, zeroValue, typeInfo, hi, hzv], hzz⟩
     ·exact ⟨v, by simp [Instr.lookup, run_underlying hu, run_getMap hl, key_ok hkt, Instr.findKey, run_underlying hkt, hf], hv2⟩
    obtain ⟨v, hr, hv⟩ := hfind
    cases ok with
    | true =>
     refine wp_value (v := .tuple #[v, .bool q.isSome]) (w' := w) (by simp [execOp, ho, hm, hs, hr]) (hk _ _ _ _ _ _ _ h hI ?_)
     exact VR.tup (.cons hv (.cons (.bool _) .nil))
    | false => exact wp_value (v := v) (w' := w) (by simp [execOp, ho, hm, hs, hr]) (hk _ _ _ _ _ _ _ h hI hv)
   ·exact (stk_some h).elim
  ·exact (stk_some h).elim
 case h_3 t m k x ho =>
  split at h
  ·rename_i kt et b s hx hu em ek ex
   split at h
   ·rename_i hkt
    obtain ⟨b, rfl, h⟩ := mpP_some h
    obtain ⟨es, es', hg, hq, h⟩ := puM_some h
    obtain ⟨b', hm, hj⟩ := map_of (hI.evv em)
    have hs := str_of (hI.evv ek)
    have hx := hI.evv ex
    obtain ⟨l, clock, hl, hE⟩ := hI.rel.map hj hg
    have hlt := lt_of_heap hl
    rcases put_ok hx (i := 0) hE hq with ⟨hf, hr⟩ | ⟨j, u, e, hf, hlj, hek, hr⟩
    ·refine wp_skip' (w' := w.putObj b' (.map (l.push { key := .string s, val := a.eval x, born := clock }) (clock + 1))) ?_ (hk _ _ _ _ _ _ _ h (hI.heapput (Step.setS hj hg _ _ fun r hr2 => by rw [hl] at hr2; cases hr2) (hI.rel.setS hj hg (s2 := .map es') (o2 := .map (l.push { key := .string s, val := a.eval x, born := clock }) (clock + 1)) (by simpa [SRel] using hr clock))) trivial)
     simp [execOp, ho, hm, hs, Instr.mapUpdate, run_underlying hu, run_getMap hl, run_setMap _ hl, key_ok hkt, Instr.findKey, run_underlying hkt, hf]
    ·refine wp_skip' (w' := w.putObj b' (.map (l.modify j fun e => { e with key := .string s, val := a.eval x }) clock)) ?_ (hk _ _ _ _ _ _ _ h (hI.heapput (Step.setS hj hg _ _ fun r hr2 => by rw [hl] at hr2; cases hr2) (hI.rel.setS hj hg (s2 := .map es') (o2 := .map (l.modify j fun e => { e with key := .string s, val := a.eval x }) clock) (by simpa [SRel, Array.toList_modify] using hr))) trivial)
     rw [Nat.zero_add] at hf
     rw [Array.getElem?_toList] at hlj
     simp [execOp, ho, hm, hs, Instr.mapUpdate, run_underlying hu, run_getMap hl, run_setMap _ hl, key_ok hkt, Instr.findKey, run_underlying hkt, hf, hlj, hek, Instr.keyThatStays, Instr.sameBits, ba_self]
   ·exact (stk_some h).elim
  ·exact (stk_some h).elim
 case h_4 t x ho =>
  split at h
  ·rename_i s hu ex
   have hs := str_of (hI.evv ex)
   refine wp_value (v := .pointer (some ⟨w.heap.size, 0, none⟩)) (w' := w.alloc (.stringIter s 0)) (by simp [execOp, ho, hs, Instr.range, run_underlying hu]) ?_
   exact hk _ _ _ _ _ _ _ h (hI.heapput (Step.newS hI.rel (.iter s 0) (.stringIter s 0)) (hI.rel.newS (s := .iter s 0) (o := .stringIter s 0) ⟨rfl, rfl⟩)) (VR.ptr (d := 0) (o := 0) (by simp [Inj.mv]))
  ·exact (stk_some h).elim
 case h_5 x ho =>
  split at h
  ·rename_i b ex
   obtain ⟨s, pos, hg, hc⟩ := nxM_some h
   have hx := hI.evv ex
   generalize hxv : a.eval x = v1 at hx
   cases hx with
   | @ptr _ _ b' d hj =>
    obtain ⟨hd, _⟩ := hI.rel.spc _ _ _ _ hj hg
    subst hd
    have hit := hI.rel.iter hj hg
    rcases hc with ⟨hlt, h⟩ | ⟨hge, h⟩
    ·refine wp_value (v := .tuple #[.bool true, .int .i64 pos, .int .i32 ((Utf8.decode s pos).1 : Int)]) (w' := w.putObj b' (.stringIter s (pos + (Utf8.decode s pos).2))) ?_ (hk _ _ _ _ _ _ _ h (hI.heapput (Step.setS hj hg _ _ fun r hr2 => by rw [hit] at hr2; cases hr2) (hI.rel.setS hj hg (s2 := .iter s _) (o2 := .stringIter s _) ⟨rfl, rfl⟩)) ?_)
     ·simp [execOp, ho, hxv, Instr.next, run_getIter hit, run_setIter _ hit, hlt, goInt]
     ·exact VR.tup (.cons (.bool _) (.cons (.int _ _) (.cons (.int _ _) .nil)))
    ·refine wp_value (v := .tuple #[.bool false]) (w' := w) ?_ (hk _ _ _ _ _ _ _ h hI (VR.tup (.cons (.bool _) .nil)))
     simp [execOp, ho, hxv, Instr.next, run_getIter hit, hge]
  ·exact (stk_some h).elim
 case h_6 => exact (stk_some h).elim
theorem arr1 {α : Type} {c : Array α} {x : α} (h0 : c[0]? = some x) (h1 : c[1]? = none) : c.toList = [x] := by
 have hs : c.size ≤ 1 := by simpa using h1
 obtain ⟨l⟩ := c
 simp at h0 h1 hs ⊢
 rcases l with _ | ⟨u, _ | ⟨v, l⟩⟩
 ·simp at h0
 ·simp at h0; simp [h0]
 ·simp at hs
theorem arr2' {α : Type} {c : Array α} {x y : α} (h0 : c[0]? = some x) (h1 : c[1]? = some y) (h2 : c[2]? = none) : c.toList = [x, y] := by
 have hs : c.size ≤ 2 := by simpa using h2
 obtain ⟨l⟩ := c
 simp at h0 h1 h2 hs ⊢
 rcases l with _ | ⟨u, _ | ⟨v, _ | ⟨z, l⟩⟩⟩
 ·simp at h0
 ·simp at h1
 ·simp at h0 h1; simp [h0, h1]
 ·simp at hs
theorem usd_ok {c : Call} {x : Operand} {s : Sl} (hI : Inv E P I0 H0 w0 nt β I H w S a) (ex : S.ev E x = .v (.sl s)) (g : (s.p.isNone || decide (0 < s.cap)) = true)
  (h : app (K (.v (.ptr s.p)) S) H n = some r) (ho : o.op = .call c) (hc : c.callee = .builtin .unsafeSliceData) (h0 : c.args[0]? = some x) (h1 : c.args[1]? = none)
  (hk : Kont E P I0 H0 w0 nt K n r a o.dst next) : o.wpIn (FW ro) 0 P a w next Q := by
 have hx := hI.evv ex
 have hl := arr1 h0 h1
 generalize hxv : a.eval x = v1 at hx
 have hargs : (c.args.map a.eval) = #[v1] := by
  apply Array.ext'; simp [hl, hxv]
 cases hx with
 | slN =>
  refine wp_value (v := .pointer none) (w' := w) ?_ (hk _ _ _ _ _ _ _ h hI VR.ptrN)
  simp [execOp, ho, resolve, hc, invoke, builtin, hargs, Lib.run_unsafeSliceData_nil]
 | sl hj w1 w2 w3 =>
  rename_i b oo len cap b' d cap' opn
  have hcap : cap' ≠ 0 := by
   simp at g; omega
  refine wp_value (v := .pointer (some ⟨b', d + oo, none⟩)) (w' := w) ?_ (hk _ _ _ _ _ _ _ h hI (VR.ptr hj))
  have hr := Lib.run_unsafeSliceData_row (P := P) (w := w) c.argTypes o.type ⟨b', d + oo, none⟩ len cap' hcap
  simp [execOp, ho, resolve, hc, invoke, builtin, hargs, hr]
 | slE => simp at g
 | slO => simp at g
theorem cap_ok {c : Call} {t e : TypeId} {x : Operand} {s : Sl} (hI : Inv E P I0 H0 w0 nt β I H w S a) (hu : P.underlying t = some (.slice e)) (ex : S.ev E x = .v (.sl s)) (g : s.opn.isNone = true)
  (h : app (K (.v (.int .i64 (s.cap : Int))) S) H n = some r) (ho : o.op = .call c) (hc : c.callee = .builtin .cap) (h0 : c.argTypes[0]? = some t) (h1 : c.args[0]? = some x)
  (hk : Kont E P I0 H0 w0 nt K n r a o.dst next) : o.wpIn (FW ro) 0 P a w next Q := by
 have hx := hI.evv ex
 generalize hxv : a.eval x = v1 at hx
 have hargs : (c.args.map a.eval)[0]? = some v1 := by simp [h1, hxv]
 have run : ∀ {m : Nat}, (Builtin.cap_ c.argTypes o.type (c.args.map a.eval)).run P w = .ok (goInt m) w → (execOp a.eval o).run P w = .ok (.value (.int .i64 m)) w := by
  intro m hm
  simp [execOp, ho, resolve, hc, invoke, builtin, hm, goInt]
 cases hx with
 | slN => exact wp_value (run (by simp [Builtin.cap_, h0, hargs, run_underlying hu])) (hk _ _ _ _ _ _ _ h hI (VR.int _ _))
 | sl hj w1 w2 w3 =>
  have := w2 (by simpa using g)
  subst this
  exact wp_value (run (by simp [Builtin.cap_, h0, hargs, run_underlying hu])) (hk _ _ _ _ _ _ _ h hI (VR.int _ _))
 | slE => exact wp_value (run (by simp [Builtin.cap_, h0, hargs, run_underlying hu])) (hk _ _ _ _ _ _ _ h hI (VR.int _ _))
 | slO => simp at g
theorem bytesU_vr : ∀ {vs : List HV} {l : List UInt8}, bytesU vs = some l → l.length = vs.length ∧ ∀ (j : Nat) (x : UInt8), l[j]? = some x → vs[j]? = some (.int .u8 (x.toNat : Int))
 | [], l, h => by simp only [bytesU, Option.some.injEq] at h; subst h; exact ⟨rfl, fun j x hx => by simp at hx⟩
 | v :: vs, l, h => by
  unfold bytesU at h
  split at h
  ·rename_i e; cases e
  ·rename_i n r e
   cases e
   split at h
   ·rename_i l' hb hr
    cases h
    obtain ⟨h1, h2⟩ := bytesU_vr hr
    simp only [Bool.and_eq_true, decide_eq_true_eq] at hb
    refine ⟨by simp [h1], fun j x hx => ?_⟩
    cases j with
    | zero =>
     simp only [List.getElem?_cons_zero, Option.some.injEq] at hx ⊢
     subst hx
     congr 1
     simp only [UInt8.toNat_ofNat']
     omega
    | succ j => simpa using h2 j x (by simpa using hx)
   ·cases h
  ·cases h
theorem tyM_some {α : Type} {b : Nat} {t : Nat × Option Nat} {m : M α} {H : Heap} {n : Nat} {r : α × Heap} (h : tyM b t m H n = some r) : H.ty b = some t ∧ app m H n = some r := by
 obtain ⟨h1, h2⟩ := gd_some h
 exact ⟨of_decide_eq_true h1, h2⟩
theorem usM_some {α : Type} {e : Nat} {p : Option (Nat × Nat)} {k : Int} {f : ByteArray → M α} {H : Heap} {n : Nat} {r : α × Heap} (h : usM e p k f H n = some r) :
  (k = 0 ∧ app (f .empty) H n = some r) ∨ (0 < k ∧ k ≤ 9223372036854775807 ∧ ∃ b cs l, p = some (b, 0) ∧ H.ty b = some (e, none) ∧ H.get b = .cells cs false ∧ bytesU (cs.take k.toNat) = some l ∧ l.length = k.toNat ∧ app (f ⟨l.toArray⟩) (H.set b .dead) n = some r) := by
 by_cases hk : k = 0
 ·subst hk; exact .inl ⟨rfl, h⟩
 ·unfold usM at h
  simp only [decide_eq_false hk] at h
  obtain ⟨g1, h⟩ := gd_some h
  simp only [Bool.and_eq_true, decide_eq_true_eq] at g1
  obtain ⟨b, o, hp, h⟩ := mP_some h
  obtain ⟨g2, h⟩ := gd_some h
  have g2 := of_decide_eq_true g2
  subst g2
  obtain ⟨g3, h⟩ := tyM_some h
  refine .inr ⟨g1.1, g1.2, b, ?_⟩
  simp only [app] at h
  split at h
  ·rename_i cs hg
   split at h
   ·rename_i l hl
    obtain ⟨g4, h⟩ := gd_some h
    exact ⟨cs, l, hp, g3, hg, hl, of_decide_eq_true g4, h⟩
   ·cases h
  ·cases h
theorem ust_ok {c : Call} {t e : TypeId} {x y : Operand} {p : Option (Nat × Nat)} {k : Int} (hI : Inv E P I0 H0 w0 nt β I H w S a) (hu : P.underlying t = some (.pointer e)) (ex : S.ev E x = .v (.ptr p)) (ey : S.ev E y = .v (.int .i64 k)) (he : P.cellsOf e = 1) (hs2 : c.argTypes.size = 2)
  (h : app (usM e p k fun s => K (.v (.str s)) S) H n = some r) (ho : o.op = .call c) (hc : c.callee = .builtin .unsafeString) (h0 : c.argTypes[0]? = some t) (h1 : c.args[0]? = some x) (h2 : c.args[1]? = some y) (h3 : c.args[2]? = none)
  (hk : Kont E P I0 H0 w0 nt K n r a o.dst next) : o.wpIn (FW ro) 0 P a w next Q := by
 have hx := hI.evv ex
 have hy := hI.evv ey
 have hl := arr2' h1 h2 h3
 generalize hxv : a.eval x = v1 at hx
 generalize hyv : a.eval y = v2 at hy
 cases hy
 have hargs : (c.args.map a.eval) = #[v1, .int .i64 k] := by
  apply Array.ext'; simp [hl, hxv, hyv]
 obtain ⟨t2, ht2⟩ : ∃ t2, c.argTypes = #[t, t2] := by
  rcases hq : c.argTypes with ⟨l⟩
  rw [hq] at h0 hs2
  simp at h0 hs2
  rcases l with _ | ⟨u, _ | ⟨v, _ | ⟨z, l⟩⟩⟩
  ·simp at hs2
  ·simp at hs2
  ·simp at h0; exact ⟨v, by rw [h0]⟩
  ·simp at hs2
 rcases usM_some h with ⟨rfl, h⟩ | ⟨hk0, hkm, b, cs, l, rfl, hty, hg, hbl, hll, h⟩
 ·have : ∃ q, v1 = .pointer q := by cases hx <;> exact ⟨_, rfl⟩
  obtain ⟨q, rfl⟩ := this
  refine wp_value (v := .string .empty) (w' := w) ?_ (hk _ _ _ _ _ _ _ h hI (VR.str _))
  simp [execOp, ho, resolve, hc, invoke, builtin, hargs, ht2, Lib.run_unsafeString_none]
 ·cases hx with
  | @ptr _ _ b' d hj =>
   obtain ⟨hd, c', fr', t1, _⟩ := hI.rel.ty _ _ _ _ _ hj hty
   subst hd
   obtain ⟨c1, el, fr, q1, q2, q3⟩ := hI.rel.obj _ _ _ _ _ hj hg
   rw [q1] at t1
   cases t1
   obtain ⟨u1, u2⟩ := bytesU_vr hbl
   have hlen : l.length ≤ cs.length := by rw [u1]; simp only [List.length_take]; omega
   have hcs : cs.length ≤ c'.size := by
    rcases Nat.lt_or_ge c'.size cs.length with hlt | hge
    ·obtain ⟨u, v, _⟩ := q2 c'.size _ (List.getElem?_eq_getElem hlt)
     simp at v
    ·exact hge
   have hl0 : l ≠ [] := fun hh => by rw [hh] at hll; simp at hll; omega
   have hkl : k = (l.length : Int) := by omega
   have hrun := Lib.run_unsafeString_row (w := w) t t2 o.type e hu he b' c'.size (by simp [World.shape?, q1]) l hl0 (by omega) (by omega) (fun j x hx => by
    have h5 := u2 j x hx
    have hj' : j < l.length := (List.getElem?_eq_some_iff.1 hx).1
    rw [List.getElem?_take, if_pos (by omega)] at h5
    obtain ⟨v, v1, v2⟩ := q2 j _ h5
    have hv : v = .int .u8 (x.toNat : Int) := by cases v2.1; rfl
    subst hv
    rw [show (⟨b', 0, none⟩ : Addr).add j = ⟨b', j, none⟩ by simp [add_none]]
    rw [cell_of q1]; simpa using v1)
   rw [← hkl] at hrun
   obtain ⟨fr2, hf⟩ := heap_freeze (w := w) (i := 0) (k := l.length) q1
   obtain ⟨f1, f2, f3⟩ := freeze_ext (w := w) (a := ⟨b', 0, none⟩) (k := l.length)
   refine wp_value (v := .string ⟨l.toArray⟩) (w' := w.freeze ⟨b', 0, none⟩ l.length) ?_ (hk _ _ _ _ _ _ _ h (hI.heapput (Step.dead q1 hj hg (fun x hx => heap_freeze_ne (a := ⟨b', 0, none⟩) hx) f1 ⟨f2, f3⟩) (hI.rel.dead hj hg q1 rfl hf (fun x hx => heap_freeze_ne (a := ⟨b', 0, none⟩) hx) f1)) (VR.str _))
   simp only [Nat.add_zero] at hxv
   simp [execOp, ho, resolve, hc, invoke, builtin, hargs, ht2, hrun]
end
end Go.Proofs.YtbphjihgbenkdaaGreat.HQ
