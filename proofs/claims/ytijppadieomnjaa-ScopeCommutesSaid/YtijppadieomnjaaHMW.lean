/- A region that draws its order does what its text does. Conditions: what is called is told by its text (EnvOk); such as must come ahead of one another do so by edges (drawOk). -/
import Derived.Test.YtijppadieomnjaaHMV
import Derived.Test.YtijppadieomnjaaHMP
namespace Go.Proofs.Ytijppadieomnjaa.HM
open Go
set_option linter.unusedSectionVars false
variable [Sites]

/-- a step of the text's order. -/
structure TS where
  F : Fr
  B : Bx
  H : Heap
  sv : SV
  c : Cl
  wc : List HV
  x : Bool

section
variable {E : Env} {P : Program} {esc : Nat → Bool} {n : Nat}

def dstOf (ops : List Oper) (k : Nat) : Option Nat := (ops[k]?).bind (·.dst)

structure Good (E : Env) (P : Program) (esc : Nat → Bool) (n : Nat) (all : Array Oper) (o : Oper) (u v : TS) : Prop where
  f : ∀ t, v.F.get t = if o.dst = some t then u.sv else u.F.get t
  g0 : o.guard = none → u.x = true
  g1 : ∀ j want, o.guard = some (j, want) → ∃ g, (all[j]?).bind (·.dst) = some g ∧ ((∃ b, u.F.get g = .v (.bool b) ∧ u.x = (b == want)) ∨ (u.F.get g = UD ∧ u.x = false))
  no : u.x = false → u.sv = UD ∧ v.H = u.H ∧ u.c = Cl.no
  yes : u.x = true → u.c = clOf E esc o ⟨u.F, u.B⟩ ∧ Does E P esc o ⟨u.F, u.B⟩ u.H n u.sv u.wc v.H
  b : v.B = wrB u.c.wB u.wc u.B

theorem put_get (S : St) (d : Option Nat) (s : SV) (t : Nat) : (S.put d s).F.get t = if d = some t then s else S.F.get t := by
  cases d with
  | none => simp [St.put]
  | some d =>
    simp only [St.put, Fr.get_set, Option.some.injEq]
    by_cases h : t = d
    · subst h; simp
    · rw [if_neg h, if_neg (Ne.symm h)]
theorem put_B (S : St) (d : Option Nat) (s : SV) : (S.put d s).B = S.B := by cases d <;> rfl

def Tr {α : Type} (E : Env) (P : Program) (esc : Nat → Bool) (n : Nat) (all : Array Oper) (K : St → List Cl → M α) (r : α × Heap) (l : List Oper) (cs : List Cl) (S : St) (H : Heap) : Prop :=
    ∃ T : Nat → TS, (∀ t, (T 0).F.get t = S.F.get t) ∧ (T 0).B = S.B ∧ (T 0).H = H ∧ (∀ k o, l[k]? = some o → Good E P esc n all o (T k) (T (k + 1))) ∧
      ∃ F', (∀ t, F'.get t = (T l.length).F.get t) ∧ K ⟨F', (T l.length).B⟩ (cs ++ (List.range l.length).map fun k => (T k).c) (T l.length).H n = some r

/-- the steps of the text. -/
theorem trace {α : Type} {all : Array Oper} {K : St → List Cl → M α} {r : α × Heap} : ∀ (l : List Oper) (cs : List Cl) (S : St) (H : Heap), denOpsT E P esc all l cs S K H n = some r → Tr E P esc n all K r l cs S H
  | [], cs, S, H, h => by
    have h5 : K S cs H n = some r := h
    exact ⟨fun _ => ⟨S.F, S.B, H, .un, Cl.no, [], true⟩, fun _ => rfl, rfl, rfl, fun k o e => by simp at e, S.F, fun _ => rfl, by simpa using h5⟩
  | o :: rest, cs, S, H, h => by
    have step : ∀ (S1 : St) (sv : SV) (wc : List HV) (H' : Heap) (c : Cl) (x : Bool), (∀ t, S1.F.get t = S.F.get t) → S1.B = S.B →
        (o.guard = none → x = true) → (∀ j want, o.guard = some (j, want) → ∃ g, (all[j]?).bind (·.dst) = some g ∧ ((∃ b, S1.F.get g = .v (.bool b) ∧ x = (b == want)) ∨ (S1.F.get g = UD ∧ x = false))) →
        (x = false → sv = UD ∧ H' = H ∧ c = Cl.no) → (x = true → c = clOf E esc o S1 ∧ Does E P esc o S1 H n sv wc H') →
        denOpsT E P esc all rest (cs ++ [c]) ((⟨S1.F, wrB c.wB wc S1.B⟩ : St).put o.dst sv) K H' n = some r →
        Tr E P esc n all K r (o :: rest) cs S H := by
      intro S1 sv wc H' c x hF hB hg0 hg1 hno hyes hk
      obtain ⟨T, h1, h2, h3, h4, F', h5, h6⟩ := trace rest _ _ _ hk
      refine ⟨fun k => match k with | 0 => ⟨S1.F, S1.B, H, sv, c, wc, x⟩ | k + 1 => T k, hF, hB, rfl, ?_, F', h5, ?_⟩
      · intro k o' e
        cases k with
        | zero =>
          simp only [List.getElem?_cons_zero, Option.some.injEq] at e
          subst e
          refine ⟨fun t => ?_, hg0, hg1, fun hx => ?_, fun hx => ?_, ?_⟩
          · simp only; rw [h1, put_get]
          · obtain ⟨q1, q3, q4⟩ := hno hx
            refine ⟨q1, ?_, q4⟩
            simp only; rw [h3]; exact q3
          · obtain ⟨q1, q2⟩ := hyes hx
            refine ⟨q1, ?_⟩
            simp only; rw [h3]; exact q2
          · simp only; rw [h2, put_B]
        | succ k => exact h4 k o' (by simpa using e)
      · simp only [List.length_cons, List.range_succ_eq_map, List.map_cons, List.map_map]
        rw [List.append_assoc, List.singleton_append] at h6
        exact h6
    replace h : app (denOpsT E P esc all (o :: rest) cs S K) H n = some r := h
    unfold denOpsT at h
    split at h
    · rename_i hg
      obtain ⟨sv, wc, H', k1, k2⟩ := op_does (E := E) (P := P) (esc := esc) h
      exact step S sv wc H' _ true (fun _ => rfl) rfl (fun _ => rfl) (fun j want e => by rw [hg] at e; cases e) (fun e => by cases e) (fun _ => ⟨rfl, k2⟩) k1
    · rename_i j want hg
      split at h
      · rename_i g hgt
        split at h
        · rename_i c hc
          have hS1 : ∀ b, b = c → ∀ t, (S.put (some g) (.v (.bool b))).F.get t = S.F.get t := by
            intro b hb t
            rw [put_get]
            split
            · rename_i e; cases e; rw [hc, hb]
            · rfl
          have hgg2 : ∀ b, b = c → ∀ j' want', o.guard = some (j', want') → ∃ g', (all[j']?).bind (·.dst) = some g' ∧ ((∃ b', (S.put (some g) (.v (.bool b))).F.get g' = .v (.bool b') ∧ (b == want) = (b' == want')) ∨ ((S.put (some g) (.v (.bool b))).F.get g' = UD ∧ (b == want) = false)) := by
            intro b hb j' want' e
            rw [hg] at e; cases e
            exact ⟨g, hgt, .inl ⟨b, by rw [put_get]; simp, rfl⟩⟩
          have ex : ∀ b, b = c → b = want → app (opD E P esc o (S.put (some g) (.v (.bool b))) fun s S' => denOpsT E P esc all rest (cs ++ [clOf E esc o (S.put (some g) (.v (.bool b)))]) (S'.put o.dst s) K) H n = some r → Tr E P esc n all K r (o :: rest) cs S H :=
            fun b hb hw h => by
              obtain ⟨sv, wc, H', k1, k2⟩ := op_does (E := E) (P := P) (esc := esc) h
              exact step (S.put (some g) (.v (.bool b))) sv wc H' _ (b == want) (hS1 b hb) (put_B _ _ _) (fun e => by rw [hg] at e; cases e) (hgg2 b hb) (fun e => by simp [hw] at e) (fun _ => ⟨rfl, k2⟩) k1
          have sk : ∀ b, b = c → b ≠ want → app (denOpsT E P esc all rest (cs ++ [Cl.no]) ((S.put (some g) (.v (.bool b))).put o.dst UD) K) H n = some r → Tr E P esc n all K r (o :: rest) cs S H :=
            fun b hb hw h => 
              step (S.put (some g) (.v (.bool b))) UD [] H Cl.no (b == want) (hS1 b hb) (put_B _ _ _) (fun e => by rw [hg] at e; cases e) (hgg2 b hb) (fun _ => ⟨rfl, rfl, rfl⟩) (fun e => absurd (by simpa using e) hw) h
          cases c <;> cases want <;> simp only [app, cond_true, cond_false] at h
          · exact ex false rfl rfl h
          · exact sk false rfl (by simp) h
          · exact sk true rfl (by simp) h
          · exact ex true rfl rfl h
        · rename_i hc
          exact step S UD [] H Cl.no false (fun _ => rfl) rfl (fun e => by rw [hg] at e; cases e) (fun j' want' e => by rw [hg] at e; cases e; exact ⟨g, hgt, .inr ⟨hc, rfl⟩⟩) (fun _ => ⟨rfl, rfl, rfl⟩) (fun e => by cases e) h
        · exact (stk_some h).elim
      · exact (stk_some h).elim

/-! ## what comes ahead -/
theorem edgeBits_spec {acc : List Nat} : ∀ {l : List Edge} {i : Nat}, Nat.testBit (edgeBits acc l) i = true → ∃ e ∈ l, Region.binds .any e = true ∧ (e.on = i ∨ Nat.testBit (acc.getD e.on 0) i = true)
  | [], i, h => by simp [edgeBits] at h
  | e :: l, i, h => by
    simp only [edgeBits] at h
    split at h
    · rename_i hb
      have h' : (2 ^ e.on ||| acc.getD e.on 0 ||| edgeBits acc l).testBit i = true := h
      simp only [Nat.testBit_or, Bool.or_eq_true] at h'
      rcases h' with (h1 | h1) | h1
      · exact ⟨e, List.mem_cons_self, hb, .inl (by simpa [Nat.testBit_two_pow] using h1)⟩
      · exact ⟨e, List.mem_cons_self, hb, .inr h1⟩
      · obtain ⟨e', h2, h3⟩ := edgeBits_spec h1
        exact ⟨e', List.mem_cons_of_mem _ h2, h3⟩
    · obtain ⟨e', h2, h3⟩ := edgeBits_spec h
      exact ⟨e', List.mem_cons_of_mem _ h2, h3⟩

theorem ahead_spec : ∀ (l : List Oper) (acc : List Nat), (ahead l acc).length = acc.length + l.length ∧ (∀ k, k < acc.length → (ahead l acc)[k]? = acc[k]?) ∧
    ∀ k o, l[k]? = some o → ∃ acc', (∀ q, q < acc'.length → acc'[q]? = (ahead l acc)[q]?) ∧ (ahead l acc)[acc.length + k]? = some (edgeBits acc' o.after.toList)
  | [], acc => ⟨by simp [ahead], fun _ _ => rfl, fun k o e => by simp at e⟩
  | x :: l, acc => by
    obtain ⟨h1, h2, h3⟩ := ahead_spec l (acc ++ [edgeBits acc x.after.toList])
    simp only [List.length_append, List.length_cons, List.length_nil] at h1 h2 h3
    refine ⟨by simp only [ahead, List.length_cons]; omega, fun k hk => ?_, fun k o e => ?_⟩
    · simp only [ahead]; rw [h2 k (by omega), List.getElem?_append_left hk]
    · cases k with
      | zero =>
        simp only [List.getElem?_cons_zero, Option.some.injEq] at e
        subst e
        refine ⟨acc, fun q hq => ?_, ?_⟩
        · simp only [ahead]; rw [h2 q (by omega), List.getElem?_append_left hq]
        · simp only [ahead, Nat.add_zero]; rw [h2 _ (by omega)]; simp
      | succ k =>
        obtain ⟨acc', q1, q2⟩ := h3 k o (by simpa using e)
        refine ⟨acc', q1, ?_⟩
        simp only [ahead]; rw [show acc.length + (k + 1) = acc.length + (0 + 1) + k by omega]; exact q2

theorem ahead_mem {ops : List Oper} {L : Nat → Bool} (hL : ∀ k o, ops[k]? = some o → L k = true → ∀ e ∈ o.after.toList, Region.binds .any e = true → L e.on = true) :
    ∀ (j : Nat) (b : Nat), (ahead ops [])[j]? = some b → ∀ o, ops[j]? = some o → (∀ e ∈ o.after.toList, Region.binds .any e = true → L e.on = true ∧ e.on < j) →
      (∀ k o, k < j → ops[k]? = some o → ∀ e ∈ o.after.toList, Region.binds .any e = true → e.on < k) → ∀ i, Nat.testBit b i = true → L i = true := by
  intro j
  induction j using Nat.strongRecOn with
  | ind j ih =>
    intro b hb o ho hr hback i hi
    obtain ⟨hlen, _, h3⟩ := ahead_spec ops []
    obtain ⟨acc', q1, q2⟩ := h3 j o ho
    simp only [List.length_nil, Nat.zero_add] at q2 hlen
    rw [q2] at hb; cases hb
    obtain ⟨e, he, hbe, hor⟩ := edgeBits_spec hi
    obtain ⟨hLe, hlt⟩ := hr e he hbe
    rcases hor with rfl | hbit
    · exact hLe
    · rw [List.getD_eq_getElem?_getD] at hbit
      cases hg : acc'[e.on]? with
      | none => rw [hg] at hbit; simp at hbit
      | some b' =>
        rw [hg] at hbit
        have hq := (List.getElem?_eq_some_iff.1 hg).1
        have hb' : (ahead ops [])[e.on]? = some b' := by rw [← q1 _ hq]; exact hg
        have hlt' : e.on < ops.length := by
          have := (List.getElem?_eq_some_iff.1 hb').1; omega
        refine ih e.on hlt b' hb' ops[e.on] (List.getElem?_eq_getElem _) ?_ (fun k o hk => hback k o (by omega)) i hbit
        intro e' he' hbe'
        exact ⟨hL e.on _ (List.getElem?_eq_getElem hlt') hLe e' he' hbe', hback e.on _ hlt (List.getElem?_eq_getElem hlt') e' he' hbe'⟩

theorem edgesBack_spec {j : Nat} : ∀ {l : List Edge}, edgesBack j l = true → ∀ e ∈ l, Region.binds .any e = true → e.on < j
  | x :: l, h, e, he, hb => by
    simp only [edgesBack, Bool.and_eq_true] at h
    rcases List.mem_cons.1 he with rfl | he
    · have h1 := h.1
      rw [hb] at h1
      simpa [Nat.blt_eq] using h1
    · exact edgesBack_spec h.2 e he hb
theorem backOk_spec (l : List Oper) : ∀ {j : Nat}, backOk l j = true → ∀ k o, l[k]? = some o → ∀ e ∈ o.after.toList, Region.binds .any e = true → e.on < j + k := by
  induction l with
  | nil => intro j _ k o e; simp at e
  | cons x l ih =>
    intro j h k o e
    simp only [backOk, Bool.and_eq_true] at h
    cases k with
    | zero =>
      simp only [List.getElem?_cons_zero, Option.some.injEq] at e
      subst e
      exact edgesBack_spec h.1
    | succ k =>
      intro e' he' hb'
      have := ih h.2 k o (by simpa using e) e' he' hb'
      omega

theorem rowOk_spec {all : Array Oper} {y : Oper} {cy : Cl} {bits : Nat} : ∀ {xs : List Oper} {cs : List Cl} {i : Nat}, rowOk all y cy bits xs cs i = true → ∀ k x c, xs[k]? = some x → cs[k]? = some c → pairOk all x y c cy (i + k) bits = true
  | x :: xs, c :: cs, i, h, k, x', c', e1, e2 => by
    simp only [rowOk, Bool.and_eq_true] at h
    cases k with
    | zero =>
      simp only [List.getElem?_cons_zero, Option.some.injEq] at e1 e2
      subst e1; subst e2
      exact h.1
    | succ k =>
      rw [show i + (k + 1) = i + 1 + k by omega]
      exact rowOk_spec h.2 k x' c' (by simpa using e1) (by simpa using e2)
  | [], _, _, _, k, _, _, e1, _ => by simp at e1
  | _ :: _, [], _, _, k, _, _, _, e2 => by simp at e2

theorem orderOk_spec {all : Array Oper} {ops : List Oper} {cls : List Cl} {bits : List Nat} : ∀ {ys : List Oper} {cs : List Cl} {bs : List Nat} {j : Nat}, orderOk all ops cls bits ys cs bs j = true →
    ∀ k y c b, ys[k]? = some y → cs[k]? = some c → bs[k]? = some b → rowOk all y c b (ops.take (j + k)) (cls.take (j + k)) 0 = true
  | y :: ys, c :: cs, b :: bs, j, h, k, y', c', b', e1, e2, e3 => by
    simp only [orderOk, Bool.and_eq_true] at h
    cases k with
    | zero =>
      simp only [List.getElem?_cons_zero, Option.some.injEq] at e1 e2 e3
      subst e1; subst e2; subst e3
      exact h.1
    | succ k =>
      rw [show j + (k + 1) = j + 1 + k by omega]
      exact orderOk_spec h.2 k y' c' b' (by simpa using e1) (by simpa using e2) (by simpa using e3)
  | [], _, _, _, _, k, _, _, _, e1, _, _ => by simp at e1
  | _ :: _, [], _, _, _, k, _, _, _, _, e2, _ => by simp at e2
  | _ :: _, _ :: _, [], _, _, k, _, _, _, _, _, e3 => by simp at e3

/-! ## any order -/
/-- the state behind those of L below k. -/
def fL (ops : List Oper) (T : Nat → TS) (L : Nat → Bool) (t : Nat) : Nat → SV
  | 0 => (T 0).F.get t
  | k + 1 => if L k = true ∧ dstOf ops k = some t then (T k).sv else fL ops T L t k
def bL (T : Nat → TS) (L : Nat → Bool) : Nat → Bx
  | 0 => (T 0).B
  | k + 1 => if L k = true then wrB (T k).c.wB (T k).wc (bL T L k) else bL T L k
def hL (T : Nat → TS) (L : Nat → Bool) : Nat → Heap
  | 0 => (T 0).H
  | k + 1 => if L k = true ∧ (T k).c.wH = true then (T (k + 1)).H else hL T L k

/-- what the check says of two operations. -/
theorem clash_spec {ops : Array Oper} {cls : List Cl} (hd : drawOk ops cls = true) (_hl : cls.length = ops.size) {L : Nat → Bool}
    (hL : ∀ k o, ops.toList[k]? = some o → L k = true → ∀ e ∈ o.after.toList, Region.binds .any e = true → L e.on = true)
    {i j : Nat} {x y : Oper} {cx cy : Cl} (hij : i < j) (hx : ops.toList[i]? = some x) (hy : ops.toList[j]? = some y) (hcx : cls[i]? = some cx) (hcy : cls[j]? = some cy)
    (hr : ∀ e ∈ y.after.toList, Region.binds .any e = true → L e.on = true) (hc : (Cl.clash cx cy || slotClash ops x y) = true) : L i = true := by
  simp only [drawOk, Bool.and_eq_true] at hd
  obtain ⟨hd0, hd1⟩ := hd
  have hback := backOk_spec _ hd0
  simp only [Nat.zero_add] at hback
  have hlen := (ahead_spec ops.toList []).1
  simp only [List.length_nil, Nat.zero_add] at hlen
  have hj : j < ops.toList.length := (List.getElem?_eq_some_iff.1 hy).1
  obtain ⟨b, hb⟩ : ∃ b, (ahead ops.toList [])[j]? = some b := ⟨_, List.getElem?_eq_getElem (by omega)⟩
  have h1 := orderOk_spec hd1 j y cy b hy hcy hb
  simp only [Nat.zero_add] at h1
  have h2 := rowOk_spec h1 i x cx (by rw [List.getElem?_take, if_pos hij]; exact hx) (by rw [List.getElem?_take, if_pos hij]; exact hcx)
  simp only [Nat.zero_add, pairOk, hc] at h2
  exact ahead_mem hL j b hb y hy (fun e he hbe => ⟨hr e he hbe, hback j y hy e he hbe⟩) (fun k o _ ho => hback k o ho) i h2

theorem slot_r {ops : Array Oper} {x y : Oper} {d : Nat} (h : x.dst = some d) (hm : d ∈ y.looksAt ops) : slotClash ops x y = true := by
  simp only [slotClash, h, (mem_iff _ _).2 hm, Bool.true_or]
theorem slot_l {ops : Array Oper} {x y : Oper} {d : Nat} (h : y.dst = some d) (hm : d ∈ x.looksAt ops) : slotClash ops x y = true := by
  simp only [slotClash, h, (mem_iff _ _).2 hm, Bool.or_true]
theorem slot_w {ops : Array Oper} {x y : Oper} {d : Nat} (h : x.dst = some d) (h' : y.dst = some d) : slotClash ops x y = true := by
  simp [slotClash, h, h']

section
variable {ops : Array Oper} {T : Nat → TS} {cls : List Cl} {L : Nat → Bool}

structure Ok (E : Env) (P : Program) (esc : Nat → Bool) (n : Nat) (ops : Array Oper) (T : Nat → TS) (cls : List Cl) (L : Nat → Bool) : Prop where
  good : ∀ k o, ops.toList[k]? = some o → Good E P esc n ops o (T k) (T (k + 1))
  chk : drawOk ops cls = true
  len : cls.length = ops.size
  cl : ∀ k, k < ops.size → cls[k]? = some (T k).c
  down : ∀ k o, ops.toList[k]? = some o → L k = true → ∀ e ∈ o.after.toList, Region.binds .any e = true → L e.on = true

theorem Ok.before (h : Ok E P esc n ops T cls L) {i k : Nat} {x y : Oper} (hki : k < i) (hx : ops.toList[k]? = some x) (hy : ops.toList[i]? = some y)
    (hr : ∀ e ∈ y.after.toList, Region.binds .any e = true → L e.on = true) (hc : (Cl.clash (T k).c (T i).c || slotClash ops x y) = true) : L k = true := by
  have h1 := (List.getElem?_eq_some_iff.1 hy).1
  simp only [Array.length_toList] at h1
  exact clash_spec h.chk h.len h.down hki hx hy (h.cl k (by omega)) (h.cl i h1) hr hc
theorem Ok.behind (h : Ok E P esc n ops T cls L) {i k : Nat} {x y : Oper} (hki : i < k) (hx : ops.toList[i]? = some x) (hy : ops.toList[k]? = some y) (hk : L k = true)
    (hc : (Cl.clash (T i).c (T k).c || slotClash ops x y) = true) : L i = true :=
  h.before hki hx hy (h.down k y hy hk) hc

theorem get_op {k : Nat} (hk : k < ops.size) : ∃ x, ops.toList[k]? = some x := ⟨_, List.getElem?_eq_getElem (by simpa using hk)⟩

/-- what the i-th looks at stands as it stood in the text. -/
theorem Ok.looks (h : Ok E P esc n ops T cls L) {i : Nat} {y : Oper} (hy : ops.toList[i]? = some y) (hi : L i = false)
    (hr : ∀ e ∈ y.after.toList, Region.binds .any e = true → L e.on = true) {t : Nat} (ht : t ∈ y.looksAt ops) : fL ops.toList T L t ops.size = (T i).F.get t := by
  have hin : i < ops.size := by simpa using (List.getElem?_eq_some_iff.1 hy).1
  have h1 : ∀ k, k ≤ i → fL ops.toList T L t k = (T k).F.get t := by
    intro k
    induction k with
    | zero => intro _; rfl
    | succ k ih =>
      intro hk
      obtain ⟨x, hx⟩ := get_op (ops := ops) (k := k) (by omega)
      have hg := (h.good k x hx).f t
      simp only [fL, dstOf, hx, Option.bind_some]
      rw [hg]
      by_cases hd : x.dst = some t
      · have : L k = true := h.before (by omega) hx hy hr (by rw [slot_r hd ht, Bool.or_true])
        rw [if_pos ⟨this, hd⟩, if_pos hd]
      · rw [if_neg (fun q => hd q.2), if_neg hd, ih (by omega)]
  have h2 : ∀ k, i ≤ k → k ≤ ops.size → fL ops.toList T L t k = (T i).F.get t := by
    intro k hk
    induction k with
    | zero => intro _; have : i = 0 := by omega
              subst this; rfl
    | succ k ih =>
      intro hk2
      by_cases he : i = k + 1
      · subst he; exact h1 _ (Nat.le_refl _)
      · obtain ⟨x, hx⟩ := get_op (ops := ops) (k := k) (by omega)
        simp only [fL, dstOf, hx, Option.bind_some]
        rw [if_neg, ih (by omega) (by omega)]
        rintro ⟨q1, q2⟩
        by_cases he2 : i = k
        · subst he2; rw [hi] at q1; cases q1
        · have := h.behind (i := i) (k := k) (by omega) hy hx q1 (by rw [slot_l q2 ht, Bool.or_true])
          rw [hi] at this; cases this
  exact h2 _ (by omega) (Nat.le_refl _)

theorem Ok.keepH (h : Ok E P esc n ops T cls L) {k : Nat} (hk : k < ops.size) (hw : (T k).c.wH = false) : (T (k + 1)).H = (T k).H := by
  obtain ⟨x, hx⟩ := get_op hk
  have hg := h.good k x hx
  cases hx' : (T k).x with
  | false => exact (hg.no hx').2.1
  | true =>
    obtain ⟨q1, q2⟩ := hg.yes hx'
    exact q2.1 (by rw [← q1]; exact hw)

theorem Ok.boxes (h : Ok E P esc n ops T cls L) {i : Nat} {y : Oper} (hy : ops.toList[i]? = some y) (hi : L i = false)
    (hr : ∀ e ∈ y.after.toList, Region.binds .any e = true → L e.on = true) {d : Nat} (hb : (T i).c.rB = some d ∨ (T i).c.wB = some d) : (bL T L ops.size).get d = (T i).B.get d := by
  have hin : i < ops.size := by simpa using (List.getElem?_eq_some_iff.1 hy).1
  have h1 : ∀ k, k ≤ i → (bL T L k).get d = (T k).B.get d := by
    intro k
    induction k with
    | zero => intro _; rfl
    | succ k ih =>
      intro hk
      obtain ⟨x, hx⟩ := get_op (ops := ops) (k := k) (by omega)
      have ih := ih (by omega)
      rw [(h.good k x hx).b, wrB_get]
      simp only [bL]
      by_cases hl : L k = true
      · rw [if_pos hl, wrB_get, ih]
      · rw [if_neg hl, ih]
        rw [if_neg]
        intro hd
        refine hl (h.before (by omega) hx hy hr ?_)
        rcases hb with hb | hb <;> simp [Cl.clash, hd, hb, bxc]
  have h2 : ∀ k, i ≤ k → k ≤ ops.size → (bL T L k).get d = (T i).B.get d := by
    intro k hk
    induction k with
    | zero => intro _; have : i = 0 := by omega
              subst this; rfl
    | succ k ih =>
      intro hk2
      by_cases he : i = k + 1
      · subst he; exact h1 _ (Nat.le_refl _)
      · obtain ⟨x, hx⟩ := get_op (ops := ops) (k := k) (by omega)
        have ih := ih (by omega) (by omega)
        simp only [bL]
        by_cases hl : L k = true
        · rw [if_pos hl, wrB_get, if_neg, ih]
          intro hd
          by_cases he2 : i = k
          · subst he2; rw [hi] at hl; cases hl
          · have := h.behind (i := i) (k := k) (by omega) hy hx hl (by rcases hb with hb | hb <;> simp [Cl.clash, hd, hb, bxc])
            rw [hi] at this; cases this
        · rw [if_neg hl, ih]
  exact h2 _ (by omega) (Nat.le_refl _)
theorem Ok.heap (h : Ok E P esc n ops T cls L) {i : Nat} {y : Oper} (hy : ops.toList[i]? = some y) (hi : L i = false)
    (hr : ∀ e ∈ y.after.toList, Region.binds .any e = true → L e.on = true) (hb : (T i).c.rH = true ∨ (T i).c.wH = true) : hL T L ops.size = (T i).H := by
  have hin : i < ops.size := by simpa using (List.getElem?_eq_some_iff.1 hy).1
  have hb' : ((T i).c.rH || (T i).c.wH) = true := by simpa using hb
  have h1 : ∀ k, k ≤ i → hL T L k = (T k).H := by
    intro k
    induction k with
    | zero => intro _; rfl
    | succ k ih =>
      intro hk
      obtain ⟨x, hx⟩ := get_op (ops := ops) (k := k) (by omega)
      simp only [hL]
      by_cases hd : (T k).c.wH = true
      · have : L k = true := h.before (by omega) hx hy hr (by simp [Cl.clash, hd, hb'])
        rw [if_pos ⟨this, hd⟩]
      · rw [if_neg (fun q => hd q.2), ih (by omega), h.keepH (by omega) (by simpa using hd)]
  have h2 : ∀ k, i ≤ k → k ≤ ops.size → hL T L k = (T i).H := by
    intro k hk
    induction k with
    | zero => intro _; have : i = 0 := by omega
              subst this; rfl
    | succ k ih =>
      intro hk2
      by_cases he : i = k + 1
      · subst he; exact h1 _ (Nat.le_refl _)
      · obtain ⟨x, hx⟩ := get_op (ops := ops) (k := k) (by omega)
        simp only [hL]
        rw [if_neg, ih (by omega) (by omega)]
        rintro ⟨q1, q2⟩
        by_cases he2 : i = k
        · subst he2; rw [hi] at q1; cases q1
        · have := h.behind (i := i) (k := k) (by omega) hy hx q1 (by rcases hb with hb | hb <;> simp [Cl.clash, q2, hb])
          rw [hi] at this; cases this
  exact h2 _ (by omega) (Nat.le_refl _)

/-- and the i-th is listed. -/
def ins (L : Nat → Bool) (i : Nat) (k : Nat) : Bool := if k = i then true else L k
theorem ins_self {i : Nat} : ins L i i = true := by simp [ins]
theorem ins_ne {i k : Nat} (h : k ≠ i) : ins L i k = L k := by simp [ins, h]

theorem Ok.insF (h : Ok E P esc n ops T cls L) {i : Nat} {y : Oper} (hy : ops.toList[i]? = some y) (hi : L i = false) (t : Nat) :
    fL ops.toList T (ins L i) t ops.size = if y.dst = some t then (T i).sv else fL ops.toList T L t ops.size := by
  have hin : i < ops.size := by simpa using (List.getElem?_eq_some_iff.1 hy).1
  have h1 : ∀ k, k ≤ i → fL ops.toList T (ins L i) t k = fL ops.toList T L t k := by
    intro k
    induction k with
    | zero => intro _; rfl
    | succ k ih =>
      intro hk
      simp only [fL, ins_ne (L := L) (show k ≠ i by omega)]
      rw [ih (by omega)]
  have h2 : ∀ k, i < k → k ≤ ops.size → fL ops.toList T (ins L i) t k = if y.dst = some t then (T i).sv else fL ops.toList T L t k := by
    intro k hk
    induction k with
    | zero => omega
    | succ k ih =>
      intro hk2
      by_cases he : k = i
      · subst he
        have hd : dstOf ops.toList k = y.dst := by simp only [dstOf, hy, Option.bind_some]
        simp only [fL, ins_self, hd, hi, true_and]
        split
        · rfl
        · rw [h1 k (Nat.le_refl _)]; simp
      · obtain ⟨x, hx⟩ := get_op (ops := ops) (k := k) (by omega)
        have hd : dstOf ops.toList k = x.dst := by simp only [dstOf, hx, Option.bind_some]
        simp only [fL, ins_ne (L := L) he, hd]
        rw [ih (by omega) (by omega)]
        by_cases hq : L k = true ∧ x.dst = some t
        · rw [if_pos hq, if_pos hq]
          rw [if_neg]
          intro hyd
          have := h.behind (i := i) (k := k) (by omega) hy hx hq.1 (by rw [slot_w hyd hq.2, Bool.or_true])
          rw [hi] at this; cases this
        · rw [if_neg hq, if_neg hq]
  exact h2 _ hin (Nat.le_refl _)
/-- boxes alike. -/
def Beq (B B' : Bx) : Prop := (∀ d, B.get d = B'.get d) ∧ ∀ lv, Bx.under lv B = Bx.under lv B'
theorem Beq.refl (B : Bx) : Beq B B := ⟨fun _ => rfl, fun _ => rfl⟩
theorem Beq.trans {A B C : Bx} (h : Beq A B) (h' : Beq B C) : Beq A C := ⟨fun d => (h.1 d).trans (h'.1 d), fun lv => (h.2 lv).trans (h'.2 lv)⟩
theorem Beq.symm {A B : Bx} (h : Beq A B) : Beq B A := ⟨fun d => (h.1 d).symm, fun lv => (h.2 lv).symm⟩
theorem Beq.wr {A B : Bx} (h : Beq A B) (d : Option Nat) (wc : List HV) : Beq (wrB d wc A) (wrB d wc B) :=
  ⟨fun e => by rw [wrB_get, wrB_get, h.1], fun lv => by rw [wrB_under, wrB_under, h.2]⟩
theorem Ok.insB (h : Ok E P esc n ops T cls L) {i : Nat} {y : Oper} (hy : ops.toList[i]? = some y) (hi : L i = false) :
    Beq (bL T (ins L i) ops.size) (wrB (T i).c.wB (T i).wc (bL T L ops.size)) := by
  have hin : i < ops.size := by simpa using (List.getElem?_eq_some_iff.1 hy).1
  have h1 : ∀ k, k ≤ i → bL T (ins L i) k = bL T L k := by
    intro k
    induction k with
    | zero => intro _; rfl
    | succ k ih =>
      intro hk
      simp only [bL, ins_ne (L := L) (show k ≠ i by omega)]
      rw [ih (by omega)]
  have h2 : ∀ k, i < k → k ≤ ops.size → Beq (bL T (ins L i) k) (wrB (T i).c.wB (T i).wc (bL T L k)) := by
    intro k hk
    induction k with
    | zero => omega
    | succ k ih =>
      intro hk2
      by_cases he : k = i
      · subst he
        simp only [bL, ins_self, hi, if_true]
        rw [h1 k (Nat.le_refl _)]
        simp only [Bool.false_eq_true, if_false]
        exact Beq.refl _
      · obtain ⟨x, hx⟩ := get_op (ops := ops) (k := k) (by omega)
        have ih := ih (by omega) (by omega)
        simp only [bL, ins_ne (L := L) he]
        by_cases hl : L k = true
        · rw [if_pos hl, if_pos hl]
          refine (ih.wr _ _).trans ⟨fun e => ?_, fun lv => by simp only [wrB_under]⟩
          simp only [wrB_get]
          by_cases ha : (T k).c.wB = some e
          · by_cases hb : (T i).c.wB = some e
            · have := h.behind (i := i) (k := k) (by omega) hy hx hl (by simp [Cl.clash, ha, hb, bxc])
              rw [hi] at this; cases this
            · rw [if_pos ha, if_neg hb, if_pos ha]
          · rw [if_neg ha, if_neg ha]
        · rw [if_neg hl, if_neg hl]; exact ih
  exact h2 _ hin (Nat.le_refl _)
theorem Ok.insH (h : Ok E P esc n ops T cls L) {i : Nat} {y : Oper} (hy : ops.toList[i]? = some y) (hi : L i = false) :
    hL T (ins L i) ops.size = cond (T i).c.wH (T (i + 1)).H (hL T L ops.size) := by
  have hin : i < ops.size := by simpa using (List.getElem?_eq_some_iff.1 hy).1
  have h1 : ∀ k, k ≤ i → hL T (ins L i) k = hL T L k := by
    intro k
    induction k with
    | zero => intro _; rfl
    | succ k ih =>
      intro hk
      simp only [hL, ins_ne (L := L) (show k ≠ i by omega)]
      rw [ih (by omega)]
  have h2 : ∀ k, i < k → k ≤ ops.size → hL T (ins L i) k = cond (T i).c.wH (T (i + 1)).H (hL T L k) := by
    intro k hk
    induction k with
    | zero => omega
    | succ k ih =>
      intro hk2
      by_cases he : k = i
      · subst he
        simp only [hL, ins_self, hi, true_and]
        rw [h1 k (Nat.le_refl _)]
        cases (T k).c.wH <;> simp
      · obtain ⟨x, hx⟩ := get_op (ops := ops) (k := k) (by omega)
        simp only [hL, ins_ne (L := L) he]
        rw [ih (by omega) (by omega)]
        by_cases hq : L k = true ∧ (T k).c.wH = true
        · rw [if_pos hq, if_pos hq]
          cases hw : (T i).c.wH with
          | false => rfl
          | true =>
            have := h.behind (i := i) (k := k) (by omega) hy hx hq.1 (by simp [Cl.clash, hw, hq.2])
            rw [hi] at this; cases this
        · rw [if_neg hq, if_neg hq]
  exact h2 _ hin (Nat.le_refl _)

theorem Ok.all (h : Ok E P esc n ops T cls L) (hA : ∀ k, k < ops.size → L k = true) : (∀ t, fL ops.toList T L t ops.size = (T ops.size).F.get t) ∧ bL T L ops.size = (T ops.size).B ∧ hL T L ops.size = (T ops.size).H := by
  have : ∀ k, k ≤ ops.size → (∀ t, fL ops.toList T L t k = (T k).F.get t) ∧ bL T L k = (T k).B ∧ hL T L k = (T k).H := by
    intro k
    induction k with
    | zero => intro _; exact ⟨fun _ => rfl, rfl, rfl⟩
    | succ k ih =>
      intro hk
      obtain ⟨i1, i2, i3⟩ := ih (by omega)
      obtain ⟨x, hx⟩ := get_op (ops := ops) (k := k) (by omega)
      refine ⟨fun t => ?_, ?_, ?_⟩
      · simp only [fL, dstOf, hx, Option.bind_some, hA k (by omega), true_and]
        rw [(h.good k x hx).f t, i1]
      · simp only [bL, hA k (by omega), if_true]
        rw [(h.good k x hx).b, i2]
      · simp only [hL, hA k (by omega), true_and]
        cases hw : (T k).c.wH with
        | true => rfl
        | false => rw [h.keepH (by omega) hw, ← i3]; rfl
  exact this _ (Nat.le_refl _)
end
end
end Go.Proofs.Ytijppadieomnjaa.HM
