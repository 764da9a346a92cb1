/- Lemmas for the row. Conditions: none. -/
import Derived.Test.YtbphjihgbenkdaaGreatHQH
import Derived.ChangeKeysEq
namespace Go.Proofs.YtbphjihgbenkdaaGreat.HQ
set_option linter.unusedVariables false
set_option linter.unusedSectionVars false
set_option linter.unusedSimpArgs false
open Go
set_option linter.unusedSectionVars false
variable [Sites]
theorem eqSh_len : ∀ {sh : List Sc} {xs ys : List HV} {b : Bool}, eqSh sh xs ys = some b → xs.length = sh.length ∧ ys.length = sh.length
 | sh, xs, ys, b, h => by
  unfold eqSh at h
  split at h
  ·exact ⟨rfl, rfl⟩
  ·split at h
   ·rename_i h1
    obtain ⟨q1, q2⟩ := eqSh_len h1
    simp [q1, q2]
   ·cases h
  ·split at h
   ·rename_i h1
    obtain ⟨q1, q2⟩ := eqSh_len h1
    simp [q1, q2]
   ·cases h
  ·split at h
   ·rename_i h1
    obtain ⟨q1, q2⟩ := eqSh_len h1
    simp [q1, q2]
   ·cases h
  ·cases h
theorem eqSh_nil {xs ys : List HV} {b : Bool} (h : eqSh [] xs ys = some b) : xs = [] ∧ ys = [] ∧ b = true := by
 obtain ⟨h1, h2⟩ := eqSh_len h
 have h1 : xs = [] := List.length_eq_zero_iff.1 h1
 have h2 : ys = [] := List.length_eq_zero_iff.1 h2
 subst h1; subst h2
 simp [eqSh] at h
 exact ⟨rfl, rfl, h⟩
theorem eqSh_app : ∀ {s1 s2 : List Sc} {xs ys : List HV} {b : Bool}, eqSh (s1 ++ s2) xs ys = some b →
  ∃ b1 b2, eqSh s1 (xs.take s1.length) (ys.take s1.length) = some b1 ∧ eqSh s2 (xs.drop s1.length) (ys.drop s1.length) = some b2 ∧ b = cond b1 b2 false
 | [], s2, xs, ys, b, h => ⟨true, b, by simp [eqSh], by simpa using h, rfl⟩
 | s :: s1, s2, xs, ys, b, h => by
  rw [List.cons_append] at h
  unfold eqSh at h
  split at h
  ·rename_i h1; simp at h1
  ·rename_i h1
   cases h1
   split at h
   ·rename_i t hk ht
    cases h
    obtain ⟨b1, b2, q1, q2, q3⟩ := eqSh_app ht
    refine ⟨_, b2, by simp only [List.length_cons, List.take_succ_cons, eqSh, hk, q1]; rfl, by simpa using q2, ?_⟩
    rw [q3]; grind
   ·cases h
  ·rename_i h1
   cases h1
   split at h
   ·rename_i t ht
    cases h
    obtain ⟨b1, b2, q1, q2, q3⟩ := eqSh_app ht
    refine ⟨_, b2, by simp only [List.length_cons, List.take_succ_cons, eqSh, q1]; rfl, by simpa using q2, ?_⟩
    rw [q3]; grind
   ·cases h
  ·rename_i h1
   cases h1
   split at h
   ·rename_i t ht
    cases h
    obtain ⟨b1, b2, q1, q2, q3⟩ := eqSh_app ht
    refine ⟨_, b2, by simp only [List.length_cons, List.take_succ_cons, eqSh, q1]; rfl, by simpa using q2, ?_⟩
    rw [q3]; grind
   ·cases h
  ·cases h
theorem eqSh_one {s : Sc} {xs ys : List HV} {b : Bool} (h : eqSh [s] xs ys = some b) :
  (∃ k a c, s = .ki k ∧ xs = [.int k a] ∧ ys = [.int k c] ∧ b = (a == c)) ∨ (∃ a c, s = .kb ∧ xs = [.bool a] ∧ ys = [.bool c] ∧ b = (a == c)) ∨ (∃ a c, s = .ks ∧ xs = [.str a] ∧ ys = [.str c] ∧ b = (a.toList == c.toList)) := by
 obtain ⟨h1, h2⟩ := eqSh_len h
 match xs, ys, h1, h2, h with
 | [x], [y], _, _, h =>
  cases s <;> cases x <;> cases y <;> try (simp [eqSh] at h; done)
  ·rename_i k k1 a k2 c
   simp only [eqSh] at h
   split at h
   ·rename_i t hk ht
    simp at hk
    obtain ⟨rfl, rfl⟩ := hk
    cases ht
    cases h
    exact .inl ⟨_, _, _, rfl, rfl, rfl, by grind⟩
   ·cases h
  ·rename_i a c
   simp only [eqSh] at h
   cases h
   exact .inr (.inl ⟨_, _, rfl, rfl, rfl, by grind⟩)
  ·rename_i a c
   simp only [eqSh] at h
   cases h
   exact .inr (.inr ⟨_, _, rfl, rfl, rfl, by grind⟩)
theorem eqM_some {α : Type} {sh : List Sc} {xs ys : List HV} {f : Bool → M α} {H : Heap} {n : Nat} {r : α × Heap} (h : eqM sh xs ys f H n = some r) : ∃ b, eqSh sh xs ys = some b ∧ app (f b) H n = some r := by
 cases e : eqSh sh xs ys with
 | none => unfold eqM at h; rw [e] at h; exact (stk_some h).elim
 | some b => unfold eqM at h; rw [e] at h; exact ⟨b, rfl, h⟩
section
variable {P : Program}
def asV (P : Program) (t : TypeId) (l : List Value) : Value := match agOf P t with
 | some true => .agg l.toArray
 | _ => match l with
  | v :: _ => v
  | [] => .nilIface
theorem run_isAgg' {t : TypeId} {d : TypeDesc} (hu : P.underlying t = some d) (w : World) : (isAgg t).run P w = .ok (match agOf P t with | some true => true | _ => false) w := by
 simp only [isAgg, Sem.run_bind, run_underlying hu, Result.andThen_ok]
 unfold agOf; rw [hu]
 cases d <;> rfl
theorem run_partV {t : TypeId} {i : TypeInfo} {d : TypeDesc} (hi : P.info? t = some i) (hu : P.underlying t = some d) {lx : List Value} {off k : Nat} (hk : sizeT P t = k) (hl : k ≤ lx.length - off) (h1 : agOf P t ≠ some true → k = 1) (w : World) :
    (part t lx.toArray off).run P w = .ok (asV P t ((lx.drop off).take k)) w := by
  by_cases ha : agOf P t = some true
  · unfold part asV
    simp only [Sem.run_bind, run_isAgg' hu, Result.andThen_ok, Sem.run_ite, ha, if_true, run_sizeT hi, Sem.run_pure, hk]
    congr 2
    rw [List.extract_toArray, List.extract_eq_take_drop]
    congr 2; omega
  · have hag : (match agOf P t with | some true => true | _ => false) = false := by
      cases h : agOf P t with
      | none => rfl
      | some b => cases b
                  · rfl
                  · exact absurd h ha
    have := h1 ha
    subst this
    have hoff : off < lx.length := by omega
    have hd : (lx.drop off).take 1 = [lx[off]] := by rw [List.drop_eq_getElem_cons hoff]; rfl
    have hv : asV P t [lx[off]] = lx[off] := by
      unfold asV
      cases h : agOf P t with
      | none => rfl
      | some b => cases b
                  · rfl
                  · exact absurd h ha
    unfold part
    rw [hd, hv]
    simp only [Sem.run_bind, run_isAgg' hu, Result.andThen_ok, Sem.run_ite, Bool.false_eq_true, if_false, List.getElem?_toArray, List.getElem?_eq_getElem hoff, Sem.run_pure]
def EqOk (P : Program) (D : Nat) (t : TypeId) (sh : List Sc) : Prop :=
 (agOf P t ≠ some true → sh.length = 1) ∧ (∃ d, P.underlying t = some d) ∧
 ∀ {I : Inj} {xs ys : List HV} {lx ly : List Value} {b : Bool}, VRs I xs lx → VRs I ys ly → eqSh sh xs ys = some b → ∀ w, (Op.equalIn D t (asV P t lx) (asV P t ly)).run P w = .ok b w
theorem VRs.take {I : Inj} : ∀ {xs : List HV} {l : List Value} (k : Nat), VRs I xs l → VRs I (xs.take k) (l.take k)
 | _, _, 0, _ => by simp; exact .nil
 | _, _, _ + 1, .nil => .nil
 | _, _, k + 1, .cons h r => .cons h (VRs.take k r)
theorem VRs.drop {I : Inj} : ∀ {xs : List HV} {l : List Value} (k : Nat), VRs I xs l → VRs I (xs.drop k) (l.drop k)
 | _, _, 0, h => h
 | _, _, _ + 1, .nil => .nil
 | _, _, k + 1, .cons _ r => VRs.drop k r
theorem VRs.len {I : Inj} : ∀ {xs : List HV} {l : List Value}, VRs I xs l → xs.length = l.length
 | _, _, .nil => rfl
 | _, _, .cons _ r => by simp [VRs.len r]
theorem eqFlat_run {g : TypeId → Option (List Sc)} {D : Nat} (hg : ∀ t sh, g t = some sh → EqOk P D t sh) : ∀ (fs : List Field) (i : Nat) {sh : List Sc}, kindFs P g i fs = some sh →
  ∀ {I : Inj} {xs ys : List HV} {lx ly : List Value} {b : Bool}, VRs I xs (lx.drop i) → VRs I ys (ly.drop i) → eqSh sh xs ys = some b → ∀ w, (Op.eqFields D lx.toArray ly.toArray fs).run P w = .ok b w
 | [], i, sh, h, I, xs, ys, lx, ly, b, hx, hy, he, w => by
  simp [kindFs] at h; subst h
  obtain ⟨_, _, rfl⟩ := eqSh_nil he
  rfl
 | f :: fs, i, sh, h, I, xs, ys, lx, ly, b, hx, hy, he, w => by
  unfold kindFs at h
  split at h
  case h_2 => cases h
  rename_i l hl
  split at h
  case h_2 => cases h
  rename_i r hc hr
  cases h
  simp only [Bool.and_eq_true, Bool.not_eq_true', decide_eq_false_iff_not] at hc
  obtain ⟨⟨⟨c1, c2⟩, c3⟩, c4⟩ := hc
  have c1 := Nat.eq_of_beq_eq_true c1
  have c3 := Nat.eq_of_beq_eq_true c3
  obtain ⟨inf, c4⟩ := Option.isSome_iff_exists.1 c4
  obtain ⟨b1, b2, e1, e2, e3⟩ := eqSh_app he
  obtain ⟨o1, ⟨dd, o2⟩, o3⟩ := hg _ _ hl
  have lenx := hx.len
  have leny := hy.len
  obtain ⟨q1, q2⟩ := eqSh_len he
  rw [List.length_append] at q1 q2
  rw [List.length_drop] at lenx leny
  have px := run_partV c4 o2 (lx := lx) (off := i) c3 (by omega) o1
  have py := run_partV c4 o2 (lx := ly) (off := i) c3 (by omega) o1
  have hq := o3 (hx.take l.length) (hy.take l.length) e1
  have ih := eqFlat_run hg fs (i + l.length) hr (by have := hx.drop l.length; rw [List.drop_drop] at this; exact this) (by have := hy.drop l.length; rw [List.drop_drop] at this; exact this) e2
  simp only [Op.eqFields, ne_eq, c2, not_false_eq_true, if_true, Sem.run_bind, c1, px, py, Result.andThen_ok, hq, Sem.run_ite]
  subst e3
  cases b1
  ·simp
  ·simp [ih]
theorem eqReps_run {e : TypeId} {D : Nat} {l : List Sc} {inf : TypeInfo} (hi : P.info? e = some inf) (hsz : sizeT P e = l.length) (hok : EqOk P D e l) : ∀ (m j : Nat) {I : Inj} {xs ys : List HV} {lx ly : List Value} {b : Bool},
  VRs I xs (lx.drop (j * l.length)) → VRs I ys (ly.drop (j * l.length)) → eqSh (reps m l) xs ys = some b → ∀ w, (Op.eqItems D e (P.cellsOf e) lx.toArray ly.toArray (List.range' j m)).run P w = .ok b w
 | 0, j, I, xs, ys, lx, ly, b, hx, hy, he, w => by
  simp only [reps] at he
  obtain ⟨_, _, rfl⟩ := eqSh_nil he
  rfl
 | m + 1, j, I, xs, ys, lx, ly, b, hx, hy, he, w => by
  simp only [reps] at he
  have hsz' : P.cellsOf e = l.length := hsz
  obtain ⟨b1, b2, e1, e2, e3⟩ := eqSh_app he
  obtain ⟨o1, ⟨dd, o2⟩, o3⟩ := hok
  have lenx := hx.len
  have leny := hy.len
  obtain ⟨q1, q2⟩ := eqSh_len he
  rw [List.length_append] at q1 q2
  rw [List.length_drop] at lenx leny
  have px := run_partV hi o2 (lx := lx) (off := j * l.length) hsz (by omega) o1
  have py := run_partV hi o2 (lx := ly) (off := j * l.length) hsz (by omega) o1
  have hq := o3 (hx.take l.length) (hy.take l.length) e1
  have es : j * l.length + l.length = (j + 1) * l.length := by rw [Nat.succ_mul]
  have ih := eqReps_run hi hsz ⟨o1, ⟨dd, o2⟩, o3⟩ m (j + 1) (by have := hx.drop l.length; rw [List.drop_drop, es] at this; exact this) (by have := hy.drop l.length; rw [List.drop_drop, es] at this; exact this) e2
  rw [List.range'_succ]
  simp only [Op.eqItems, Sem.run_bind, hsz', px, py, Result.andThen_ok, hq, Sem.run_ite]
  subst e3
  rw [hsz'] at ih
  cases b1
  ·simp
  ·simp [ih]
theorem flat_ok : ∀ (n : Nat) {t : TypeId} {sh : List Sc}, kindE P n t = some sh → ∀ D, EqOk P (n + D) t sh
 | 0, t, sh, h, D => by simp [kindE] at h
 | n + 1, t, sh, h, D => by
  rw [show n + 1 + D = (n + D) + 1 from by omega]
  unfold kindE at h
  split at h
  ·rename_i k hu
   cases h
   refine ⟨fun _ => rfl, ⟨_, hu⟩, fun {I xs ys lx ly b} hx hy he w => ?_⟩
   have ha : agOf P t = some false := by unfold agOf; rw [hu]
   rcases eqSh_one he with ⟨q, a, c, hs, rfl, rfl, rfl⟩ | ⟨a, c, hs, rfl, rfl, rfl⟩ | ⟨a, c, hs, rfl, rfl, rfl⟩ <;> try cases hs
   cases hx with
   | cons p q => cases hy with
    | cons p' q' =>
     cases p; cases p'; cases q; cases q'
     simp only [asV, ha]
     exact run_equalIn_int w (n + D) t _ _ a c hu
  ·rename_i hu
   cases h
   refine ⟨fun _ => rfl, ⟨_, hu⟩, fun {I xs ys lx ly b} hx hy he w => ?_⟩
   have ha : agOf P t = some false := by unfold agOf; rw [hu]
   rcases eqSh_one he with ⟨q, a, c, hs, rfl, rfl, rfl⟩ | ⟨a, c, hs, rfl, rfl, rfl⟩ | ⟨a, c, hs, rfl, rfl, rfl⟩ <;> try cases hs
   cases hx with
   | cons p q => cases hy with
    | cons p' q' =>
     cases p; cases p'; cases q; cases q'
     simp only [asV, ha]
     exact run_equalIn_bool' w (n + D) t a c hu
  ·rename_i hu
   cases h
   refine ⟨fun _ => rfl, ⟨_, hu⟩, fun {I xs ys lx ly b} hx hy he w => ?_⟩
   have ha : agOf P t = some false := by unfold agOf; rw [hu]
   rcases eqSh_one he with ⟨q, a, c, hs, rfl, rfl, rfl⟩ | ⟨a, c, hs, rfl, rfl, rfl⟩ | ⟨a, c, hs, rfl, rfl, rfl⟩ <;> try cases hs
   cases hx with
   | cons p q => cases hy with
    | cons p' q' =>
     cases p; cases p'; cases q; cases q'
     simp only [asV, ha]
     exact run_equalIn_string w (n + D) t a c hu
  ·rename_i fs hu
   split at h
   case h_2 => cases h
   rename_i hst _
   have ha : agOf P t = some true := by unfold agOf; rw [hu]
   refine ⟨fun hh => absurd ha hh, ⟨_, hu⟩, fun {I xs ys lx ly b} hx hy he w => ?_⟩
   simp only [asV, ha]
   have hfo : P.underlying t = some (.struct (P.fieldsOf t)) := by simp [Program.fieldsOf, hu]
   have hfe : P.fieldsOf t = fs := by simp [Program.fieldsOf, hu]
   rw [run_equalIn_struct (P := P) w (n + D) t lx.toArray ly.toArray hfo hst, hfe]
   exact eqFlat_run (fun t sh e => flat_ok n e D) fs.toList 0 h (by simpa using hx) (by simpa using hy) he w
  ·rename_i m e hu
   split at h
   case h_2 => cases h
   rename_i l hl
   split at h
   case h_2 => cases h
   rename_i hc _
   cases h
   simp only [Bool.and_eq_true] at hc
   obtain ⟨c1, c2⟩ := hc
   have c1 := Nat.eq_of_beq_eq_true c1
   obtain ⟨inf, c2⟩ := Option.isSome_iff_exists.1 c2
   have ha : agOf P t = some true := by unfold agOf; rw [hu]
   refine ⟨fun hh => absurd ha hh, ⟨_, hu⟩, fun {I xs ys lx ly b} hx hy he w => ?_⟩
   simp only [asV, ha]
   rw [run_equalIn_array w (n + D) lx.toArray ly.toArray hu c2, List.range_eq_range']
   exact eqReps_run c2 c1 (flat_ok n hl D) m 0 (by simpa using hx) (by simpa using hy) he w
  ·cases h
theorem flat_guard {n : Nat} {t : TypeId} {sh : List Sc} (h : kindE P n t = some sh) (ha : agOf P t = some true) : P.eqGuardType P.depth t = false := by
 cases n with
 | zero => simp [kindE] at h
 | succ n =>
  unfold kindE at h
  unfold agOf at ha
  split at h
  all_goals (rename_i hu; try rw [hu] at ha)
  all_goals try cases ha
  ·split at h
   ·assumption
   ·cases h
  ·split at h
   ·split at h
    ·assumption
    ·cases h
   ·cases h
  ·cases h
end
set_option linter.unusedSectionVars false
variable [Sites]
section
variable {E : Env} {P : Program} {I0 : Inj} {H0 : Heap} {w0 : World} {nt : Cx} {β : Nat → Option Nat} {I : Inj} {H : Heap} {w : World} {S : St} {a : Act}
variable {K : SV → St → M Leaf} {n : Nat} {r : Leaf × Heap} {next : Act → World → Prop} {Q : Exit → Act → World → Prop} {o : Oper} {ro : Option Nat}
theorem quick_run {α : Type} {s : Sem α} : ∀ {v : α}, quick P s = some v → ∀ w, s.run P w = .ok v w := by
 induction s with
 | pure x => intro v h w; simp [quick] at h; subst h; rfl
 | program k ih => intro v h w; simp only [quick] at h; exact ih _ h w
 | _ => intro v h w; simp [quick] at h
theorem toV_VR {I : Inj} {h : HV} {u v : Value} (e : toV h = some u) (hv : VR I h v) : v = u := by
 cases hv <;> simp [toV] at e <;> exact e
theorem backV_VR {I : Inj} {v : Value} {h : HV} (e : backV v = some h) : VR I h v := by
 cases v <;> simp [backV] at e <;> subst e <;> constructor
theorem eqFs_run (d : Nat) : ∀ (fs : List Field) (i : Nat) (xs ys : List HV) (lx ly : List Value) (I : Inj) (e : Bool), VRs I xs (lx.drop i) → VRs I ys (ly.drop i) → eqFs P i fs xs ys = some e →
  ∀ w, (Op.eqFields (d + 1) lx.toArray ly.toArray fs).run P w = .ok e w
 | [], i, [], [], lx, ly, I, e, hx, hy, he, w => by simp [eqFs] at he; subst he; rfl
 | [], i, [], y :: ys, lx, ly, I, e, hx, hy, he, w => by simp [eqFs] at he
 | [], i, x :: xs, ys, lx, ly, I, e, hx, hy, he, w => by simp [eqFs] at he
 | f :: fs, i, [], ys, lx, ly, I, e, hx, hy, he, w => by simp [eqFs] at he
 | f :: fs, i, x :: xs, [], lx, ly, I, e, hx, hy, he, w => by simp [eqFs] at he
 | f :: fs, i, x :: xs, y :: ys, lx, ly, I, e, hx, hy, he, w => by
  obtain ⟨x', hx0, hxr, hx'⟩ : ∃ x', lx[i]? = some x' ∧ VRs I xs (lx.drop (i + 1)) ∧ VR I x x' := by
   generalize hg : lx.drop i = g at hx
   cases hx with
   | cons p q =>
    rename_i v vs
    refine ⟨v, ?_, ?_, p⟩
    ·have := congrArg (·[0]?) hg; simpa using this
    ·have := congrArg (List.drop 1) hg; simp at this; rw [this]; exact q
  obtain ⟨y', hy0, hyr, hy'⟩ : ∃ y', ly[i]? = some y' ∧ VRs I ys (ly.drop (i + 1)) ∧ VR I y y' := by
   generalize hg : ly.drop i = g at hy
   cases hy with
   | cons p q =>
    rename_i v vs
    refine ⟨v, ?_, ?_, p⟩
    ·have := congrArg (·[0]?) hg; simpa using this
    ·have := congrArg (List.drop 1) hg; simp at this; rw [this]; exact q
  have key : ∀ {dd : TypeDesc} (hu : P.underlying f.type = some dd) (hd : (match dd with | .struct _ | .array _ _ => true | _ => false) = false) (hoff : f.offset = i) (hnm : f.name ≠ "_") (t b : Bool) (ht : eqFs P (i + 1) fs xs ys = some t)
    (hq : ∀ w, (Op.equalIn (d + 1) f.type x' y').run P w = .ok b w) (hb : e = cond b t false), (Op.eqFields (d + 1) lx.toArray ly.toArray (f :: fs)).run P w = .ok e w := by
   intro dd hu hd hoff hnm t b ht hq hb
   have hag : ∀ w, (isAgg f.type).run P w = .ok false w := by
    intro w
    simp only [isAgg, Sem.run_bind, run_underlying hu, Result.andThen_ok]
    cases dd <;> first | rfl | cases hd
   have ih := eqFs_run d fs (i + 1) xs ys lx ly I t hxr hyr ht w
   simp only [Op.eqFields, if_pos hnm, Sem.run_bind, part, hag, Result.andThen_ok, Bool.false_eq_true, if_false, hoff, List.getElem?_toArray, hx0, hy0, Sem.run_pure, hq, Sem.run_ite]
   cases b
   ·simp [hb]
   ·simp [hb, ih]
  simp only [eqFs] at he
  split at he
  ·rename_i _ _ _ t hoff hnm ht
   have hoff : f.offset = i := Nat.eq_of_beq_eq_true hoff
   have hnm : f.name ≠ "_" := by simpa using hnm
   split at he
   ·rename_i k0 k1 av k2 bv hu
    split at he
    ·rename_i hk
     cases he; cases hx'; cases hy'
     have hk : k1 = k2 := by simpa using hk
     subst hk
     exact key hu rfl hoff hnm t (av == bv) ht (fun w => run_equalIn_int w d f.type k1 k0 av bv hu) rfl
    ·cases he
   ·rename_i av bv hu
    cases he; cases hx'; cases hy'
    exact key hu rfl hoff hnm t (av == bv) ht (fun w => run_equalIn_bool' w d f.type av bv hu) rfl
   ·rename_i av bv hu
    cases he; cases hx'; cases hy'
    exact key hu rfl hoff hnm t _ ht (fun w => run_equalIn_string w d f.type av bv hu) rfl
   ·cases he
  ·cases he
theorem eqGuard_sc {va vb : HV} {ua ub : Value} {op : BinOp} {t : TypeId} {x y : Operand} (ea : toV va = some ua) (eb : toV vb = some ub) (w : World) : (eqGuard op t x y ua ub).run P w = .ok () w := by
 cases va <;> simp [toV] at ea <;> subst ea <;> cases vb <;> simp [toV] at eb <;> subst eb <;> cases op <;> rfl
theorem run_eq_ptr {t el : TypeId} (hu : P.underlying t = some (.pointer el)) (p : Option Addr) (d : Nat) (w : World) : (Op.equalIn (d + 1) t (.pointer p) (.pointer none)).run P w = .ok p.isNone w := by
 cases p <;> simp [Op.equalIn, run_underlying hu]
theorem run_eq_sl {t el : TypeId} (hu : P.underlying t = some (.slice el)) (p : Option Addr) (l c l2 c2 : Nat) (d : Nat) (w : World) : (Op.equalIn (d + 1) t (.slice p l c) (.slice none l2 c2)).run P w = .ok p.isNone w := by
 cases p <;> simp [Op.equalIn, run_underlying hu]
theorem run_cmp {t : TypeId} {x y : Operand} {u v : Value} {b : Bool} (hg : ∀ w, (Op.equalIn 10000 t u v).run P w = .ok b w) (hb1 : ∀ w, (binOp .eql t u v).run P w = ((Op.equalIn 10000 t u v).run P w).andThen fun b w' => .ok (.bool b) w')
  (hb2 : ∀ w, (binOp .neq t u v).run P w = ((Op.equalIn 10000 t u v).run P w).andThen fun b w' => .ok (.bool (!b)) w') (h1 : ∀ w, (eqGuard .eql t x y u v).run P w = .ok () w) (h2 : ∀ w, (eqGuard .neq t x y u v).run P w = .ok () w) (w : World) :
  ((do eqGuard .eql t x y u v; binOp .eql t u v : Sem Value).run P w = .ok (.bool b) w) ∧ ((do eqGuard .neq t x y u v; binOp .neq t u v : Sem Value).run P w = .ok (.bool (!b)) w) := by
 simp only [Sem.run_bind, h1, h2, hb1, hb2, hg, Result.andThen_ok, and_self]
theorem cmp_ptr {t el : TypeId} {x y : Operand} (hu : P.underlying t = some (.pointer el)) (p : Option Addr) (w : World) :
  ((do eqGuard .eql t x y (.pointer p) (.pointer none); binOp .eql t (.pointer p) (.pointer none) : Sem Value).run P w = .ok (.bool p.isNone) w) ∧
  ((do eqGuard .neq t x y (.pointer p) (.pointer none); binOp .neq t (.pointer p) (.pointer none) : Sem Value).run P w = .ok (.bool (!p.isNone)) w) :=
 run_cmp (fun w => run_eq_ptr hu p 9999 w) (fun w => by rw [show binOp .eql t (.pointer p) (.pointer none) = (do pure (.bool (← Op.equalIn 10000 t (.pointer p) (.pointer none)))) from rfl]; simp only [Sem.run_bind, Sem.run_pure])
  (fun w => by rw [show binOp .neq t (.pointer p) (.pointer none) = (do pure (.bool (!(← Op.equalIn 10000 t (.pointer p) (.pointer none))))) from rfl]; simp only [Sem.run_bind, Sem.run_pure]) (fun _ => rfl) (fun _ => rfl) w
theorem cmp_sl {t el : TypeId} {x y : Operand} (hu : P.underlying t = some (.slice el)) (p : Option Addr) (l c l2 c2 : Nat) (w : World) :
  ((do eqGuard .eql t x y (.slice p l c) (.slice none l2 c2); binOp .eql t (.slice p l c) (.slice none l2 c2) : Sem Value).run P w = .ok (.bool p.isNone) w) ∧
  ((do eqGuard .neq t x y (.slice p l c) (.slice none l2 c2); binOp .neq t (.slice p l c) (.slice none l2 c2) : Sem Value).run P w = .ok (.bool (!p.isNone)) w) :=
 run_cmp (fun w => run_eq_sl hu p l c l2 c2 9999 w) (fun w => by rw [show binOp .eql t (.slice p l c) (.slice none l2 c2) = (do pure (.bool (← Op.equalIn 10000 t (.slice p l c) (.slice none l2 c2)))) from rfl]; simp only [Sem.run_bind, Sem.run_pure])
  (fun w => by rw [show binOp .neq t (.slice p l c) (.slice none l2 c2) = (do pure (.bool (!(← Op.equalIn 10000 t (.slice p l c) (.slice none l2 c2))))) from rfl]; simp only [Sem.run_bind, Sem.run_pure]) (fun _ => rfl) (fun _ => rfl) w
theorem eqSt_run {t : TypeId} {xs ys : List HV} {lx ly : List Value} {e : Bool} {x y : Operand} (he : eqSt P t xs ys = some e) (hx1 : VRs I xs lx) (hy1 : VRs I ys ly) (w : World) :
  ((do eqGuard .eql t x y (.agg lx.toArray) (.agg ly.toArray); binOp .eql t (.agg lx.toArray) (.agg ly.toArray) : Sem Value).run P w = .ok (.bool e) w) ∧
  ((do eqGuard .neq t x y (.agg lx.toArray) (.agg ly.toArray); binOp .neq t (.agg lx.toArray) (.agg ly.toArray) : Sem Value).run P w = .ok (.bool (!e)) w) := by
 unfold eqSt at he
 split at he
 ·rename_i fs hu
  split at he
  ·rename_i hst hgu
   have hfo : P.underlying t = some (.struct (P.fieldsOf t)) := by simp [Program.fieldsOf, hu]
   have hfe : P.fieldsOf t = fs := by simp [Program.fieldsOf, hu]
   refine run_cmp (fun w => ?_) (fun w => run_eql_struct w t _ _) (fun w => run_neq_struct w t _ _) (fun w => run_eqGuard_agg w .eql t x y _ _ hgu) (fun w => run_eqGuard_agg w .neq t x y _ _ hgu) w
   have hrun := run_equalIn_struct (P := P) w 9999 t lx.toArray ly.toArray hfo hst
   rw [hfe, eqFs_run 9998 fs.toList 0 xs ys lx ly I e (by simpa using hx1) (by simpa using hy1) he w] at hrun
   exact hrun
  ·cases he
 ·cases he
theorem eqFl_run {t : TypeId} {sh : List Sc} {xs ys : List HV} {lx ly : List Value} {e : Bool} {x y : Operand} (hs : kindT P t = some sh) (he : eqSh sh xs ys = some e) (hx1 : VRs I xs lx) (hy1 : VRs I ys ly) (w : World) :
  ((do eqGuard .eql t x y (.agg lx.toArray) (.agg ly.toArray); binOp .eql t (.agg lx.toArray) (.agg ly.toArray) : Sem Value).run P w = .ok (.bool e) w) ∧
  ((do eqGuard .neq t x y (.agg lx.toArray) (.agg ly.toArray); binOp .neq t (.agg lx.toArray) (.agg ly.toArray) : Sem Value).run P w = .ok (.bool (!e)) w) := by
 unfold kindT at hs
 split at hs
 case h_2 => cases hs
 rename_i ha
 have hgu := flat_guard hs ha
 refine run_cmp (fun w => ?_) (fun w => run_eql_struct w t _ _) (fun w => run_neq_struct w t _ _) (fun w => run_eqGuard_agg w .eql t x y _ _ hgu) (fun w => run_eqGuard_agg w .neq t x y _ _ hgu) w
 have := (flat_ok 9 hs 9991).2.2 hx1 hy1 he w
 simp only [asV, ha] at this
 exact this
theorem isPt_some {t : TypeId} (hp : isPt P t = true) : ∃ el, P.underlying t = some (.pointer el) := by
 unfold isPt at hp; split at hp
 ·exact ⟨_, by assumption⟩
 ·cases hp
theorem isIf_some {t : TypeId} (hp : isIf P t = true) : ∃ ms : Array (String × TypeId), P.underlying t = some (.interface ms) := by
 unfold isIf at hp; split at hp
 ·exact ⟨_, by assumption⟩
 ·cases hp
theorem nilC_some {y : Operand} (h : nilC y = true) : y = .const .nilIface := by
 unfold nilC at h; split at h
 ·rfl
 ·cases h
theorem run_eq_if {t : TypeId} {ms : Array (String × TypeId)} (hu : P.underlying t = some (.interface ms)) {b : Bool} {v : Value} (hv : VR I (.ifc b) v) (d : Nat) (w : World) : (Op.equalIn (d + 1) t v .nilIface).run P w = .ok (.not b) w := by
 cases hv <;> simp [Op.equalIn, run_underlying hu]
theorem cmp_if {t : TypeId} {ms : Array (String × TypeId)} (hu : P.underlying t = some (.interface ms)) {x : Operand} {b : Bool} {v : Value} (hv : VR I (.ifc b) v) (w : World) :
  ((do eqGuard .eql t x (.const .nilIface) v .nilIface; binOp .eql t v .nilIface : Sem Value).run P w = .ok (.bool (!b)) w) ∧ ((do eqGuard .neq t x (.const .nilIface) v .nilIface; binOp .neq t v .nilIface : Sem Value).run P w = .ok (.bool (!!b)) w) := by
 refine run_cmp (fun w => run_eq_if hu hv 9999 w) (fun w => ?_) (fun w => ?_) (fun w => ?_) (fun w => ?_) w
 ·have : binOp .eql t v .nilIface = (do pure (.bool (← Op.equalIn 10000 t v .nilIface))) := by cases hv <;> rfl
  rw [this]; simp only [Sem.run_bind, Sem.run_pure]
 ·have : binOp .neq t v .nilIface = (do pure (.bool (!(← Op.equalIn 10000 t v .nilIface)))) := by cases hv <;> rfl
  rw [this]; simp only [Sem.run_bind, Sem.run_pure]
 ·cases hv with
  | ifcN => cases x <;> rfl
  | ifc => rfl
 ·cases hv with
  | ifcN => cases x <;> rfl
  | ifc => rfl
theorem isSl_some {t : TypeId} (hp : isSl P t = true) : ∃ el, P.underlying t = some (.slice el) := by
 unfold isSl at hp; split at hp
 ·exact ⟨_, by assumption⟩
 ·cases hp
theorem exec_bin {op : BinOp} {t u : TypeId} {x y : Operand} (ho : o.op = .binOp op t x y u) {v : Value} {w' : World} (h : (do eqGuard op t x y (a.eval x) (a.eval y); binOp op t (a.eval x) (a.eval y) : Sem Value).run P w = .ok v w') :
  (execOp a.eval o).run P w = .ok (.value v) w' := by
 unfold execOp; rw [ho]
 simp only [Sem.run_bind] at h ⊢
 rw [h]; rfl
theorem ptr_none {I : Inj} {p : Option (Nat × Nat)} {v : Value} (h : VR I (.ptr p) v) : ∃ q, v = .pointer q ∧ q.isNone = p.isNone := by
 cases h <;> exact ⟨_, rfl, rfl⟩
theorem sl_none {I : Inj} {s : Sl} {v : Value} (h : VR I (.sl s) v) : ∃ q l c, v = .slice q l c ∧ q.isNone = s.p.isNone := by
 cases h <;> exact ⟨_, _, _, rfl, rfl⟩
theorem slnil {I : Inj} {v : Value} (h : VR I (.sl ⟨none, 0, 0, none⟩) v) : v = .slice none 0 0 := by cases h; rfl
theorem ptrnil {I : Inj} {v : Value} (h : VR I (.ptr none) v) : v = .pointer none := by cases h; rfl
theorem shD_run {op : BinOp} {t : TypeId} {x y : Operand} {va vb v : HV} {g : Bool} {ua ub : Value} (h : shD op va vb = some (g, v)) (hg : g = true) (ha : VR I va ua) (hb : VR I vb ub) (w : World) :
  ∃ r, VR I v r ∧ (do eqGuard op t x y ua ub; binOp op t ua ub : Sem Value).run P w = .ok r w := by
 unfold shD at h
 split at h <;> cases h
 ·rename_i k a k' b
  have hh := hg
  cases ha; cases hb
  have hh : ¬ b < 0 := by simp at hh; omega
  exact ⟨_, VR.int _ _, by simp [eqGuard, binOp, Op.shift, hh]⟩
 ·rename_i k a k' b
  have hh := hg
  cases ha; cases hb
  have hh : ¬ b < 0 := by simp at hh; omega
  exact ⟨_, VR.int _ _, by simp [eqGuard, binOp, Op.shift, hh]⟩
 ·rename_i a b
  have hh := hg
  cases ha; cases hb
  have hh := of_decide_eq_true hh
  refine ⟨_, VR.str _, ?_⟩
  simp [eqGuard, binOp, Op.stringOp]
  omega
 ·rename_i k a k' b
  have hh := hg
  cases ha; cases hb
  have hk : k = k' ∧ ¬ b = 0 := by simpa using hh
  obtain ⟨rfl, hb0⟩ := hk
  exact ⟨_, VR.int _ _, by simp [eqGuard, binOp, Op.intDiv, hb0]⟩
 ·rename_i k a k' b
  have hh := hg
  cases ha; cases hb
  have hk : k = k' ∧ ¬ b = 0 := by simpa using hh
  obtain ⟨rfl, hb0⟩ := hk
  exact ⟨_, VR.int _ _, by simp [eqGuard, binOp, Op.intDiv, hb0]⟩
theorem bin_ok {op : BinOp} {t u : TypeId} {x y : Operand} (hI : Inv E P I0 H0 w0 nt β I H w S a) (h : binD P op t (S.ev E x) (S.ev E y) S K H n = some r) (ho : o.op = .binOp op t x y u)
  (hk : Kont E P I0 H0 w0 nt K n r a o.dst next) : o.wpIn (FW ro) 0 P a w next Q := by
 replace h : app (binD P op t (S.ev E x) (S.ev E y) S K) H n = some r := h
 unfold binD at h
 split at h
 ·rename_i _ _ va vb ex ey
  have hx := hI.evv ex
  have hy := hI.evv ey
  split at h
  ·rename_i g v hs
   obtain ⟨hg, h⟩ := gd_some h
   obtain ⟨rv, r1, r2⟩ := shD_run (P := P) (t := t) (x := x) (y := y) hs hg hx hy w
   exact wp_value (v := rv) (w' := w) (exec_bin ho r2) (hk _ _ _ _ _ _ _ h hI r1)
  rename_i hsn
  split at h
  ·rename_i ua ub ea eb
   have hx2 := toV_VR ea hx
   have hy2 := toV_VR eb hy
   split at h
   ·rename_i rv hq
    split at h
    ·rename_i hh hb
     refine wp_value (v := rv) (w' := w) (exec_bin ho ?_) (hk _ _ _ _ _ _ _ h hI (backV_VR hb))
     rw [hx2, hy2]
     simp only [Sem.run_bind, eqGuard_sc ea eb, Result.andThen_ok, quick_run hq]
    ·exact (stk_some h).elim
   ·exact (stk_some h).elim
  ·split at h
   ·split at h
    ·rename_i hp
     obtain ⟨el, hu⟩ := isPt_some hp
     obtain ⟨q, hq, hn⟩ := ptr_none hx
     refine wp_value (w' := w) (exec_bin ho ?_) (hk _ _ _ _ _ _ _ h hI (VR.bool _))
     rw [hq, ptrnil hy, ← hn]; exact (cmp_ptr hu q w).1
    ·exact (stk_some h).elim
   ·split at h
    ·rename_i hp
     obtain ⟨el, hu⟩ := isPt_some hp
     obtain ⟨q, hq, hn⟩ := ptr_none hx
     refine wp_value (w' := w) (exec_bin ho ?_) (hk _ _ _ _ _ _ _ h hI (VR.bool _))
     rw [hq, ptrnil hy, ← hn]; exact (cmp_ptr hu q w).2
    ·exact (stk_some h).elim
   ·split at h
    ·rename_i hp
     obtain ⟨el, hu⟩ := isSl_some hp
     obtain ⟨q, l, c, hq, hn⟩ := sl_none hx
     refine wp_value (w' := w) (exec_bin ho ?_) (hk _ _ _ _ _ _ _ h hI (VR.bool _))
     rw [hq, slnil hy, ← hn]; exact (cmp_sl hu q l c 0 0 w).1
    ·exact (stk_some h).elim
   ·split at h
    ·rename_i hp
     obtain ⟨el, hu⟩ := isSl_some hp
     obtain ⟨q, l, c, hq, hn⟩ := sl_none hx
     refine wp_value (w' := w) (exec_bin ho ?_) (hk _ _ _ _ _ _ _ h hI (VR.bool _))
     rw [hq, slnil hy, ← hn]; exact (cmp_sl hu q l c 0 0 w).2
    ·exact (stk_some h).elim
   ·split at h
    ·split at h
     ·rename_i e he
      obtain ⟨lx, hlx, hx1, _⟩ := VRs_toList_agg hx
      obtain ⟨ly, hly, hy1, _⟩ := VRs_toList_agg hy
      refine wp_value (w' := w) (exec_bin ho ?_) (hk _ _ _ _ _ _ _ h hI (VR.bool _))
      rw [hlx, hly]; exact (eqSt_run he hx1 hy1 w).1
     ·split at h
      ·rename_i sh hs
       obtain ⟨e, he, h⟩ := eqM_some h
       obtain ⟨lx, hlx, hx1, _⟩ := VRs_toList_agg hx
       obtain ⟨ly, hly, hy1, _⟩ := VRs_toList_agg hy
       refine wp_value (w' := w) (exec_bin ho ?_) (hk _ _ _ _ _ _ _ h hI (VR.bool _))
       rw [hlx, hly]; exact (eqFl_run hs he hx1 hy1 w).1
      ·exact (stk_some h).elim
    ·split at h
     ·rename_i sh hs
      obtain ⟨e, he, h⟩ := eqM_some h
      obtain ⟨lx, hlx, hx1, _⟩ := VRs_toList_agg hx
      obtain ⟨ly, hly, hy1, _⟩ := VRs_toList_agg hy
      refine wp_value (w' := w) (exec_bin ho ?_) (hk _ _ _ _ _ _ _ h hI (VR.bool _))
      rw [hlx, hly]; exact (eqFl_run hs he hx1 hy1 w).1
     ·exact (stk_some h).elim
   ·split at h
    ·split at h
     ·rename_i e he
      obtain ⟨lx, hlx, hx1, _⟩ := VRs_toList_agg hx
      obtain ⟨ly, hly, hy1, _⟩ := VRs_toList_agg hy
      refine wp_value (w' := w) (exec_bin ho ?_) (hk _ _ _ _ _ _ _ h hI (VR.bool _))
      rw [hlx, hly]; exact (eqSt_run he hx1 hy1 w).2
     ·split at h
      ·rename_i sh hs
       obtain ⟨e, he, h⟩ := eqM_some h
       obtain ⟨lx, hlx, hx1, _⟩ := VRs_toList_agg hx
       obtain ⟨ly, hly, hy1, _⟩ := VRs_toList_agg hy
       refine wp_value (w' := w) (exec_bin ho ?_) (hk _ _ _ _ _ _ _ h hI (VR.bool _))
       rw [hlx, hly]; exact (eqFl_run hs he hx1 hy1 w).2
      ·exact (stk_some h).elim
    ·split at h
     ·rename_i sh hs
      obtain ⟨e, he, h⟩ := eqM_some h
      obtain ⟨lx, hlx, hx1, _⟩ := VRs_toList_agg hx
      obtain ⟨ly, hly, hy1, _⟩ := VRs_toList_agg hy
      refine wp_value (w' := w) (exec_bin ho ?_) (hk _ _ _ _ _ _ _ h hI (VR.bool _))
      rw [hlx, hly]; exact (eqFl_run hs he hx1 hy1 w).2
     ·exact (stk_some h).elim
   ·exact (stk_some h).elim
 ·exact (stk_some h).elim
theorem if_ok {op : BinOp} {t u : TypeId} {x y : Operand} (hI : Inv E P I0 H0 w0 nt β I H w S a) (h : ifD P op t y (S.ev E x) S K (binD P op t (S.ev E x) (S.ev E y) S K) H n = some r) (ho : o.op = .binOp op t x y u)
  (hk : Kont E P I0 H0 w0 nt K n r a o.dst next) : o.wpIn (FW ro) 0 P a w next Q := by
 replace h : app (ifD P op t y (S.ev E x) S K (binD P op t (S.ev E x) (S.ev E y) S K)) H n = some r := h
 unfold ifD at h
 split at h
 ·rename_i b hn ex
  have hy := nilC_some hn
  subst hy
  have hx := hI.evv ex
  split at h
  ·rename_i hp
   obtain ⟨ms, hu⟩ := isIf_some hp
   exact wp_value (w' := w) (exec_bin ho (cmp_if hu hx w).1) (hk _ _ _ _ _ _ _ h hI (VR.bool _))
  ·rename_i hp
   obtain ⟨ms, hu⟩ := isIf_some hp
   exact wp_value (w' := w) (exec_bin ho (by have := (cmp_if hu hx w (x := x)).2; rwa [Bool.not_not] at this)) (hk _ _ _ _ _ _ _ h hI (VR.bool _))
  ·exact (stk_some h).elim
 ·exact bin_ok hI h ho hk
theorem un_ok {op : UnOp} {t : TypeId} {x : Operand} (hI : Inv E P I0 H0 w0 nt β I H w S a) (h : unD P op (S.ev E x) S K H n = some r) (ho : o.op = .unOp op t x)
  (hk : Kont E P I0 H0 w0 nt K n r a o.dst next) : o.wpIn (FW ro) 0 P a w next Q := by
 replace h : app (unD P op (S.ev E x) S K) H n = some r := h
 unfold unD at h
 split at h
 ·rename_i _ va ex
  have hx := hI.evv ex
  split at h
  ·rename_i ua ea
   have hx2 := toV_VR ea hx
   split at h
   ·rename_i rv hq
    split at h
    ·rename_i hh hb
     exact wp_value (v := rv) (w' := w) (by simp [execOp, ho, hx2, quick_run hq]) (hk _ _ _ _ _ _ _ h hI (backV_VR hb))
    ·exact (stk_some h).elim
   ·exact (stk_some h).elim
  ·exact (stk_some h).elim
 ·exact (stk_some h).elim
theorem conv_ok {s d : TypeId} {x : Operand} (hI : Inv E P I0 H0 w0 nt β I H w S a) (h : convD P s d (S.ev E x) S K H n = some r) (ho : o.op = .convert s d x)
  (hk : Kont E P I0 H0 w0 nt K n r a o.dst next) : o.wpIn (FW ro) 0 P a w next Q := by
 replace h : app (convD P s d (S.ev E x) S K) H n = some r := h
 unfold convD at h
 split at h
 ·rename_i _ va ex
  have hx := hI.evv ex
  generalize hva : a.eval x = v1 at hx
  split at h
  ·rename_i k1 k2 k3 m hu1 hu2
   cases hx
   exact wp_value (v := .int k2 (k2.wrap m)) (w' := w) (by simp [execOp, ho, hva, convert, run_underlying hu1, run_underlying hu2, Conv.intToInt]) (hk _ _ _ _ _ _ _ h hI (VR.int _ _))
  ·rename_i st hu1 hu2
   cases hx
   exact wp_value (v := .string st) (w' := w) (by simp [execOp, ho, hva, convert, run_underlying hu1, run_underlying hu2]) (hk _ _ _ _ _ _ _ h hI (VR.str _))
  ·exact (stk_some h).elim
 ·exact (stk_some h).elim
end
end Go.Proofs.YtbphjihgbenkdaaGreat.HQ
