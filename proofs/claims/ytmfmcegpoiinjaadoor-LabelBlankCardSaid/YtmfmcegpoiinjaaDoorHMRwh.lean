/- What the rows of law26 share: the variables, laid; what came in. Conditions: none but the statements' own. -/
import Derived.Test.YtmfmcegpoiinjaaDoorHM4b
import Derived.Test.YtmfmcegpoiinjaaDoorHMZg
import Derived.Test.YtmfmcegpoiinjaaDoorHMR7
import Derived.LaidMore
import Derived.MakeChecks
import Derived.Test.YtmfmcegpoiinjaaDoorRows
import Derived.Test.YtmfmcegpoiinjaaDoorTie
import Derived.Test.YtmfmcegpoiinjaaDoorCards
namespace Go.Proofs.YtmfmcegpoiinjaaDoor
open Go Go.ChangeShapes Go.WideShapes Go.ChangeAt Go.RowKit Go.Proofs.YtmfmcegpoiinjaaDoor.HM
set_option maxRecDepth 100000
theorem Tryd.own : ownKnob Tryd.prog.godebug = none := by kernel_rfl
theorem Tryd.laidOut : laidOutB Tryd.prog = true := by kernel_rfl
def RO (H : Heap) : Prop := ∀ b cs ro, H.get b = .cells cs ro → ro = true ∧ b < H.n
abbrev laidL : List (String × DataW Unit) := Rows.labelWritesRow.laid
theorem gl0 : Tryd.prog.globalNamed "countermand/label.shapes" = some 0 := by kernel_rfl
theorem gl1 : Tryd.prog.globalNamed "countermand/label.words" = some 1 := by kernel_rfl
theorem gl3 : Tryd.prog.globalNamed "internal/strconv.uint64pow10" = some 3 := by kernel_rfl
theorem gl8 : Tryd.prog.globalNamed "strconv.ErrSyntax" = some 8 := by kernel_rfl
theorem gl9 : Tryd.prog.globalNamed "strconv.ErrRange" = some 9 := by kernel_rfl
theorem gt0 : (Tryd.prog.globals[0]?).map (·.type) = some 91 := by kernel_rfl
theorem gt1 : (Tryd.prog.globals[1]?).map (·.type) = some 91 := by kernel_rfl
theorem gt3 : (Tryd.prog.globals[3]?).map (·.type) = some 128 := by kernel_rfl
theorem gt8 : (Tryd.prog.globals[8]?).map (·.type) = some 64 := by kernel_rfl
theorem gt9 : (Tryd.prog.globals[9]?).map (·.type) = some 64 := by kernel_rfl
theorem un91 : Tryd.prog.underlying 91 = some (.array 22 9) := by kernel_rfl
theorem un9 : Tryd.prog.underlying 9 = some .string := by kernel_rfl
theorem un3 : Tryd.prog.underlying 3 = some (.int .i64) := by kernel_rfl
theorem un128 : Tryd.prog.underlying 128 = some (.array 20 104) := by kernel_rfl
theorem un104 : Tryd.prog.underlying 104 = some (.int .u64) := by kernel_rfl
theorem un64 : ∃ ms, Tryd.prog.underlying 64 = some (.interface ms) := by
  have h : (match Tryd.prog.underlying 64 with | some (.interface _) => true | _ => false) = true := by kernel_rfl
  split at h
  · exact ⟨_, by assumption⟩
  · cases h
theorem co9 : Tryd.prog.cellsOf 9 = 1 := by kernel_rfl
theorem co91 : Tryd.prog.cellsOf 91 = 22 := by kernel_rfl
theorem co104 : Tryd.prog.cellsOf 104 = 1 := by kernel_rfl
theorem co128 : Tryd.prog.cellsOf 128 = 20 := by kernel_rfl
theorem max_cell {W : World} (h : W.ShapedOpen Tryd.prog) : ∃ m el fr c, W.heap[2]? = some (.cells c el fr) ∧ c[0]? = some (.int .i64 m) := by
  obtain ⟨m, hm⟩ := cell_of_shapedOpen_int (g := 2) (t := 3) (zero := #[.int .i64 0]) (k := .i64) h (of_decide_eq_true (by kernel_rfl)) (by kernel_rfl) rfl (by kernel_rfl) (by kernel_rfl) (by kernel_rfl)
  unfold World.cell? at hm
  simp only at hm
  split at hm
  · rename_i c el fr e
    exact ⟨m, el, fr, c, e, by simpa using hm⟩
  · cases hm
theorem str_cells {I : Inj} {ws : List (List UInt8)} {c : Array Value} (h : c.toList = ws.map fun l => Value.string ⟨l.toArray⟩) : ∀ (i : Nat) (x : HV), (ws.map fun w => HV.str (S w))[i]? = some x → ∃ v, c[i]? = some v ∧ VC I x v := by
  intro i x hx
  rw [List.getElem?_map] at hx
  obtain ⟨l, hl, rfl⟩ := Option.map_eq_some_iff.1 hx
  refine ⟨.string ⟨l.toArray⟩, ?_, .str _, rfl⟩
  rw [← Array.getElem?_toList, h, List.getElem?_map, hl]; rfl
/-- what came in with the variables. -/
theorem laid_open {W : World} (h : laidMetH Tryd.prog laidL W) (hs : W.ShapedOpen Tryd.prog) : ∃ I H, Still W I H ∧ (∀ q hb, noG q = some hb → I.j hb = some (q, 0)) ∧ Gl H := by
  rw [MakeChecks.laidMetH_plain _ _ _ (by kernel_rfl)] at h
  obtain ⟨m, elm, frm, cm, hm1, hm2⟩ := max_cell hs
  obtain ⟨ps, ⟨_, _, _, _, _, _, _, _, _, _, ⟨_, _, _, _, _, _, _, _, _, _, ⟨g3, t3, c3, f3, p3, q3, hg3, ht3, hv3, hd3, ⟨_, _, _, _, _, _, _, _, _, _, ⟨g9, t9, c9, f9, p9, q9, hg9, ht9, hv9, hd9, ⟨g8, t8, c8, f8, p8, q8, hg8, ht8, hv8, hd8, ⟨g1, t1, c1, f1, p1, q1, hg1, ht1, hv1, hd1, ⟨g0, t0, c0, f0, p0, q0, hg0, ht0, hv0, hd0, _⟩, _⟩, _⟩, _⟩, _⟩, _⟩, _⟩, _⟩, _, _⟩ := h
  obtain rfl := Option.some.inj (gl3.symm.trans hg3)
  obtain rfl := Option.some.inj (gl9.symm.trans hg9)
  obtain rfl := Option.some.inj (gl8.symm.trans hg8)
  obtain rfl := Option.some.inj (gl1.symm.trans hg1)
  obtain rfl := Option.some.inj (gl0.symm.trans hg0)
  obtain rfl := Option.some.inj (gt3.symm.trans ht3)
  obtain rfl := Option.some.inj (gt9.symm.trans ht9)
  obtain rfl := Option.some.inj (gt8.symm.trans ht8)
  obtain rfl := Option.some.inj (gt1.symm.trans ht1)
  obtain rfl := Option.some.inj (gt0.symm.trans ht0)
  obtain ⟨ms, hms⟩ := un64
  have z3 : c3.toList = Lib.pow10Tab.map fun z => Value.int .u64 z := Lib.cells_of_tab un128 un104 co104 co128 hd3
  obtain ⟨te9, pe9, z9⟩ := trod_isIface hms hd9
  obtain ⟨te8, pe8, z8⟩ := trod_isIface hms hd8
  have z1 : c1.toList = words.map fun l => Value.string ⟨l.toArray⟩ := cells_of_strs un91 un9 co9 co91 hd1
  have z0 : c0.toList = shapes.map fun l => Value.string ⟨l.toArray⟩ := cells_of_strs un91 un9 co9 co91 hd0
  obtain ⟨e3, r3, w3⟩ := var_heap gl3 hv3
  obtain ⟨e9, r9, w9⟩ := var_heap gl9 hv9
  obtain ⟨e8, r8, w8⟩ := var_heap gl8 hv8
  obtain ⟨e1, r1, w1⟩ := var_heap gl1 hv1
  obtain ⟨e0, r0, w0⟩ := var_heap gl0 hv0
  have s0 := Still.none W
  obtain ⟨s1, x1⟩ := s0.layT (obj := [I m]) (t := none) hm1 (fun i x hx => by
    match i, hx with
    | 0, hx => cases hx; exact ⟨_, hm2, .int _ _, rfl⟩) (fun _ _ e => by cases e)
  obtain ⟨s2, x2⟩ := s1.layT (obj := Lib.pow10Tab.map fun z => .int .u64 z) (t := some (e3, some Lib.pow10Tab.length)) w3 (fun i x hx => by
    rw [List.getElem?_map] at hx
    obtain ⟨z, hz, rfl⟩ := Option.map_eq_some_iff.1 hx
    exact ⟨.int .u64 z, by rw [← Array.getElem?_toList, z3, List.getElem?_map, hz]; rfl, .int _ _, rfl⟩) (fun _ _ e => by
    cases e
    exact ⟨rfl, fun k hk => by cases hk; have := congrArg List.length z3; simpa using this⟩)
  obtain ⟨s3, x3⟩ := s2.layT (obj := [.ifc true]) (t := none) w8 (fun i x hx => by
    match i, hx with
    | 0, hx => cases hx; exact ⟨.iface te8 pe8, by rw [← Array.getElem?_toList, z8]; rfl, .ifc, rfl⟩) (fun _ _ e => by cases e)
  obtain ⟨s4, x4⟩ := s3.layT (obj := [.ifc true]) (t := none) w9 (fun i x hx => by
    match i, hx with
    | 0, hx => cases hx; exact ⟨.iface te9 pe9, by rw [← Array.getElem?_toList, z9]; rfl, .ifc, rfl⟩) (fun _ _ e => by cases e)
  obtain ⟨s5, x5⟩ := s4.layT (obj := words.map fun w => .str (S w)) (t := none) w1 (str_cells z1) (fun _ _ e => by cases e)
  obtain ⟨s6, x6⟩ := s5.layT (obj := shapes.map fun w => .str (S w)) (t := none) w0 (str_cells z0) (fun _ _ e => by cases e)
  refine ⟨_, _, s6, ?_, ⟨Nat.le_refl 6, ⟨m, true, rfl⟩, ⟨true, e3, rfl, rfl⟩, ⟨true, true, rfl⟩, ⟨true, true, rfl⟩, ⟨true, rfl⟩, ⟨true, rfl⟩⟩⟩
  intro q hb hq
  have hq' : (q = 2 ∧ hb = 0) ∨ (q = 3 ∧ hb = 1) ∨ (q = 8 ∧ hb = 2) ∨ (q = 9 ∧ hb = 3) ∨ (q = 1 ∧ hb = 4) ∨ (q = 0 ∧ hb = 5) := by
    unfold noG lkG at hq
    simp only [lkG] at hq
    split at hq
    · rename_i e; have := Nat.eq_of_beq_eq_true e; cases hq; omega
    split at hq
    · rename_i e; have := Nat.eq_of_beq_eq_true e; cases hq; omega
    split at hq
    · rename_i e; have := Nat.eq_of_beq_eq_true e; cases hq; omega
    split at hq
    · rename_i e; have := Nat.eq_of_beq_eq_true e; cases hq; omega
    split at hq
    · rename_i e; have := Nat.eq_of_beq_eq_true e; cases hq; omega
    split at hq
    · rename_i e; have := Nat.eq_of_beq_eq_true e; cases hq; omega
    · cases hq
  rcases hq' with ⟨rfl, rfl⟩ | ⟨rfl, rfl⟩ | ⟨rfl, rfl⟩ | ⟨rfl, rfl⟩ | ⟨rfl, rfl⟩ | ⟨rfl, rfl⟩ <;> rfl
theorem gl_ext {H0 H : Heap} (h : Gl H0) (hn : H0.n ≤ H.n) (hg : ∀ b cs ro, H0.get b = .cells cs ro → H.get b = .cells cs ro) (ht : ∀ b, b < H0.n → H.ty b = H0.ty b) : Gl H := by
  have h6 := h.n
  obtain ⟨m, ro, h1⟩ := h.max
  obtain ⟨ro2, t, h2, h3⟩ := h.pow
  obtain ⟨b4, ro4, h4⟩ := h.e2
  obtain ⟨b5, ro5, h5⟩ := h.e3
  obtain ⟨ro6, h6'⟩ := h.words
  obtain ⟨ro7, h7⟩ := h.shapes
  exact ⟨by omega, ⟨m, ro, hg _ _ _ h1⟩, ⟨ro2, t, hg _ _ _ h2, by rw [ht 1 (by omega)]; exact h3⟩, ⟨b4, ro4, hg _ _ _ h4⟩, ⟨b5, ro5, hg _ _ _ h5⟩, ⟨ro6, hg _ _ _ h6'⟩, ⟨ro7, hg _ _ _ h7⟩⟩
/-- a start that meets the condition: the heap that the door's run leaves, the library's table laid. -/
noncomputable def wit (os : Os) : World := { World.doorLaid Tryd.prog 82 os with heap := (World.doorLaid Tryd.prog 82 os).heap.setIfInBounds 6 (.cells (Pinned.utf8FirstZ.map fun z : Nat => Value.int .u8 (Int.ofNat z)).toArray 139 (0, 0)) }
theorem door_met (os : Os) (args : Array Value) : laidMetH Tryd.prog laidL ((wit os).forCall (fun _ _ => 0) ⟨#[], args, []⟩).memory :=
  laidMetH_of_parts3 (fuel := 8) (laidMet_of_run' 8 (by kernel_rfl) (by kernel_rfl)) (by kernel_rfl) (by kernel_rfl)
theorem yes_run {m : M HV} {H : Heap} (h : wp m (fun v _ => v = .bool true) H) : ∃ n H', m H n = some (.bool true, H') := by
  obtain ⟨n, a, H', h1, rfl⟩ := h.run
  exact ⟨n, H', h1⟩
theorem u22 : Tryd.prog.underlying 22 = some (.slice 57) := by kernel_rfl
theorem u40 : Tryd.prog.underlying 40 = some (.slice 9) := by kernel_rfl
theorem u55 : Tryd.prog.underlying 55 = some (.int .i64) := by kernel_rfl
theorem z3 : sizeT Tryd.prog 3 = 1 := by kernel_rfl
theorem z9 : sizeT Tryd.prog 9 = 1 := by kernel_rfl
theorem z55 : sizeT Tryd.prog 55 = 1 := by kernel_rfl
theorem z57 : sizeT Tryd.prog 57 = 4 := by kernel_rfl
theorem ag22 : agOf Tryd.prog 22 = some false := by kernel_rfl
theorem ag40 : agOf Tryd.prog 40 = some false := by kernel_rfl
theorem ag3 : agOf Tryd.prog 3 = some false := by kernel_rfl
theorem ag9 : agOf Tryd.prog 9 = some false := by kernel_rfl
theorem f57a : fieldAt Tryd.prog 57 0 = some (55, 0) := by kernel_rfl
theorem f57b : fieldAt Tryd.prog 57 1 = some (3, 1) := by kernel_rfl
theorem f57c : fieldAt Tryd.prog 57 2 = some (3, 2) := by kernel_rfl
theorem f57d : fieldAt Tryd.prog 57 3 = some (3, 3) := by kernel_rfl
theorem args_one {H : Heap} {n : Nat} {t1 : TypeId} {xs : List HV} (h : ArgsTy Tryd.prog H n [t1] xs) : ∃ x, xs = [x] ∧ ArgTy Tryd.prog H n t1 x := by
  match xs, h with
  | [x], h => exact ⟨x, rfl, h.1⟩
theorem args_two {H : Heap} {n : Nat} {t1 t2 : TypeId} {xs : List HV} (h : ArgsTy Tryd.prog H n [t1, t2] xs) : ∃ x y, xs = [x, y] ∧ ArgTy Tryd.prog H n t1 x ∧ ArgTy Tryd.prog H n t2 y := by
  match xs, h with
  | [x, y], h => exact ⟨x, y, rfl, h.1, h.2.1⟩
theorem args_three {H : Heap} {n : Nat} {t1 t2 t3 : TypeId} {xs : List HV} (h : ArgsTy Tryd.prog H n [t1, t2, t3] xs) : ∃ x y z, xs = [x, y, z] ∧ ArgTy Tryd.prog H n t1 x ∧ ArgTy Tryd.prog H n t2 y ∧ ArgTy Tryd.prog H n t3 z := by
  match xs, h with
  | [x, y, z], h => exact ⟨x, y, z, rfl, h.1, h.2.1, h.2.2.1⟩
theorem in64 {x : Int} (h1 : IntKind.min .i64 ≤ x) (h2 : x ≤ IntKind.max .i64) : HM.Int64 x := by
  have e1 : IntKind.min .i64 = -9223372036854775808 := by rfl
  have e2 : IntKind.max .i64 = 9223372036854775807 := by rfl
  unfold HM.Int64; omega
theorem in_instr {H : Heap} {n : Nat} {cs : List HV} (h : Ty Tryd.prog H (n + 2) 57 cs) : ∃ x : Ins, cs = x.cs ∧ x.ok := by
  obtain ⟨hl, h1⟩ := h.field f57a
  obtain ⟨_, h2⟩ := h.field f57b
  obtain ⟨_, h3⟩ := h.field f57c
  obtain ⟨_, h4⟩ := h.field f57d
  rw [z57] at hl
  rw [z55] at h1
  rw [z3] at h2 h3 h4
  match cs, hl with
  | [a, b, c, d], _ =>
    obtain ⟨x, hx, hx1, hx2⟩ := h1.int u55
    obtain ⟨y, hy, hy1, hy2⟩ := h2.int un3
    obtain ⟨z, hz, hz1, hz2⟩ := h3.int un3
    obtain ⟨w, hw, hw1, hw2⟩ := h4.int un3
    simp at hx hy hz hw
    subst hx; subst hy; subst hz; subst hw
    exact ⟨⟨x, y, z, w⟩, rfl, ⟨in64 hx1 hx2, in64 hy1 hy2, in64 hz1 hz2, in64 hw1 hw2⟩⟩
theorem in_prog {H : Heap} (hro : RO H) {x : HV} (h : ArgTy Tryd.prog H 6 22 x) : ∃ s p, x = .sl s ∧ RProg H s p ∧ ∀ y ∈ p, y.ok := by
  obtain ⟨s, ls, e, hs, hl⟩ := (h.ty ag22).slice hro u22
  rw [z57] at hs
  obtain ⟨l, rfl, hf⟩ := choose_map (f := Ins.cs) (p := Ins.ok) fun x hx => in_instr (hl x hx)
  simp at e
  exact ⟨s, l, e, hs, hf⟩
theorem in_strs {H : Heap} (hro : RO H) {x : HV} (h : ArgTy Tryd.prog H 6 40 x) : ∃ s l, x = .sl s ∧ RStrs H s l ∧ s.opn = none ∧ ∀ y ∈ l, y.length ≤ 9223372036854775807 := by
  obtain ⟨s, ls, e, hs, ho, hl⟩ := (h.ty ag40).sliceN hro u40
  rw [z9] at hs
  obtain ⟨l, rfl, hf⟩ := choose_map (f := fun y : Bs => [HV.str (S y)]) (p := fun y => y.length ≤ 9223372036854775807) fun x hx => by
    obtain ⟨s, hs, hm⟩ := (hl x hx).str un9
    obtain ⟨t, rfl⟩ := S_of s
    rw [S_size] at hm
    have : maxLen ≤ 9223372036854775807 := by decide
    exact ⟨t, hs, by omega⟩
  simp at e
  exact ⟨s, l, e, hs, ho, hf⟩
theorem in_int {H : Heap} {x : HV} (h : ArgTy Tryd.prog H 6 3 x) : ∃ y, x = I y ∧ HM.Int64 y := by
  obtain ⟨y, hy, h1, h2⟩ := (h.ty ag3).int un3
  simp at hy
  exact ⟨y, hy, in64 h1 h2⟩
theorem in_str {H : Heap} {x : HV} (h : ArgTy Tryd.prog H 6 9 x) : ∃ t : Bs, x = .str (S t) ∧ t.length ≤ 9223372036854775807 := by
  obtain ⟨s, hs, hm⟩ := (h.ty ag9).str un9
  obtain ⟨t, rfl⟩ := S_of s
  rw [S_size] at hm
  have : maxLen ≤ 9223372036854775807 := by decide
  simp at hs
  exact ⟨t, hs, by omega⟩
end Go.Proofs.YtmfmcegpoiinjaaDoor
