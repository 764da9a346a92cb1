/- alive among pieces of memory; a deed of a law's list: walked. Conditions: none. -/
import Derived.Test.YtoogohhlmdgdpaaGreatHLAtw
import Derived.Test.YtoogohhlmdgdpaaGreatHLAte
namespace Go.Proofs.YtoogohhlmdgdpaaGreat.HL
open Go

abbrev deC (d : Dee) : List HV := [I d.k, I d.a, I d.b, .int .u8 (d.c.toNat : Int)]
section
variable {H0 : Heap} {P F F' : List HP} {Q : HV → List HP → Prop} [Sea] {n : Nat}
theorem alive_v {b : Nat} {cs : List HV} (h0 : ∀ x, H0.ty x = none) (ha : lkA Sea.cl n_witness_ahead = some f_witness_ahead) (h : Q (.bool true) [own rC b cs]) : Wp H0 [own rC b cs] (f_law30_alive (lv (n + 1)) []) Q := by
  refine Wp.old h0 fun {H R} hR => ?_
  refine s8_wp (fun xs => ?_) fun H' k => hR _ _ k h
  have e : stepD Sea.cl Sea.rn (lv n) (.func n_witness_ahead [] []) xs = f_witness_ahead (lv n) ([] ++ xs ++ []) := by unfold stepD; simp only [ha]
  rw [lv_succ, e, List.nil_append, List.append_nil]
  rfl
variable [SeaOk]
theorem law30_does_v {p : Nat} {x : TrS} {v : Vw} {d : Dee} [fd : Fnd P rTry p x F] [fv : Fnd F rView x.w v F'] (hv : VwP v) (ht : TOk v x.t)
    (h : Q (.tup []) (own rTry p { x with t := doT v x.t d } :: F)) : Wp H0 P (f_law30_does (lv (n + 1)) [.ptr (some (p, 0)), .agg (deC d)]) Q := by
  refine Wp.cl ?_
  unfold f_law30_does
  unfold doT at h
  refine go ⟨fun c => ?_, fun c => ⟨fun c1 => ?_, fun c1 => ⟨fun c2 => ?_, fun c2 => ⟨fun c3 => ?_, fun c3 => ⟨fun c4 => ?_, fun c4 => ⟨fun c5 => ?_, fun c5 => ⟨fun c6 => ?_, fun c6 => ⟨fun c7 => ?_, fun c7 => ⟨fun c8 => ?_, fun c8 => ?_⟩⟩⟩⟩⟩⟩⟩⟩⟩
  · rw [if_pos c] at h
    refine attempt_Load_v hv ht (go ⟨_, h, .refl⟩)
  · rw [if_neg c, if_pos c1] at h
    refine attempt_Store_v ht (go ⟨_, h, .refl⟩)
  · rw [if_neg c, if_neg c1, if_pos c2] at h
    refine attempt_Read_v hv ht (go ⟨_, h, .refl⟩)
  · rw [if_neg c, if_neg c1, if_neg c2, if_pos c3] at h
    refine attempt_Write_v hv ht (go ⟨_, h, .refl⟩)
  · rw [if_neg c, if_neg c1, if_neg c2, if_neg c3, if_pos c4] at h
    refine attempt_Create_v hv ht (go ⟨_, h, .refl⟩)
  · rw [if_neg c, if_neg c1, if_neg c2, if_neg c3, if_neg c4, if_pos c5] at h
    refine attempt_Remove_v hv ht (go ⟨_, h, .refl⟩)
  · rw [if_neg c, if_neg c1, if_neg c2, if_neg c3, if_neg c4, if_neg c5, if_pos c6] at h
    refine attempt_Rename_v hv ht (go ⟨_, h, .refl⟩)
  · rw [if_neg c, if_neg c1, if_neg c2, if_neg c3, if_neg c4, if_neg c5, if_neg c6, if_pos c7] at h
    refine attempt_Cut_v hv ht (go ⟨_, h, .refl⟩)
  · rw [if_neg c, if_neg c1, if_neg c2, if_neg c3, if_neg c4, if_neg c5, if_neg c6, if_neg c7, if_pos c8] at h
    refine attempt_Recv_v hv ht (go ⟨_, h, .refl⟩)
  · rw [if_neg c, if_neg c1, if_neg c2, if_neg c3, if_neg c4, if_neg c5, if_neg c6, if_neg c7, if_neg c8] at h
    exact ⟨_, h, .perm fd.p⟩
end
end Go.Proofs.YtoogohhlmdgdpaaGreat.HL
namespace Go.Proofs.YtoogohhlmdgdpaaGreat.HL
open Go

/-- a row whose slice is told by nobody. -/
def rBox {γ : Type} (k : HV → List HV) (f : γ → List HV) (sz p : Nat) (xs : List γ) : HP := fun h => ∃ s, Al [own rC p (k (.sl s)), own (rR f sz) s xs] h
instance {γ : Type} {k : HV → List HV} {f : γ → List HV} {sz p : Nat} {xs : List γ} : Opn (rBox k f sz) p xs Sl (fun _ => True) (fun s F => own rC p (k (.sl s)) :: own (rR f sz) s xs :: F) :=
  ⟨fun _ => ⟨fun ⟨s, h⟩ => ⟨s, trivial, h⟩, fun ⟨s, _, h⟩ => ⟨s, h⟩⟩, fun _ _ => rfl⟩
class SeaOf [Sea] : Prop where
  vl : lkA Sea.cl n_slices_Values_reads_Entry_reads_Entry_1 = some f_slices_Values_reads_Entry_reads_Entry_1
  ra : lkA Sea.rn 58353469 = some r0_slices_AppendSeq_reads_Entry_reads_Entry
  r0 : lkA Sea.rn 78258034 = some r0_witness_Of
  r1 : lkA Sea.rn 19334329 = some r1_witness_Of
section
variable {H0 : Heap} {P F F' : List HP} {Q : HV → List HP → Prop} {D : DD}
/-- the elements of a row, one by one. -/
theorem values_1_v {σ : Type} {b1 lp : Nat} {s : Sl} {l : List Rd} {τ : Option (Nat × Option Nat)} {F1 F2 : List HP} [fd : FndR P s τ Rd Rd.cs 3 l F1] [fb : Fnd F1 rC b1 [.sl s] F2] (q ex : Nat → σ → Prop) (M X : Nat → σ → List HP) (x0 : σ) (hq : q 0 x0) (h0 : Ent F2 (M 0 x0))
    (round : ∀ (A B : HP) i e x, l[i]? = some e → q i x → Wp H0 (A :: B :: M i x) (D (.yld lp) [.agg e.cs]) (fun a P' => (a = .bool true ∧ ∃ x', q (i + 1) x' ∧ Ent P' (A :: B :: M (i + 1) x')) ∨ (a = .bool false ∧ ex i x ∧ Ent P' (A :: B :: X i x))))
    (h1 : ∀ x, q l.length x → Q (.tup []) (own (rRt τ Rd.cs 3) s l :: own rC b1 [.sl s] :: M l.length x)) (h2 : ∀ i e x, l[i]? = some e → ex i x → Q (.tup []) (own (rRt τ Rd.cs 3) s l :: own rC b1 [.sl s] :: X i x)) :
    Wp H0 P (f_slices_Values_reads_Entry_reads_Entry_1 D [.yld lp, .ptr (some (b1, 0))]) Q := by
  refine Wp.cl ?_
  refine Wp.ent (P' := own (rRt τ Rd.cs 3) s l :: own rC b1 [.sl s] :: M 0 x0) ((Ent.perm fd.p).trans (Ent.head (fun _ => id) (.cons rfl h0))) ?_
  refine Wp.row (s := s) fun hr => ?_
  have hlen : s.len = l.length := hr.len
  have hcap := hr.cap
  have hlt := hr.lt
  unfold f_slices_Values_reads_Entry_reads_Entry_1
  refine go ?_
  refine Wp.forL (σ := σ) l.length (by omega) (by rw [hr.len]) (fun _ i => [I i]) (out := fun _ => []) (fun _ _ => rfl) q
    (fun i x => own (rRt τ Rd.cs 3) s l :: own rC b1 [.sl s] :: M i x) x0 rfl hq .refl ?_ ?_
  · intro i x hi hx
    have he : l[i]? = some l[i] := List.getElem?_eq_getElem hi
    generalize l[i] = e at he
    refine Wp.ixN rfl he fun _ _ => ?_
    refine go ?_
    refine (round _ _ i e x he hx).mono ?_
    rintro a P' (⟨rfl, x', hx', he'⟩ | ⟨rfl, hex, hX⟩)
    · refine go ?_
      exact ⟨x', rfl, hx', he'⟩
    · refine Wp.ent hX (go ?_)
      exact ⟨_, h2 i e x he hex, .refl⟩
  · intro x hx
    refine go ?_
    exact ⟨_, h1 x hx, .refl⟩
variable [Sea] [SeaOf] {n : Nat}
/-- Collect(Values(s)): a row of its own with the same. -/
theorem collect_v {s : Sl} {l : List Rd} {b1 : Nat} {τ : Option (Nat × Option Nat)} {F1 F2 : List HP} [fd : FndR P s τ Rd Rd.cs 3 l F1] [fb : Fnd F1 rC b1 [.sl s] F2] (hl : l.length ≤ 1000000)
    (h : ∀ s', Q (.sl s') (own (rR Rd.cs 3) s' l :: own (rRt τ Rd.cs 3) s l :: own rC b1 [.sl s] :: F2)) : Wp H0 P (f_slices_Collect_reads_Entry (lv (n + 2)) [.func n_slices_Values_reads_Entry_reads_Entry_1 [] [.ptr (some (b1, 0))]]) Q := by
  refine Wp.cl ?_
  refine Wp.ent (P' := own (rRt τ Rd.cs 3) s l :: own rC b1 [.sl s] :: F2) ((Ent.perm fd.p).trans (Ent.head (fun _ => id) (.cons rfl .refl))) ?_
  unfold f_slices_Collect_reads_Entry
  refine go ?_
  unfold f_slices_AppendSeq_reads_Entry_reads_Entry
  have hroom : room = 140737488355328 := rfl
  refine Wp.nil Rd.cs (sz := 3) (by decide) ?_
  refine go fun b2 lp => ?_
  rw [lv_succ]
  refine Wp.clo SeaOf.vl ?_
  show Wp H0 _ (f_slices_Values_reads_Entry_reads_Entry_1 (lv (n + 1)) [.yld lp, .ptr (some (b1, 0))]) _
  refine values_1_v (σ := Unit) (s := s) (l := l) (fun _ _ => True) (fun _ _ => False)
    (fun i _ => own rX lp (.loop 58353469 [(2, .ptr (some (b2, 0)))] .ready none) :: own (rBox (fun v => [v]) Rd.cs 3) b2 (l.take i) :: F2)
    (fun _ _ => []) () trivial (.cons rfl (.fold (⟨none, 0, 0, none⟩ : Sl) trivial (.cons rfl (.cons rfl .refl)))) ?_ ?_ ?_
  · intro A B i e _ he _
    obtain ⟨hi, hie⟩ := List.getElem?_eq_some_iff.1 he
    rw [lv_succ]
    refine Wp.rnd (l := lp) SeaOf.ra ?_
    unfold r0_slices_AppendSeq_reads_Entry_reads_Entry
    refine Wp.open (rBox (fun v => [v]) Rd.cs 3) b2 fun s1 _ => ?_
    refine go ?_
    refine Wp.apd (x := e) rfl rfl (by simp; omega) (by simp; omega) fun s2 => ?_
    refine go ?_
    refine .inl ⟨rfl, (), trivial, .pick (.pick (.cons rfl (.fold s2 trivial (.cons rfl (.cons ?_ .refl)))))⟩
    rw [List.take_succ_eq_append_getElem hi, hie]
  · intro _ _
    rw [List.take_length]
    refine go ?_
    refine Wp.open (rBox (fun v => [v]) Rd.cs 3) b2 fun s1 _ => ?_
    refine go ?_
    refine go ?_
    refine ⟨_, h s1, .cons rfl (.cons rfl (.cons rfl ?_))⟩
    exact .weak (.weak .refl)
  · intro i e _ _ q
    exact q.elim
omit [Sea] [SeaOf] in
theorem reads_Set_All_v {p : Nat} {x : List Rd × Int} {D : DD} [fd : Fnd P rSet p x F] (h : ∀ s b1, Q (.func n_slices_Values_reads_Entry_reads_Entry_1 [] [.ptr (some (b1, 0))]) (own rC b1 [.sl s] :: own rC p [.sl s, I x.2] :: own (rR Rd.cs 3) s x.1 :: F)) : Wp H0 P (f_reads_Set_All D [.ptr (some (p, 0))]) Q := by
  unfold f_reads_Set_All
  refine Wp.open rSet p fun s _ => ?_
  refine go ?_
  unfold f_slices_Values_reads_Entry_reads_Entry
  refine go fun b1 => ?_
  exact go (h s b1)
end
/-- what is written of a version. -/
def wrCells (dc : List (Int × Int)) (n : Int) : List Rd := dc.map fun e => ⟨0, e.1, n⟩
def wrFiles (df : List (Int × Fl)) (n : Int) : List Rd := df.map fun e => ⟨1, e.1, n⟩
def wrSock (cu : List Int) (n : Int) (k : Nat) : List Rd := ((List.range k).filter fun s => decide (0 < (cu[s]?).getD 0)).map fun (s : Nat) => (⟨2, (s : Int), n⟩ : Rd)
def wrT (t : Tri) (n : Int) : List Rd := wrCells t.dc n ++ wrFiles t.df n ++ wrSock t.cu n 3
theorem wrSock_succ {cu : List Int} {n : Int} {k : Nat} : wrSock cu n (k + 1) = wrSock cu n k ++ (if 0 < (cu[k]?).getD 0 then [⟨2, (k : Int), n⟩] else []) := by
  unfold wrSock
  rw [List.range_succ, List.filter_append, List.map_append]
  congr 1
  by_cases h : 0 < (cu[k]?).getD 0
  · rw [if_pos h, List.filter_cons_of_pos (by simpa using h)]; rfl
  · rw [if_neg h, List.filter_cons_of_neg (by simpa using h)]; rfl
theorem wrSock_len {cu : List Int} {n : Int} {k : Nat} : (wrSock cu n k).length ≤ k := by
  unfold wrSock
  rw [List.length_map]
  exact Nat.le_trans (List.length_filter_le _ _) (by simp)
section
variable {H0 : Heap} {P F F' : List HP} {Q : HV → List HP → Prop} [Sea] [SeaOf] [SeaLand] {n : Nat}
abbrev bxW (s : Sl) : HV → List HV := fun v => [.sl s, v]
theorem witness_Of_v {p : Nat} {x : TrS} {v : Vw} {w : Int} [fd : Fnd P rTry p x F] (ht : TOk v x.t)
    (h : ∀ s1 s2, Q (.agg [.sl s1, .sl s2]) (own rTry p x :: own (rR Rd.cs 3) s1 x.t.rd :: own (rR Rd.cs 3) s2 (wrT x.t w) :: F)) : Wp H0 P (f_witness_Of (lv (n + 2)) [.ptr (some (p, 0)), I w]) Q := by
  refine Wp.cl ?_
  unfold f_witness_Of
  have hrl := rd_len ht.rk ht.rd
  have hdl := ht.dc.le
  have hfl := ht.df.le
  have hroom : room = 140737488355328 := rfl
  have hwc : ∀ {l m}, (wrCells l m).length = l.length := fun {l m} => by simp [wrCells]
  have hwf : ∀ {l m}, (wrFiles l m).length = l.length := fun {l m} => by simp [wrFiles]
  refine go fun b3 => ?_
  unfold f_attempt_Attempt_Reads
  refine Wp.open rTry p fun y _ => ?_
  refine go ?_
  refine go ?_
  refine reads_Set_All_v fun s b1 => ?_
  refine go ?_
  refine collect_v (s := s) (by simp only; omega) fun s1 => ?_
  refine Wp.nil Rd.cs (sz := 3) (by decide) ?_
  refine go fun b5 => ?_
  refine Wp.stN (b := b5) (cs' := [.sl s1, .sl ⟨none, 0, 0, none⟩]) (by simp) rfl ?_
  refine go ?_
  unfold f_attempt_Attempt_State
  refine go ?_
  refine Wp.ldN (b := p) (vs := [.ptr (some (y.dc, 0)), .ptr (some (y.sh, 0)), .ptr (some (y.cu, 0)), I x.t.rg.1, I x.t.rg.2.1, I x.t.rg.2.2.1, I x.t.rg.2.2.2]) (by simp) rfl ?_
  refine go ?_
  refine go ?_
  unfold f_draft_Draft_int_All
  refine go fun b6 => ?_
  refine go fun lp => ?_
  rw [lv_succ]
  refine Wp.clo SeaLand.ai ?_
  show Wp H0 _ (f_draft_Draft_int_All_1 (lv (n + 1)) [.yld lp, .ptr (some (b6, 0))]) _
  refine draft_All_1_int_v (σ := Unit) (l := x.t.dc) (p := y.dc) (fun _ _ => True) (fun _ _ => False)
    (fun i _ => own rX lp (.loop 78258034 [(3, .ptr (some (b3, 0))), (5, .ptr (some (b5, 0)))] .ready none) :: own rC b3 [I w] :: own (rBox (bxW s1) Rd.cs 3) b5 (wrCells (x.t.dc.take i) w) :: own rC p (trC x y) :: own (rR Rd.cs 3) s1 x.t.rd :: own rSet y.set (x.t.rd, x.t.stamp) :: own rSheet y.sh x.t.df :: own rCur y.cu x.t.cu :: F)
    (fun _ _ => []) () (by omega) trivial ?_ ?_ ?_ ?_
  · exact .cons rfl (.cons rfl (.fold (⟨none, 0, 0, none⟩ : Sl) trivial (.cons rfl (.cons rfl (.cons rfl (.cons rfl (.fold s trivial (.cons rfl (.cons rfl (.cons rfl (.cons rfl (.weak .refl))))))))))))
  · intro A B C i e _ he _
    obtain ⟨hi, hie⟩ := List.getElem?_eq_some_iff.1 he
    rw [lv_succ]
    refine Wp.rnd (l := lp) SeaOf.r0 ?_
    unfold r0_witness_Of
    refine Wp.open (rBox (bxW s1) Rd.cs 3) b5 fun s2 _ => ?_
    refine go ?_
    refine Wp.apd (x := (⟨0, e.1, w⟩ : Rd)) rfl rfl (by rw [hwc]; simp; omega) (by rw [hwc]; simp; omega) fun s3 => ?_
    refine go ?_
    refine .inl ⟨rfl, (), trivial, .pick (.pick (.pick (.cons rfl (.cons rfl (.fold s3 trivial (.cons rfl (.cons ?_ (.cons rfl (.cons rfl (.cons rfl (.cons rfl (.cons rfl .refl))))))))))))⟩
    rw [List.take_succ_eq_append_getElem hi, hie]; simp [wrCells]
  · intro _ _
    rw [List.take_length]
    refine go ?_
    refine sheet_Draft_v fun d => ?_
    refine go ?_
    unfold f_draft_Draft_file_File_All
    refine go fun b7 => ?_
    refine go fun lq => ?_
    refine Wp.clo SeaLand.af ?_
    show Wp H0 _ (f_draft_Draft_file_File_All_1 (lv (n + 1)) [.yld lq, .ptr (some (b7, 0))]) _
    refine draft_All_1_file_File_v (σ := Unit) (l := x.t.df) (p := d) (fun _ _ => True) (fun _ _ => False)
      (fun i _ => own rX lq (.loop 19334329 [(3, .ptr (some (b3, 0))), (5, .ptr (some (b5, 0)))] .ready none) :: own rC b3 [I w] :: own (rBox (bxW s1) Rd.cs 3) b5 (wrCells x.t.dc w ++ wrFiles (x.t.df.take i) w) :: own rC p (trC x y) :: own (rR Rd.cs 3) s1 x.t.rd :: own rSet y.set (x.t.rd, x.t.stamp) :: own (rDraft eDI clC 2) y.dc x.t.dc :: own rC y.sh [.ptr (some (d, 0))] :: own rCur y.cu x.t.cu :: F)
      (fun _ _ => []) () (by omega) trivial ?_ ?_ ?_ ?_
    · exact .cons rfl (.cons rfl (.cons (by simp [wrFiles]) (.cons rfl (.cons rfl (.cons rfl (.cons rfl (.cons rfl (.cons rfl (.weak (.weak .refl))))))))))
    · intro A B C i e _ he _
      obtain ⟨hi, hie⟩ := List.getElem?_eq_some_iff.1 he
      rw [lv_succ]
      refine Wp.rnd (l := lq) SeaOf.r1 ?_
      unfold r1_witness_Of
      refine Wp.open (rBox (bxW s1) Rd.cs 3) b5 fun s2 _ => ?_
      refine go ?_
      refine Wp.apd (x := (⟨1, e.1, w⟩ : Rd)) rfl rfl (by simp only [List.length_append, hwc, hwf]; simp; omega) (by simp only [List.length_append, hwc, hwf]; simp; omega) fun s3 => ?_
      refine go ?_
      refine .inl ⟨rfl, (), trivial, .pick (.pick (.pick (.cons rfl (.cons rfl (.fold s3 trivial (.cons rfl (.cons ?_ (.cons rfl (.cons rfl (.cons rfl (.cons rfl (.cons rfl (.cons rfl .refl)))))))))))))⟩
      rw [List.take_succ_eq_append_getElem hi, hie]; simp [wrFiles]
    · intro _ _
      rw [List.take_length]
      refine go ?_
      have hcl := ht.cu
      refine Wp.forL (σ := Unit) 3 (by decide) rfl (fun _ i => [I i]) (out := fun _ => []) (fun _ _ => rfl) (fun _ _ => True)
        (fun k _ => own rCur y.cu x.t.cu :: own (rBox (bxW s1) Rd.cs 3) b5 (wrCells x.t.dc w ++ wrFiles x.t.df w ++ wrSock x.t.cu w k) :: own rC b3 [I w] :: own rC p (trC x y) :: own (rR Rd.cs 3) s1 x.t.rd :: own rSet y.set (x.t.rd, x.t.stamp) :: own (rDraft eDI clC 2) y.dc x.t.dc :: own rSheet y.sh x.t.df :: F) () rfl trivial ?_ ?_ ?_
      · exact .cons rfl (.cons (by simp [wrSock]) (.cons rfl (.cons rfl (.cons rfl (.cons rfl (.cons rfl (.fold d trivial (.cons rfl (.cons rfl (.weak (.weak .refl)))))))))))
      · intro k _ hk _
        obtain ⟨c, hcu⟩ : ∃ c, x.t.cu[k]? = some c := ⟨_, List.getElem?_eq_getElem (by omega)⟩
        have hsl := wrSock_len (cu := x.t.cu) (n := w) (k := k)
        refine go ?_
        refine cursor_Read_v ⟨by omega, by omega⟩ (by simpa using hcu) ?_
        refine go ⟨fun g => ?_, fun g => ?_⟩
        · refine Wp.open (rBox (bxW s1) Rd.cs 3) b5 fun s2 _ => ?_
          refine go ?_
          refine Wp.apd (x := (⟨2, (k : Int), w⟩ : Rd)) rfl rfl (by simp only [List.length_append, hwc, hwf]; omega) (by simp only [List.length_append, hwc, hwf]; omega) fun s3 => ?_
          refine go ?_
          refine ⟨(), rfl, trivial, .cons rfl (.fold s3 trivial (.cons rfl (.cons ?_ (.cons rfl (.cons rfl (.cons rfl (.cons rfl (.cons rfl (.cons rfl .refl)))))))))⟩
          rw [wrSock_succ, hcu, if_pos (by simpa using g), List.append_assoc]
        · refine ⟨(), rfl, trivial, .cons rfl (.cons ?_ (.cons rfl (.cons rfl (.cons rfl (.cons rfl (.cons rfl (.cons rfl .refl)))))))⟩
          rw [wrSock_succ, hcu, if_neg (by simpa using g), List.append_nil]
      · intro _ _
        refine go ?_
        refine Wp.open (rBox (bxW s1) Rd.cs 3) b5 fun s2 _ => ?_
        refine Wp.ldN (b := b5) (vs := [.sl s1, .sl s2]) (by simp) rfl ?_
        refine go ?_
        exact ⟨_, h s1 s2, .fold y trivial (.cons rfl (.cons rfl (.cons rfl (.cons rfl (.cons rfl (.cons rfl (.cons rfl (.weak (.weak .refl)))))))))⟩
    · intro i e _ _ q
      exact q.elim
  · intro i e _ _ q
    exact q.elim
end
end Go.Proofs.YtoogohhlmdgdpaaGreat.HL
