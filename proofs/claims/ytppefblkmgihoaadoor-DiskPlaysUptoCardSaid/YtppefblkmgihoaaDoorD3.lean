/- The disk: what an operation does, and how many sectors there are. -/
import Derived.Test.YtppefblkmgihoaaDoorD2
set_option linter.unusedVariables false
set_option linter.unusedSimpArgs false
namespace Go.Proofs.YtppefblkmgihoaaDoor
open Go.Sh

theorem DkAt.lt {w : World} {d : Nat} {D : Dk} {hv : Value} {es : Array MapEntry} {c : Nat} (h : DkAt w d D hv es c) : d < w.heap.size := lt_at h.blk
theorem DkAt.ltm {w : World} {d : Nat} {D : Dk} {hv : Value} {es : Array MapEntry} {c : Nat} (h : DkAt w d D hv es c) : D.m < w.heap.size := lt_at h.map
theorem DkAt.ne {w : World} {d : Nat} {D : Dk} {hv : Value} {es : Array MapEntry} {c : Nat} (h : DkAt w d D hv es c) : d ≠ D.m := fun e => by
  have h1 := h.blk; rw [e, h.map] at h1; cases h1
/-- Blocks of other kinds are none of the disk's own. -/
theorem DkAt.sec {w : World} {d : Nat} {D : Dk} {hv : Value} {es : Array MapEntry} {c : Nat} (h : DkAt w d D hv es c) {b : Nat} {X : Array Value} {e : TypeId} {f : Nat × Nat} (hb : w.heap[b]? = some (.cells X e f)) (he : e ≠ 49) : ¬ (b = d ∨ b = D.m) := by
  rintro (rfl | rfl)
  · rw [h.blk] at hb; cases hb; exact he rfl
  · rw [h.map] at hb; cases hb
theorem SecV.own {w w' : World} {d : Nat} {D : Dk} {hv : Value} {es : Array MapEntry} {c : Nat} (h : DkAt w d D hv es c) (hf : Fr w.heap.size (D.own d) w w') {l : List Sec} {v : Value} (hl : SecV w l v) : SecV w' l v :=
  hl.fr hf fun b X f hb => ⟨lt_at hb, h.sec hb (by decide)⟩
theorem boxed.fr {w w' : World} {v x : Value} {e : TypeId} {N : Nat} {S : Nat → Prop} (h : boxed w v x e) (hf : Fr N S w w') (hB : ∀ b, w.heap[b]? = some (.cells #[x] e (0, 0)) → b < N ∧ ¬ S b) : boxed w' v x e := by
  obtain ⟨b, rfl, hb⟩ := h
  exact ⟨b, rfl, hf.at hb (hB b hb).1 (hB b hb).2⟩
theorem Hg.fr {w w' : World} {d : Nat} {p : Pend} {hv : Value} (h : Hg w d p hv) {N : Nat} {S : Nat → Prop} (hf : Fr N S w w') (hB : ∀ b x e, e ≠ 49 → w.heap[b]? = some (.cells #[x] e (0, 0)) → b < N ∧ ¬ S b) : Hg w' d p hv := by
  cases p with
  | nothing => exact h
  | sync a => obtain ⟨x, y, e, h1, h2⟩ := h; exact ⟨x, y, e, h1.fr hf fun b => hB b _ _ (by decide), h2.fr hf fun b => hB b _ _ (by decide)⟩
  | trunc a n => obtain ⟨x, y, z, e, h1, h2, h3⟩ := h; exact ⟨x, y, z, e, h1.fr hf fun b => hB b _ _ (by decide), h2.fr hf fun b => hB b _ _ (by decide), h3.fr hf fun b => hB b _ _ (by decide)⟩
  | ren a b => obtain ⟨x, y, z, e, h1, h2, h3⟩ := h; exact ⟨x, y, z, e, h1.fr hf fun b => hB b _ _ (by decide), h2.fr hf fun b => hB b _ _ (by decide), h3.fr hf fun b => hB b _ _ (by decide)⟩
  | rem a => obtain ⟨x, y, e, h1, h2⟩ := h; exact ⟨x, y, e, h1.fr hf fun b => hB b _ _ (by decide), h2.fr hf fun b => hB b _ _ (by decide)⟩
/-- The struct's block alone is written. -/
theorem DkAt.put {w : World} {d : Nat} {D D' : Dk} {hv hv' : Value} {es : Array MapEntry} {c : Nat} (h : DkAt w d D hv es c) (hm : D'.m = D.m) (hfs : D'.fs = D.fs) (hg : D'.off = true → Hg w d D'.pend hv') :
    DkAt (w.put d (.cells #[.map (some D'.m), .int .i64 D'.room, .bool D'.off, .int .i64 D'.armed, .int .i64 D'.ops, hv'] 49 (0, 0))) d D' hv' es c := by
  have hf : Fr w.heap.size (D.own d) w (w.put d (.cells #[.map (some D'.m), .int .i64 D'.room, .bool D'.off, .int .i64 D'.armed, .int .i64 D'.ops, hv'] 49 (0, 0))) := Fr.refl.put (.inl (.inl rfl))
  refine ⟨put_same h.lt, ?_, ?_, ?_⟩
  · rw [hm, put_ne h.ne]; exact h.map
  · rw [hfs]; exact h.mp.imp fun p _ v hv => SecV.own h hf hv
  · intro ho; exact (hg ho).fr hf fun b x e he hb => ⟨lt_at hb, h.sec hb he⟩
/-- The map's block alone is written. -/
theorem DkAt.putMap {w : World} {d : Nat} {D D' : Dk} {hv : Value} {es es' : Array MapEntry} {c c' : Nat} (h : DkAt w d D hv es c) (hm : D' = { D with fs := D'.fs }) (hmp : Mp strK (SecV w) es' c' D'.fs) :
    DkAt (w.put D.m (.map es' c')) d D' hv es' c' := by
  have hf : Fr w.heap.size (D.own d) w (w.put D.m (.map es' c')) := Fr.refl.put (.inl (.inr rfl))
  have e1 : D'.m = D.m := by rw [hm]
  refine ⟨?_, ?_, ?_, ?_⟩
  · rw [put_ne h.ne.symm]; rw [hm]; exact h.blk
  · rw [e1]; exact put_same h.ltm
  · exact hmp.imp fun p _ v hv => SecV.own h hf hv
  · intro ho
    have : Hg w d D'.pend hv := by rw [hm] at ho ⊢; exact h.hg ho
    exact this.fr hf fun b x e he hb => ⟨lt_at hb, h.sec hb he⟩
/-- Other blocks are new, or were written. -/
theorem DkAt.fr {w w' : World} {d : Nat} {D : Dk} {hv : Value} {es : Array MapEntry} {c : Nat} (h : DkAt w d D hv es c) {S : Nat → Prop} (hf : Fr w.heap.size S w w') (hd : ¬ S d) (hm : ¬ S D.m) (hB : ∀ b X e f, e = 82 ∨ X.size = 1 → w.heap[b]? = some (.cells X e f) → ¬ S b) : DkAt w' d D hv es c := by
  refine ⟨hf.at h.blk h.lt hd, hf.at h.map h.ltm hm, h.mp.imp fun p _ v hv => hv.fr hf fun b X f hb => ⟨lt_at hb, hB b X _ f (.inl rfl) hb⟩, fun ho => (h.hg ho).fr hf fun b x e he hb => ⟨lt_at hb, hB b _ _ _ (.inr rfl) hb⟩⟩

/-- An operation, up to its doing. -/
def Dk.count (D : Dk) : Dk := { D with ops := IntKind.i64.wrap (D.ops + 1), armed := D.armed - 1 }
def Dk.goes (D : Dk) : Bool := decide (D.armed = 1)
theorem disk_do {w : World} {d : Nat} {D : Dk} {f hf : Value} {es : Array MapEntry} {c : Nat} {p : Pend} (h : DkAt w d D hf es c) (hoff : D.off = false) (hb : D.armed < 2 ^ 63) (ho : f.oneCell' = true) (hp : Hg w d p f) {R : Value → World → Prop}
    (h1 : D.goes = true → ∀ w', Fr w.heap.size (D.own d) w w' → DkAt w' d { D.count with off := true, pend := p } f es c → R (.int .i64 18) w')
    (h2 : D.goes = false → ∀ w', Fr w.heap.size (D.own d) w w' → w'.heap.size = w.heap.size → DkAt w' d D.count hf es c → cf Tryd.prog .plain f #[] w' fun _ w'' => R (.int .i64 0) w'') :
    cl Tryd.prog 38 #[ptr d, f] w R := by
  have hd := h.lt
  refine C.disk_Disk_do ?_
  unfold F.disk_Disk_do
  simp only [T.fa_49_4, T.ld_3, T.st_3, T.fa_49_3, T.fa_49_2, T.st_4, T.fa_49_5, T.st_1, bx_eq, mm_eq, nc_eq, cnd_eq, bcond_true, bcond_false, pk_eq, pk_int, ex_eq, ldc_some, un_not, un_neg, mn_eq, mx_eq, bin_add, bin_sub, bin_mul, bin_lss, bin_leq, bin_gtr, bin_geq, bin_eql, bin_neq, bin_peq, bin_pne, bin_beq, bin_bne, bin_leqn, bin_lnen, bin_seq, bin_sne, bin_sge, bin_slt, rdc_cells, mapEs_some, frz_none, Nat.zero_add, Nat.add_zero, List.getElem?_toArray, List.getElem?_cons_zero, List.getElem?_cons_succ, Option.isNone_some, Option.isNone_none, Bool.not_true, Bool.not_false, ite_true, ite_false, Bool.false_eq_true, true_and, and_true, forall_const, false_implies, reduceCtorEq, Bool.true_eq_false, Nat.reduceAdd, Nat.reduceMul, Nat.reduceLT, Nat.reduceSub, Int.reduceEq, Int.reduceLT, decide_true, decide_false, List.setIfInBounds_toArray, List.set_cons_zero, List.set_cons_succ, List.size_toArray, List.length_cons, List.length_nil, frz00, one_int, one_bool, one_ptr, one_str, one_slice, one_map, one_func, one_nil, one_niliface, size_put, size_alloc, put_same, st1_put, bsc_empty, List.nil_append, List.append_nil, List.map_cons, List.map_nil, cells_ptr, cells_str, cells_int, cells_bool, cells_slice, cells_agg, cells_map, fillB_one, fillB_nil, bdc, bcond_dec, st1_at h.blk, h.blk, ptr, hd]
  have harm : IntKind.i64.wrap ((D.armed : Int) - 1) = (D.armed : Int) - 1 := IntWalk.i64_in _ (by omega)
  refine ⟨fun ha => ?_, fun ha => ?_⟩
  · simp only [st1_put hd, T.fa_49_4, T.ld_3, T.st_3, T.fa_49_3, T.fa_49_2, T.st_4, T.fa_49_5, T.st_1, bx_eq, mm_eq, nc_eq, cnd_eq, bcond_true, bcond_false, pk_eq, pk_int, ex_eq, ldc_some, un_not, un_neg, mn_eq, mx_eq, bin_add, bin_sub, bin_mul, bin_lss, bin_leq, bin_gtr, bin_geq, bin_eql, bin_neq, bin_peq, bin_pne, bin_beq, bin_bne, bin_leqn, bin_lnen, bin_seq, bin_sne, bin_sge, bin_slt, rdc_cells, mapEs_some, frz_none, Nat.zero_add, Nat.add_zero, List.getElem?_toArray, List.getElem?_cons_zero, List.getElem?_cons_succ, Option.isNone_some, Option.isNone_none, Bool.not_true, Bool.not_false, ite_true, ite_false, Bool.false_eq_true, true_and, and_true, forall_const, false_implies, reduceCtorEq, Bool.true_eq_false, Nat.reduceAdd, Nat.reduceMul, Nat.reduceLT, Nat.reduceSub, Int.reduceEq, Int.reduceLT, decide_true, decide_false, List.setIfInBounds_toArray, List.set_cons_zero, List.set_cons_succ, List.size_toArray, List.length_cons, List.length_nil, frz00, one_int, one_bool, one_ptr, one_str, one_slice, one_map, one_func, one_nil, one_niliface, size_put, size_alloc, put_same, st1_put, bsc_empty, List.nil_append, List.append_nil, List.map_cons, List.map_nil, cells_ptr, cells_str, cells_int, cells_bool, cells_slice, cells_agg, cells_map, fillB_one, fillB_nil, bdc, bcond_dec, hd, ho, harm]
    refine ⟨fun h0 => ?_, fun h0 => ?_⟩
    · have e1 : D.armed = 1 := by omega
      refine h1 (decide_eq_true e1) _ (Fr.refl.put (.inl (.inl rfl))) ?_
      have e2 : ((D.armed : Int) - 1) = ((D.count.armed : Nat) : Int) := by simp [Dk.count]; omega
      rw [e2]
      exact h.put (D' := { D.count with off := true, pend := p }) rfl rfl fun _ => hp
    · have e1 : D.armed ≠ 1 := by omega
      have e2 : ((D.armed : Int) - 1) = ((D.count.armed : Nat) : Int) := by simp [Dk.count]; omega
      rw [e2]
      exact h2 (decide_eq_false e1) _ (Fr.refl.put (.inl (.inl rfl))) (size_put _ _ _) (h.put (D' := D.count) rfl rfl fun h => by rw [show D.count.off = D.off from rfl, hoff] at h; cases h)
  · have e0 : D.armed = 0 := by omega
    have e2 : (D.armed : Int) = ((D.count.armed : Nat) : Int) := by simp [Dk.count, e0]
    rw [e2]
    exact h2 (decide_eq_false (by omega)) _ (Fr.refl.put (.inl (.inl rfl))) (size_put _ _ _) (h.put (D' := D.count) rfl rfl fun h => by rw [show D.count.off = D.off from rfl, hoff] at h; cases h)
end Go.Proofs.YtppefblkmgihoaaDoor
