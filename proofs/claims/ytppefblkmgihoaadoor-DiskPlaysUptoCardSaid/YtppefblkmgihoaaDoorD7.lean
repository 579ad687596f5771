/- The disk: New, Size, Arm, On, Ops, used. -/
import Derived.Test.YtppefblkmgihoaaDoorD6
set_option linter.unusedVariables false
set_option linter.unusedSimpArgs false
set_option maxRecDepth 10000
namespace Go.Proofs.YtppefblkmgihoaaDoor
open Go.Sh

theorem disk_On {w : World} {d : Nat} {D : Dk} (h : IsDk w d D) {R : Value → World → Prop} (hR : R (.bool !D.off) w) : cl Tryd.prog 11 #[ptr d] w R := by
  obtain ⟨hv, es, c, h⟩ := h
  refine C.disk_Disk_On ?_
  unfold F.disk_Disk_On
  simp only [T.ty_24, T.fa_49_2, T.ld_4, bx_eq, mm_eq, nc_eq, cnd_eq, bcond_true, bcond_false, pk_eq, pk_int, ex_eq, ldc_some, un_not, un_neg, mn_eq, mx_eq, bin_add, bin_sub, bin_mul, bin_lss, bin_leq, bin_gtr, bin_geq, bin_eql, bin_neq, bin_peq, bin_pne, bin_beq, bin_bne, bin_leqn, bin_lnen, bin_seq, bin_sne, bin_sge, bin_slt, rdc_cells, mapEs_some, frz_none, Nat.zero_add, Nat.add_zero, List.getElem?_toArray, List.getElem?_cons_zero, List.getElem?_cons_succ, Option.isNone_some, Option.isNone_none, Bool.not_true, Bool.not_false, ite_true, ite_false, Bool.false_eq_true, true_and, and_true, forall_const, false_implies, reduceCtorEq, Bool.true_eq_false, Nat.reduceAdd, Nat.reduceMul, Nat.reduceLT, Nat.reduceSub, Int.reduceEq, Int.reduceLT, decide_true, decide_false, List.setIfInBounds_toArray, List.set_cons_zero, List.set_cons_succ, List.size_toArray, List.length_cons, List.length_nil, frz00, one_int, one_bool, one_ptr, one_str, one_slice, one_map, one_func, one_nil, one_niliface, size_put, size_alloc, put_same, st1_put, bsc_empty, List.nil_append, List.append_nil, List.map_cons, List.map_nil, cells_ptr, cells_str, cells_int, cells_bool, cells_slice, cells_agg, cells_map, fillB_one, fillB_nil, bdc, h.blk, ptr]
  exact hR
theorem disk_On_nil {w : World} {R : Value → World → Prop} (hR : R (.bool false) w) : cl Tryd.prog 11 #[.pointer none] w R := by
  refine C.disk_Disk_On ?_
  unfold F.disk_Disk_On
  simp only [T.ty_24, T.fa_49_2, T.ld_4, bx_eq, mm_eq, nc_eq, cnd_eq, bcond_true, bcond_false, pk_eq, pk_int, ex_eq, ldc_some, un_not, un_neg, mn_eq, mx_eq, bin_add, bin_sub, bin_mul, bin_lss, bin_leq, bin_gtr, bin_geq, bin_eql, bin_neq, bin_peq, bin_pne, bin_beq, bin_bne, bin_leqn, bin_lnen, bin_seq, bin_sne, bin_sge, bin_slt, rdc_cells, mapEs_some, frz_none, Nat.zero_add, Nat.add_zero, List.getElem?_toArray, List.getElem?_cons_zero, List.getElem?_cons_succ, Option.isNone_some, Option.isNone_none, Bool.not_true, Bool.not_false, ite_true, ite_false, Bool.false_eq_true, true_and, and_true, forall_const, false_implies, reduceCtorEq, Bool.true_eq_false, Nat.reduceAdd, Nat.reduceMul, Nat.reduceLT, Nat.reduceSub, Int.reduceEq, Int.reduceLT, decide_true, decide_false, List.setIfInBounds_toArray, List.set_cons_zero, List.set_cons_succ, List.size_toArray, List.length_cons, List.length_nil, frz00, one_int, one_bool, one_ptr, one_str, one_slice, one_map, one_func, one_nil, one_niliface, size_put, size_alloc, put_same, st1_put, bsc_empty, List.nil_append, List.append_nil, List.map_cons, List.map_nil, cells_ptr, cells_str, cells_int, cells_bool, cells_slice, cells_agg, cells_map, fillB_one, fillB_nil, bdc]
  exact hR
theorem disk_Ops {w : World} {d : Nat} {D : Dk} (h : IsDk w d D) {R : Value → World → Prop} (hR : R (.int .i64 D.ops) w) : cl Tryd.prog 12 #[ptr d] w R := by
  obtain ⟨hv, es, c, h⟩ := h
  refine C.disk_Disk_Ops ?_
  unfold F.disk_Disk_Ops
  simp only [T.ty_24, T.fa_49_4, T.ld_3, bx_eq, mm_eq, nc_eq, cnd_eq, bcond_true, bcond_false, pk_eq, pk_int, ex_eq, ldc_some, un_not, un_neg, mn_eq, mx_eq, bin_add, bin_sub, bin_mul, bin_lss, bin_leq, bin_gtr, bin_geq, bin_eql, bin_neq, bin_peq, bin_pne, bin_beq, bin_bne, bin_leqn, bin_lnen, bin_seq, bin_sne, bin_sge, bin_slt, rdc_cells, mapEs_some, frz_none, Nat.zero_add, Nat.add_zero, List.getElem?_toArray, List.getElem?_cons_zero, List.getElem?_cons_succ, Option.isNone_some, Option.isNone_none, Bool.not_true, Bool.not_false, ite_true, ite_false, Bool.false_eq_true, true_and, and_true, forall_const, false_implies, reduceCtorEq, Bool.true_eq_false, Nat.reduceAdd, Nat.reduceMul, Nat.reduceLT, Nat.reduceSub, Int.reduceEq, Int.reduceLT, decide_true, decide_false, List.setIfInBounds_toArray, List.set_cons_zero, List.set_cons_succ, List.size_toArray, List.length_cons, List.length_nil, frz00, one_int, one_bool, one_ptr, one_str, one_slice, one_map, one_func, one_nil, one_niliface, size_put, size_alloc, put_same, st1_put, bsc_empty, List.nil_append, List.append_nil, List.map_cons, List.map_nil, cells_ptr, cells_str, cells_int, cells_bool, cells_slice, cells_agg, cells_map, fillB_one, fillB_nil, bdc, h.blk, ptr]
  exact hR
theorem disk_Ops_nil {w : World} {R : Value → World → Prop} (hR : R (.int .i64 0) w) : cl Tryd.prog 12 #[.pointer none] w R := by
  refine C.disk_Disk_Ops ?_
  unfold F.disk_Disk_Ops
  simp only [T.ty_24, T.fa_49_4, T.ld_3, bx_eq, mm_eq, nc_eq, cnd_eq, bcond_true, bcond_false, pk_eq, pk_int, ex_eq, ldc_some, un_not, un_neg, mn_eq, mx_eq, bin_add, bin_sub, bin_mul, bin_lss, bin_leq, bin_gtr, bin_geq, bin_eql, bin_neq, bin_peq, bin_pne, bin_beq, bin_bne, bin_leqn, bin_lnen, bin_seq, bin_sne, bin_sge, bin_slt, rdc_cells, mapEs_some, frz_none, Nat.zero_add, Nat.add_zero, List.getElem?_toArray, List.getElem?_cons_zero, List.getElem?_cons_succ, Option.isNone_some, Option.isNone_none, Bool.not_true, Bool.not_false, ite_true, ite_false, Bool.false_eq_true, true_and, and_true, forall_const, false_implies, reduceCtorEq, Bool.true_eq_false, Nat.reduceAdd, Nat.reduceMul, Nat.reduceLT, Nat.reduceSub, Int.reduceEq, Int.reduceLT, decide_true, decide_false, List.setIfInBounds_toArray, List.set_cons_zero, List.set_cons_succ, List.size_toArray, List.length_cons, List.length_nil, frz00, one_int, one_bool, one_ptr, one_str, one_slice, one_map, one_func, one_nil, one_niliface, size_put, size_alloc, put_same, st1_put, bsc_empty, List.nil_append, List.append_nil, List.map_cons, List.map_nil, cells_ptr, cells_str, cells_int, cells_bool, cells_slice, cells_agg, cells_map, fillB_one, fillB_nil, bdc]
  exact hR

def Dk.arm (D : Dk) (n : Int) : Int × Dk := if n < 0 then (1, D) else if D.off then (18, D) else (0, { D with armed := n.toNat })
theorem disk_Arm {w : World} {d : Nat} {D : Dk} {n : Int} (h : IsDk w d D) {R : Value → World → Prop}
    (hR : ∀ w', IsDk w' d (D.arm n).2 → Fr w.heap.size (D.own d) w w' → R (.int .i64 (D.arm n).1) w') : cl Tryd.prog 10 #[ptr d, .int .i64 n] w R := by
  have hD := h
  obtain ⟨hv, es, c, h⟩ := h
  have hd := h.lt
  refine C.disk_Disk_Arm ?_
  unfold F.disk_Disk_Arm
  simp only [T.ty_24, T.fa_49_2, T.ld_4, T.fa_49_3, T.st_3, bx_eq, mm_eq, nc_eq, cnd_eq, bcond_true, bcond_false, pk_eq, pk_int, ex_eq, ldc_some, un_not, un_neg, mn_eq, mx_eq, bin_add, bin_sub, bin_mul, bin_lss, bin_leq, bin_gtr, bin_geq, bin_eql, bin_neq, bin_peq, bin_pne, bin_beq, bin_bne, bin_leqn, bin_lnen, bin_seq, bin_sne, bin_sge, bin_slt, rdc_cells, mapEs_some, frz_none, Nat.zero_add, Nat.add_zero, List.getElem?_toArray, List.getElem?_cons_zero, List.getElem?_cons_succ, Option.isNone_some, Option.isNone_none, Bool.not_true, Bool.not_false, ite_true, ite_false, Bool.false_eq_true, true_and, and_true, forall_const, false_implies, reduceCtorEq, Bool.true_eq_false, Nat.reduceAdd, Nat.reduceMul, Nat.reduceLT, Nat.reduceSub, Int.reduceEq, Int.reduceLT, decide_true, decide_false, List.setIfInBounds_toArray, List.set_cons_zero, List.set_cons_succ, List.size_toArray, List.length_cons, List.length_nil, frz00, one_int, one_bool, one_ptr, one_str, one_slice, one_map, one_func, one_nil, one_niliface, size_put, size_alloc, put_same, st1_put, bsc_empty, List.nil_append, List.append_nil, List.map_cons, List.map_nil, cells_ptr, cells_str, cells_int, cells_bool, cells_slice, cells_agg, cells_map, fillB_one, fillB_nil, bdc, st1_at h.blk, h.blk, ptr]
  rw [bcond_dec, bcond_iff]
  unfold Dk.arm at hR
  refine ⟨fun hn => ?_, fun hn => ⟨fun ho => ?_, fun ho => ?_⟩⟩
  · rw [if_pos hn] at hR; exact hR w hD Fr.refl
  · rw [if_neg hn, if_pos ho] at hR; exact hR w hD Fr.refl
  · rw [if_neg hn, if_neg (by rw [ho]; simp)] at hR
    refine hR _ ⟨hv, es, c, ?_⟩ (Fr.refl.put (.inl (.inl rfl)))
    have e : n = ((n.toNat : Nat) : Int) := (Int.toNat_of_nonneg (by omega)).symm
    rw [e]
    exact h.put (D' := { D with armed := n.toNat }) rfl rfl fun h0 => by rw [show ({ D with armed := n.toNat } : Dk).off = D.off from rfl, ho] at h0; cases h0
theorem disk_Arm_nil {w : World} {n : Int} {R : Value → World → Prop} (hR : R (.int .i64 (if n < 0 then 1 else 7)) w) : cl Tryd.prog 10 #[.pointer none, .int .i64 n] w R := by
  refine C.disk_Disk_Arm ?_
  unfold F.disk_Disk_Arm
  simp only [T.ty_24, T.fa_49_2, T.ld_4, T.fa_49_3, T.st_3, bx_eq, mm_eq, nc_eq, cnd_eq, bcond_true, bcond_false, pk_eq, pk_int, ex_eq, ldc_some, un_not, un_neg, mn_eq, mx_eq, bin_add, bin_sub, bin_mul, bin_lss, bin_leq, bin_gtr, bin_geq, bin_eql, bin_neq, bin_peq, bin_pne, bin_beq, bin_bne, bin_leqn, bin_lnen, bin_seq, bin_sne, bin_sge, bin_slt, rdc_cells, mapEs_some, frz_none, Nat.zero_add, Nat.add_zero, List.getElem?_toArray, List.getElem?_cons_zero, List.getElem?_cons_succ, Option.isNone_some, Option.isNone_none, Bool.not_true, Bool.not_false, ite_true, ite_false, Bool.false_eq_true, true_and, and_true, forall_const, false_implies, reduceCtorEq, Bool.true_eq_false, Nat.reduceAdd, Nat.reduceMul, Nat.reduceLT, Nat.reduceSub, Int.reduceEq, Int.reduceLT, decide_true, decide_false, List.setIfInBounds_toArray, List.set_cons_zero, List.set_cons_succ, List.size_toArray, List.length_cons, List.length_nil, frz00, one_int, one_bool, one_ptr, one_str, one_slice, one_map, one_func, one_nil, one_niliface, size_put, size_alloc, put_same, st1_put, bsc_empty, List.nil_append, List.append_nil, List.map_cons, List.map_nil, cells_ptr, cells_str, cells_int, cells_bool, cells_slice, cells_agg, cells_map, fillB_one, fillB_nil, bdc, bcond_dec]
  refine ⟨fun hn => ?_, fun hn => ?_⟩
  · rw [if_pos hn] at hR; exact hR
  · rw [if_neg hn] at hR; exact hR

theorem disk_Size {w : World} {d : Nat} {D : Dk} {a : ByteArray} (h : IsDk w d D) (ha : a.size < 2 ^ 62) {R : Value → World → Prop}
    (hR : R (.tuple #[.int .i64 (if D.check a true ≠ 0 then 0 else (D.fs.at a).length), .int .i64 (D.check a true)]) w) : cl Tryd.prog 30 #[ptr d, .string a] w R := by
  have hD := h
  obtain ⟨hv, es, c, h⟩ := h
  refine C.disk_Disk_Size ?_
  unfold F.disk_Disk_Size
  refine disk_check hD ha ?_
  simp only [T.fa_49_0, T.ld_47, T.lk_47, T.ln_75, bx_eq, mm_eq, nc_eq, cnd_eq, bcond_true, bcond_false, pk_eq, pk_int, ex_eq, ldc_some, un_not, un_neg, mn_eq, mx_eq, bin_add, bin_sub, bin_mul, bin_lss, bin_leq, bin_gtr, bin_geq, bin_eql, bin_neq, bin_peq, bin_pne, bin_beq, bin_bne, bin_leqn, bin_lnen, bin_seq, bin_sne, bin_sge, bin_slt, rdc_cells, mapEs_some, frz_none, Nat.zero_add, Nat.add_zero, List.getElem?_toArray, List.getElem?_cons_zero, List.getElem?_cons_succ, Option.isNone_some, Option.isNone_none, Bool.not_true, Bool.not_false, ite_true, ite_false, Bool.false_eq_true, true_and, and_true, forall_const, false_implies, reduceCtorEq, Bool.true_eq_false, Nat.reduceAdd, Nat.reduceMul, Nat.reduceLT, Nat.reduceSub, Int.reduceEq, Int.reduceLT, decide_true, decide_false, List.setIfInBounds_toArray, List.set_cons_zero, List.set_cons_succ, List.size_toArray, List.length_cons, List.length_nil, frz00, one_int, one_bool, one_ptr, one_str, one_slice, one_map, one_func, one_nil, one_niliface, size_put, size_alloc, put_same, st1_put, bsc_empty, List.nil_append, List.append_nil, List.map_cons, List.map_nil, cells_ptr, cells_str, cells_int, cells_bool, cells_slice, cells_agg, cells_map, fillB_one, fillB_nil, bdc, h.blk, ptr, bcond_ndec]
  refine ⟨fun he => ?_, fun he => ?_⟩
  · rw [if_pos he] at hR; exact hR
  · rw [if_neg (by simpa using he), he] at hR
    obtain ⟨v, hv1, hv2⟩ := h.look a
    obtain ⟨A, k, rfl, hk⟩ := hv1.2.shape
    simp only [h.map]
    refine hv2 _ ?_
    simp only [T.fa_49_0, T.ld_47, T.lk_47, T.ln_75]
    exact hR
theorem disk_Size_nil {w : World} {a : ByteArray} (ha : a.size < 2 ^ 62) {R : Value → World → Prop}
    (hR : R (.tuple #[.int .i64 0, .int .i64 (if isName a = false then 1 else 7)]) w) : cl Tryd.prog 30 #[.pointer none, .string a] w R := by
  refine C.disk_Disk_Size ?_
  unfold F.disk_Disk_Size
  refine disk_check_nil ha ?_
  simp only [T.fa_49_0, T.ld_47, T.lk_47, T.ln_75, bx_eq, mm_eq, nc_eq, cnd_eq, bcond_true, bcond_false, pk_eq, pk_int, ex_eq, ldc_some, un_not, un_neg, mn_eq, mx_eq, bin_add, bin_sub, bin_mul, bin_lss, bin_leq, bin_gtr, bin_geq, bin_eql, bin_neq, bin_peq, bin_pne, bin_beq, bin_bne, bin_leqn, bin_lnen, bin_seq, bin_sne, bin_sge, bin_slt, rdc_cells, mapEs_some, frz_none, Nat.zero_add, Nat.add_zero, List.getElem?_toArray, List.getElem?_cons_zero, List.getElem?_cons_succ, Option.isNone_some, Option.isNone_none, Bool.not_true, Bool.not_false, ite_true, ite_false, Bool.false_eq_true, true_and, and_true, forall_const, false_implies, reduceCtorEq, Bool.true_eq_false, Nat.reduceAdd, Nat.reduceMul, Nat.reduceLT, Nat.reduceSub, Int.reduceEq, Int.reduceLT, decide_true, decide_false, List.setIfInBounds_toArray, List.set_cons_zero, List.set_cons_succ, List.size_toArray, List.length_cons, List.length_nil, frz00, one_int, one_bool, one_ptr, one_str, one_slice, one_map, one_func, one_nil, one_niliface, size_put, size_alloc, put_same, st1_put, bsc_empty, List.nil_append, List.append_nil, List.map_cons, List.map_nil, cells_ptr, cells_str, cells_int, cells_bool, cells_slice, cells_agg, cells_map, fillB_one, fillB_nil, bdc, bcond_ndec]
  refine ⟨fun he => hR, fun he => ?_⟩
  split at he <;> cases he

def Dk.fresh (m : Nat) (n : Int) : Dk := { m := m, fs := [], room := n, off := false, armed := 0, ops := 0, pend := .nothing }
theorem disk_New {w : World} {n : Int} {R : Value → World → Prop} (h0 : n < 1 ∨ 65536 < n → R (.tuple #[.pointer none, .int .i64 1]) w)
    (h1 : 1 ≤ n → n ≤ 65536 → ∀ d m w', w.heap.size ≤ d → w.heap.size ≤ m → IsDk w' d (Dk.fresh m n) → Fr w.heap.size No w w' → R (.tuple #[ptr d, .int .i64 0]) w') : cl Tryd.prog 5 #[.int .i64 n] w R := by
  refine C.disk_New ?_
  unfold F.disk_New
  simp only [T.bd_49_0_1, bx_eq, mm_eq, nc_eq, cnd_eq, bcond_true, bcond_false, pk_eq, pk_int, ex_eq, ldc_some, un_not, un_neg, mn_eq, mx_eq, bin_add, bin_sub, bin_mul, bin_lss, bin_leq, bin_gtr, bin_geq, bin_eql, bin_neq, bin_peq, bin_pne, bin_beq, bin_bne, bin_leqn, bin_lnen, bin_seq, bin_sne, bin_sge, bin_slt, rdc_cells, mapEs_some, frz_none, Nat.zero_add, Nat.add_zero, List.getElem?_toArray, List.getElem?_cons_zero, List.getElem?_cons_succ, Option.isNone_some, Option.isNone_none, Bool.not_true, Bool.not_false, ite_true, ite_false, Bool.false_eq_true, true_and, and_true, forall_const, false_implies, reduceCtorEq, Bool.true_eq_false, Nat.reduceAdd, Nat.reduceMul, Nat.reduceLT, Nat.reduceSub, Int.reduceEq, Int.reduceLT, decide_true, decide_false, List.setIfInBounds_toArray, List.set_cons_zero, List.set_cons_succ, List.size_toArray, List.length_cons, List.length_nil, frz00, one_int, one_bool, one_ptr, one_str, one_slice, one_map, one_func, one_nil, one_niliface, size_put, size_alloc, put_same, st1_put, bsc_empty, List.nil_append, List.append_nil, List.map_cons, List.map_nil, cells_ptr, cells_str, cells_int, cells_bool, cells_slice, cells_agg, cells_map, fillB_one, fillB_nil, bdc, bcond_dec]
  refine ⟨fun hn => h0 (.inl hn), fun hn => ⟨fun hm => h0 (.inr hm), fun hm => ?_⟩⟩
  refine h1 (by omega) (by omega) (w.heap.size + 1) w.heap.size _ (by omega) (Nat.le_refl _) ⟨.nilFunc, #[], 0, ?_, ?_, Mp.empty _ _, fun h => by cases h⟩ ((Fr.refl.alloc (Nat.le_refl _)).alloc (by rw [size_alloc]; omega))
  · exact alloc_at (by rw [size_alloc])
  · rw [alloc_lt (by rw [size_alloc]; exact Nat.lt_succ_self _)]; exact alloc_at rfl

/-- How many sectors there are. -/
def Files.total (l : Files) : Nat := (l.map fun p => p.2.length).sum
theorem total_perm {l m : Files} (h : l.Perm m) : l.total = m.total := (h.map _).sum_nat
theorem disk_used {w : World} {d : Nat} {D : Dk} (h : IsDk w d D) (ht : D.fs.total < 2 ^ 62) {R : Value → World → Prop}
    (hR : ∀ w', Fr w.heap.size No w w' → R (.int .i64 (D.fs.total)) w') : cl Tryd.prog 36 #[ptr d] w R := by
  obtain ⟨hv, es, c, h⟩ := h
  refine C.disk_Disk_used ?_
  unfold F.disk_Disk_used
  simp only [T.fa_49_0, T.ld_47, T.rg_47, T.ln_75, bx_eq, mm_eq, nc_eq, cnd_eq, bcond_true, bcond_false, pk_eq, pk_int, ex_eq, ldc_some, un_not, un_neg, mn_eq, mx_eq, bin_add, bin_sub, bin_mul, bin_lss, bin_leq, bin_gtr, bin_geq, bin_eql, bin_neq, bin_peq, bin_pne, bin_beq, bin_bne, bin_leqn, bin_lnen, bin_seq, bin_sne, bin_sge, bin_slt, rdc_cells, mapEs_some, frz_none, Nat.zero_add, Nat.add_zero, List.getElem?_toArray, List.getElem?_cons_zero, List.getElem?_cons_succ, Option.isNone_some, Option.isNone_none, Bool.not_true, Bool.not_false, ite_true, ite_false, Bool.false_eq_true, true_and, and_true, forall_const, false_implies, reduceCtorEq, Bool.true_eq_false, Nat.reduceAdd, Nat.reduceMul, Nat.reduceLT, Nat.reduceSub, Int.reduceEq, Int.reduceLT, decide_true, decide_false, List.setIfInBounds_toArray, List.set_cons_zero, List.set_cons_succ, List.size_toArray, List.length_cons, List.length_nil, frz00, one_int, one_bool, one_ptr, one_str, one_slice, one_map, one_func, one_nil, one_niliface, size_put, size_alloc, put_same, st1_put, bsc_empty, List.nil_append, List.append_nil, List.map_cons, List.map_nil, cells_ptr, cells_str, cells_int, cells_bool, cells_slice, cells_agg, cells_map, fillB_one, fillB_nil, bdc, h.blk, h.map, ptr, rgc]
  have hf0 : Fr w.heap.size No w (w.alloc (.mapIter (some D.m) c #[] c)) := Fr.refl.alloc (Nat.le_refl _)
  let I : List Value → World → Files → Files → Prop := fun s u done rest => s = [.int .i64 ((Files.total done : Nat))] ∧ (done ++ rest).Perm D.fs ∧ Fr w.heap.size No w u ∧ ∃ seen, u.heap[w.heap.size]? = some (.mapIter (some D.m) c seen c) ∧ It strK (SecV w) es seen done rest
  refine ⟨fun s u => ∃ done rest, I s u done rest, fun s u => match u.heap[w.heap.size]? with | some (.mapIter _ _ seen _) => es.size - seen.size | _ => 0, ⟨[], D.fs, rfl, by simp, hf0, #[], alloc_at rfl, It.init h.mp⟩, ?_⟩
  rintro g u ⟨done, rest, hg, hp, hf, seen, hs, hit⟩
  simp only [List.map_cons, List.map_nil, List.cons.injEq, and_true] at hg
  have hm := h.young hf
  refine nx_mp h.mp hit hs hm.map (fun hr u' hu' => ?_) (fun p rest' v seen' u' hpp hv hit' hu' hcur => ?_)
  · simp only [T.fa_49_0, T.ld_47, T.rg_47, T.ln_75, bx_eq, mm_eq, nc_eq, cnd_eq, bcond_true, bcond_false, pk_eq, pk_int, ex_eq, ldc_some, un_not, un_neg, mn_eq, mx_eq, bin_add, bin_sub, bin_mul, bin_lss, bin_leq, bin_gtr, bin_geq, bin_eql, bin_neq, bin_peq, bin_pne, bin_beq, bin_bne, bin_leqn, bin_lnen, bin_seq, bin_sne, bin_sge, bin_slt, rdc_cells, mapEs_some, frz_none, Nat.zero_add, Nat.add_zero, List.getElem?_toArray, List.getElem?_cons_zero, List.getElem?_cons_succ, Option.isNone_some, Option.isNone_none, Bool.not_true, Bool.not_false, ite_true, ite_false, Bool.false_eq_true, true_and, and_true, forall_const, false_implies, reduceCtorEq, Bool.true_eq_false, Nat.reduceAdd, Nat.reduceMul, Nat.reduceLT, Nat.reduceSub, Int.reduceEq, Int.reduceLT, decide_true, decide_false, List.setIfInBounds_toArray, List.set_cons_zero, List.set_cons_succ, List.size_toArray, List.length_cons, List.length_nil, frz00, one_int, one_bool, one_ptr, one_str, one_slice, one_map, one_func, one_nil, one_niliface, size_put, size_alloc, put_same, st1_put, bsc_empty, List.nil_append, List.append_nil, List.map_cons, List.map_nil, cells_ptr, cells_str, cells_int, cells_bool, cells_slice, cells_agg, cells_map, fillB_one, fillB_nil, bdc, hg]
    subst hr
    rw [List.append_nil] at hp
    rw [total_perm hp]
    refine hR _ ?_
    rcases hu' with rfl | rfl
    · exact hf
    · exact hf.drew
  · have hu2 : Fr w.heap.size No w u' ∧ u'.heap = u.heap := by
      rcases hu' with rfl | rfl
      · exact ⟨hf, rfl⟩
      · exact ⟨hf.drew, rfl⟩
    have hlt : w.heap.size < u'.heap.size := by rw [hu2.2]; exact lt_at hs
    have hm2 := (h.young hu2.1).map
    have hne : w.heap.size ≠ D.m := Nat.ne_of_gt h.ltm
    simp only [T.fa_49_0, T.ld_47, T.rg_47, T.ln_75, bx_eq, mm_eq, nc_eq, cnd_eq, bcond_true, bcond_false, pk_eq, pk_int, ex_eq, ldc_some, un_not, un_neg, mn_eq, mx_eq, bin_add, bin_sub, bin_mul, bin_lss, bin_leq, bin_gtr, bin_geq, bin_eql, bin_neq, bin_peq, bin_pne, bin_beq, bin_bne, bin_leqn, bin_lnen, bin_seq, bin_sne, bin_sge, bin_slt, rdc_cells, mapEs_some, frz_none, Nat.zero_add, Nat.add_zero, List.getElem?_toArray, List.getElem?_cons_zero, List.getElem?_cons_succ, Option.isNone_some, Option.isNone_none, Bool.not_true, Bool.not_false, ite_true, ite_false, Bool.false_eq_true, true_and, and_true, forall_const, false_implies, reduceCtorEq, Bool.true_eq_false, Nat.reduceAdd, Nat.reduceMul, Nat.reduceLT, Nat.reduceSub, Int.reduceEq, Int.reduceLT, decide_true, decide_false, List.setIfInBounds_toArray, List.set_cons_zero, List.set_cons_succ, List.size_toArray, List.length_cons, List.length_nil, frz00, one_int, one_bool, one_ptr, one_str, one_slice, one_map, one_func, one_nil, one_niliface, size_put, size_alloc, put_same, st1_put, bsc_empty, List.nil_append, List.append_nil, List.map_cons, List.map_nil, cells_ptr, cells_str, cells_int, cells_bool, cells_slice, cells_agg, cells_map, fillB_one, fillB_nil, bdc]
    refine en_mp (put_same hlt) (by rw [put_ne hne]; exact hm2) hcur ?_
    obtain ⟨A, k, rfl, hk⟩ := hv.2.shape
    simp only [T.fa_49_0, T.ld_47, T.rg_47, T.ln_75, bx_eq, mm_eq, nc_eq, cnd_eq, bcond_true, bcond_false, pk_eq, pk_int, ex_eq, ldc_some, un_not, un_neg, mn_eq, mx_eq, bin_add, bin_sub, bin_mul, bin_lss, bin_leq, bin_gtr, bin_geq, bin_eql, bin_neq, bin_peq, bin_pne, bin_beq, bin_bne, bin_leqn, bin_lnen, bin_seq, bin_sne, bin_sge, bin_slt, rdc_cells, mapEs_some, frz_none, Nat.zero_add, Nat.add_zero, List.getElem?_toArray, List.getElem?_cons_zero, List.getElem?_cons_succ, Option.isNone_some, Option.isNone_none, Bool.not_true, Bool.not_false, ite_true, ite_false, Bool.false_eq_true, true_and, and_true, forall_const, false_implies, reduceCtorEq, Bool.true_eq_false, Nat.reduceAdd, Nat.reduceMul, Nat.reduceLT, Nat.reduceSub, Int.reduceEq, Int.reduceLT, decide_true, decide_false, List.setIfInBounds_toArray, List.set_cons_zero, List.set_cons_succ, List.size_toArray, List.length_cons, List.length_nil, frz00, one_int, one_bool, one_ptr, one_str, one_slice, one_map, one_func, one_nil, one_niliface, size_put, size_alloc, put_same, st1_put, bsc_empty, List.nil_append, List.append_nil, List.map_cons, List.map_nil, cells_ptr, cells_str, cells_int, cells_bool, cells_slice, cells_agg, cells_map, fillB_one, fillB_nil, bdc, hg]
    have hp2 : ((done ++ [p]) ++ rest').Perm D.fs := by
      refine List.Perm.trans ?_ hp
      rw [List.append_assoc]
      exact List.Perm.append_left _ hpp
    have hsum : Files.total (done ++ [p]) = Files.total done + p.2.length := by simp [Files.total]
    have hle : Files.total (done ++ [p]) ≤ D.fs.total := by
      rw [← total_perm hp2]; simp only [Files.total, List.map_append, List.sum_append]; omega
    rw [IntWalk.i64_in _ (by omega)]
    refine ⟨⟨done ++ [p], rest', ?_, hp2, hu2.1.put (.inr (Nat.le_refl _)), seen', put_same hlt, hit'⟩, ?_⟩
    · rw [hsum]; simp
    · simp only [put_same hlt, hs]
      obtain ⟨de, re, e1, e2, e3, e4⟩ := hit
      obtain ⟨de', re', e1', e2', e3', e4'⟩ := hit'
      have a1 : seen.size = done.length := by
        have := congrArg List.length e2; simp at this; rw [this, e3.length_eq]
      have a2 : seen'.size = done.length + 1 := by
        have := congrArg List.length e2'; simp at this; rw [this, e3'.length_eq]; simp
      have a3 : es.size = D.fs.length := h.mp.size
      have a4 := hp2.length_eq
      simp at a4
      omega
end Go.Proofs.YtppefblkmgihoaaDoor
