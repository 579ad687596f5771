/- The reference of layer 9: operate and the four calls. -/
import Derived.Test.YtppefblkmgihoaaDoorR4
set_option linter.unusedVariables false
set_option linter.unusedSimpArgs false
set_option maxRecDepth 10000
namespace Go.Proofs.YtppefblkmgihoaaDoor
open Go.Sh

def badArgs (op : Int) (a b : ByteArray) (n : Int) : Bool := !isName a || (decide (op = 3) && !isName b) || (decide (op = 2) && decide (n < 0))
def Rk.step (X : Rk) (p : Pend) : Int × Rk := if X.armed = 1 then (18, { X.count with last := p.op, a := p.fst, b := p.snd, n := p.num }) else (0, { X.count with fs := p.carry X.fs })
def Rk.operate (X : Rk) (p : Pend) : Int × Rk := if (aget X.fs p.fst).isNone then (7, X) else if X.off then (18, X) else X.step p
structure Rk.good (X : Rk) : Prop where
  few : small X.fs.length
  ok : X.fs.ok
  armed : X.armed < 2 ^ 63
theorem ref_operate {N : Nat} {w : World} {a0 : Value} {op n : Int} {a b : ByteArray} (ha : a.size < 2 ^ 62) (hb : b.size < 2 ^ 62) {R : Value → World → Prop}
    (hbad : badArgs op a b n = true → ∀ w', Fr w.heap.size No w w' → R (.int .i64 1) w')
    (hok : badArgs op a b n = false → (a0 = .pointer none ∧ ∀ w', Fr w.heap.size No w w' → R (.int .i64 7) w') ∨
      ∃ x X fv p, a0 = ptr x ∧ RkAt N w x X fv ∧ X.good ∧ p.op = op ∧ p.fst = a ∧ p.snd = b ∧ (p.num : Int) = n ∧ p.num < 2 ^ 63 ∧ ∀ w', IsRk N w' x (X.operate p).2 → Fr w.heap.size (fun b => b = x) w w' → R (.int .i64 (X.operate p).1) w') :
    cl Tryd.prog 51 #[a0, .int .i64 op, .string a, .string b, .int .i64 n] w R := by
  refine C.r09_operate ?_
  unfold F.r09_operate
  refine ⟨fun _ u => badArgs op a b n = false ∧ Fr w.heap.size No w u ∧ ∃ x X fv p, a0 = ptr x ∧ RkAt N u x X fv ∧ X.good ∧ X.off = false ∧ p.op = op ∧ p.fst = a ∧ p.snd = b ∧ (p.num : Int) = n ∧ p.num < 2 ^ 63 ∧ ∀ w', IsRk N w' x (X.step p).2 → Fr u.heap.size (fun b => b = x) u w' → R (.int .i64 (X.step p).1) w', ⟨fun l u => l = [.bool (badArgs op a b n)] ∧ Fr w.heap.size No w u, ?_, ?_⟩, ?_⟩
  · refine ref_Name a w ha fun u hf => ?_
    simp only [T.ty_28, T.fa_52_2, T.ld_4, T.fa_52_5, T.st_3, T.fa_52_6, T.st_9, T.fa_52_7, T.fa_52_8, bx_eq, mm_eq, nc_eq, cnd_eq, bcond_true, bcond_false, pk_eq, pk_int, ex_eq, ldc_some, un_not, un_neg, mn_eq, mx_eq, bin_add, bin_sub, bin_mul, bin_lss, bin_leq, bin_gtr, bin_geq, bin_eql, bin_neq, bin_peq, bin_pne, bin_beq, bin_bne, bin_leqn, bin_lnen, bin_seq, bin_sne, bin_sge, bin_slt, rdc_cells, mapEs_some, frz_none, Nat.zero_add, Nat.add_zero, List.getElem?_toArray, List.getElem?_cons_zero, List.getElem?_cons_succ, Option.isNone_some, Option.isNone_none, Bool.not_true, Bool.not_false, ite_true, ite_false, Bool.false_eq_true, true_and, and_true, forall_const, false_implies, reduceCtorEq, Bool.true_eq_false, Nat.reduceAdd, Nat.reduceMul, Nat.reduceLT, Nat.reduceSub, Int.reduceEq, Int.reduceLT, decide_true, decide_false, List.setIfInBounds_toArray, List.set_cons_zero, List.set_cons_succ, List.size_toArray, List.length_cons, List.length_nil, frz00, one_int, one_bool, one_ptr, one_str, one_slice, one_map, one_func, one_nil, one_niliface, size_put, size_alloc, put_same, st1_put, bsc_empty, List.nil_append, List.append_nil, List.map_cons, List.map_nil, cells_ptr, cells_str, cells_int, cells_bool, cells_slice, cells_agg, cells_map, fillB_one, fillB_nil, bdc, bcond_iff, decide_eq_true_eq, decide_eq_false_iff_not]
    refine ⟨fun h1 => ⟨?_, hf⟩, fun h1 => ⟨fun h2 => ?_, fun h2 => ⟨fun h3 => ⟨?_, hf⟩, fun h3 => ⟨?_, hf⟩⟩⟩⟩
    · simp only [badArgs, h1, Bool.true_or]
    · refine ref_Name b u hb fun u2 hf2 => ?_
      have hf3 : Fr w.heap.size No w u2 := hf.trans (hf2.no hf.1)
      simp only [T.ty_28, T.fa_52_2, T.ld_4, T.fa_52_5, T.st_3, T.fa_52_6, T.st_9, T.fa_52_7, T.fa_52_8, bx_eq, mm_eq, nc_eq, cnd_eq, bcond_true, bcond_false, pk_eq, pk_int, ex_eq, ldc_some, un_not, un_neg, mn_eq, mx_eq, bin_add, bin_sub, bin_mul, bin_lss, bin_leq, bin_gtr, bin_geq, bin_eql, bin_neq, bin_peq, bin_pne, bin_beq, bin_bne, bin_leqn, bin_lnen, bin_seq, bin_sne, bin_sge, bin_slt, rdc_cells, mapEs_some, frz_none, Nat.zero_add, Nat.add_zero, List.getElem?_toArray, List.getElem?_cons_zero, List.getElem?_cons_succ, Option.isNone_some, Option.isNone_none, Bool.not_true, Bool.not_false, ite_true, ite_false, Bool.false_eq_true, true_and, and_true, forall_const, false_implies, reduceCtorEq, Bool.true_eq_false, Nat.reduceAdd, Nat.reduceMul, Nat.reduceLT, Nat.reduceSub, Int.reduceEq, Int.reduceLT, decide_true, decide_false, List.setIfInBounds_toArray, List.set_cons_zero, List.set_cons_succ, List.size_toArray, List.length_cons, List.length_nil, frz00, one_int, one_bool, one_ptr, one_str, one_slice, one_map, one_func, one_nil, one_niliface, size_put, size_alloc, put_same, st1_put, bsc_empty, List.nil_append, List.append_nil, List.map_cons, List.map_nil, cells_ptr, cells_str, cells_int, cells_bool, cells_slice, cells_agg, cells_map, fillB_one, fillB_nil, bdc, bcond_iff, decide_eq_true_eq, decide_eq_false_iff_not]
      refine ⟨fun h3 => ⟨?_, hf3⟩, fun h3 => ⟨fun h4 => ⟨?_, hf3⟩, fun h4 => ⟨?_, hf3⟩⟩⟩
      · simp only [badArgs, h3, h2, decide_true, Bool.and_self, Bool.or_true, Bool.true_or]
      · exfalso; omega
      · simp only [badArgs, h1, h3, h4, decide_false, Bool.and_false, Bool.false_and, Bool.or_self, Bool.or_false]
    · have e : badArgs op a b n = decide (n < 0) := by simp only [badArgs, h1, h3, decide_true, Bool.true_and, Bool.false_or]; rw [decide_eq_false (by omega)]; simp
      rw [e]
    · simp only [badArgs, h1, h2, h3, decide_false, Bool.false_and, Bool.or_self]
  · rintro g u ⟨hg, hf⟩
    simp only [List.map_cons, List.map_nil, List.cons.injEq, and_true] at hg
    simp only [hg, T.ty_28, T.fa_52_2, T.ld_4, T.fa_52_5, T.st_3, T.fa_52_6, T.st_9, T.fa_52_7, T.fa_52_8, bx_eq, mm_eq, nc_eq, cnd_eq, bcond_true, bcond_false, pk_eq, pk_int, ex_eq, ldc_some, un_not, un_neg, mn_eq, mx_eq, bin_add, bin_sub, bin_mul, bin_lss, bin_leq, bin_gtr, bin_geq, bin_eql, bin_neq, bin_peq, bin_pne, bin_beq, bin_bne, bin_leqn, bin_lnen, bin_seq, bin_sne, bin_sge, bin_slt, rdc_cells, mapEs_some, frz_none, Nat.zero_add, Nat.add_zero, List.getElem?_toArray, List.getElem?_cons_zero, List.getElem?_cons_succ, Option.isNone_some, Option.isNone_none, Bool.not_true, Bool.not_false, ite_true, ite_false, Bool.false_eq_true, true_and, and_true, forall_const, false_implies, reduceCtorEq, Bool.true_eq_false, Nat.reduceAdd, Nat.reduceMul, Nat.reduceLT, Nat.reduceSub, Int.reduceEq, Int.reduceLT, decide_true, decide_false, List.setIfInBounds_toArray, List.set_cons_zero, List.set_cons_succ, List.size_toArray, List.length_cons, List.length_nil, frz00, one_int, one_bool, one_ptr, one_str, one_slice, one_map, one_func, one_nil, one_niliface, size_put, size_alloc, put_same, st1_put, bsc_empty, List.nil_append, List.append_nil, List.map_cons, List.map_nil, cells_ptr, cells_str, cells_int, cells_bool, cells_slice, cells_agg, cells_map, fillB_one, fillB_nil, bdc, bcond_iff]
    refine ⟨fun h1 => hbad h1 u hf, fun h1 => ?_⟩
    rcases hok h1 with ⟨rfl, hn⟩ | ⟨x, X, fv, p, rfl, hX, hgood, hp1, hp2, hp3, hp4, hp5, hR⟩
    · simp only [T.ty_28, T.fa_52_2, T.ld_4, T.fa_52_5, T.st_3, T.fa_52_6, T.st_9, T.fa_52_7, T.fa_52_8, bx_eq, mm_eq, nc_eq, cnd_eq, bcond_true, bcond_false, pk_eq, pk_int, ex_eq, ldc_some, un_not, un_neg, mn_eq, mx_eq, bin_add, bin_sub, bin_mul, bin_lss, bin_leq, bin_gtr, bin_geq, bin_eql, bin_neq, bin_peq, bin_pne, bin_beq, bin_bne, bin_leqn, bin_lnen, bin_seq, bin_sne, bin_sge, bin_slt, rdc_cells, mapEs_some, frz_none, Nat.zero_add, Nat.add_zero, List.getElem?_toArray, List.getElem?_cons_zero, List.getElem?_cons_succ, Option.isNone_some, Option.isNone_none, Bool.not_true, Bool.not_false, ite_true, ite_false, Bool.false_eq_true, true_and, and_true, forall_const, false_implies, reduceCtorEq, Bool.true_eq_false, Nat.reduceAdd, Nat.reduceMul, Nat.reduceLT, Nat.reduceSub, Int.reduceEq, Int.reduceLT, decide_true, decide_false, List.setIfInBounds_toArray, List.set_cons_zero, List.set_cons_succ, List.size_toArray, List.length_cons, List.length_nil, frz00, one_int, one_bool, one_ptr, one_str, one_slice, one_map, one_func, one_nil, one_niliface, size_put, size_alloc, put_same, st1_put, bsc_empty, List.nil_append, List.append_nil, List.map_cons, List.map_nil, cells_ptr, cells_str, cells_int, cells_bool, cells_slice, cells_agg, cells_map, fillB_one, fillB_nil, bdc, bcond_true]
      exact hn u hf
    · have hXu := hX.young hf
      simp only [T.ty_28, T.fa_52_2, T.ld_4, T.fa_52_5, T.st_3, T.fa_52_6, T.st_9, T.fa_52_7, T.fa_52_8, bx_eq, mm_eq, nc_eq, cnd_eq, bcond_true, bcond_false, pk_eq, pk_int, ex_eq, ldc_some, un_not, un_neg, mn_eq, mx_eq, bin_add, bin_sub, bin_mul, bin_lss, bin_leq, bin_gtr, bin_geq, bin_eql, bin_neq, bin_peq, bin_pne, bin_beq, bin_bne, bin_leqn, bin_lnen, bin_seq, bin_sne, bin_sge, bin_slt, rdc_cells, mapEs_some, frz_none, Nat.zero_add, Nat.add_zero, List.getElem?_toArray, List.getElem?_cons_zero, List.getElem?_cons_succ, Option.isNone_some, Option.isNone_none, Bool.not_true, Bool.not_false, ite_true, ite_false, Bool.false_eq_true, true_and, and_true, forall_const, false_implies, reduceCtorEq, Bool.true_eq_false, Nat.reduceAdd, Nat.reduceMul, Nat.reduceLT, Nat.reduceSub, Int.reduceEq, Int.reduceLT, decide_true, decide_false, List.setIfInBounds_toArray, List.set_cons_zero, List.set_cons_succ, List.size_toArray, List.length_cons, List.length_nil, frz00, one_int, one_bool, one_ptr, one_str, one_slice, one_map, one_func, one_nil, one_niliface, size_put, size_alloc, put_same, st1_put, bsc_empty, List.nil_append, List.append_nil, List.map_cons, List.map_nil, cells_ptr, cells_str, cells_int, cells_bool, cells_slice, cells_agg, cells_map, fillB_one, fillB_nil, bdc, bcond_false, ptr]
      refine ref_find hXu hgood.few (fun h0 u2 hf2 => ?_) (fun i hi hia hgt u2 hf2 => ?_)
      · simp only [T.ty_28, T.fa_52_2, T.ld_4, T.fa_52_5, T.st_3, T.fa_52_6, T.st_9, T.fa_52_7, T.fa_52_8, bx_eq, mm_eq, nc_eq, cnd_eq, bcond_true, bcond_false, pk_eq, pk_int, ex_eq, ldc_some, un_not, un_neg, mn_eq, mx_eq, bin_add, bin_sub, bin_mul, bin_lss, bin_leq, bin_gtr, bin_geq, bin_eql, bin_neq, bin_peq, bin_pne, bin_beq, bin_bne, bin_leqn, bin_lnen, bin_seq, bin_sne, bin_sge, bin_slt, rdc_cells, mapEs_some, frz_none, Nat.zero_add, Nat.add_zero, List.getElem?_toArray, List.getElem?_cons_zero, List.getElem?_cons_succ, Option.isNone_some, Option.isNone_none, Bool.not_true, Bool.not_false, ite_true, ite_false, Bool.false_eq_true, true_and, and_true, forall_const, false_implies, reduceCtorEq, Bool.true_eq_false, Nat.reduceAdd, Nat.reduceMul, Nat.reduceLT, Nat.reduceSub, Int.reduceEq, Int.reduceLT, decide_true, decide_false, List.setIfInBounds_toArray, List.set_cons_zero, List.set_cons_succ, List.size_toArray, List.length_cons, List.length_nil, frz00, one_int, one_bool, one_ptr, one_str, one_slice, one_map, one_func, one_nil, one_niliface, size_put, size_alloc, put_same, st1_put, bsc_empty, List.nil_append, List.append_nil, List.map_cons, List.map_nil, cells_ptr, cells_str, cells_int, cells_bool, cells_slice, cells_agg, cells_map, fillB_one, fillB_nil, bdc, bcond_true]
        have e : X.operate p = (7, X) := by unfold Rk.operate; rw [hp2, h0]; rfl
        rw [e] at hR
        have hf3 : Fr w.heap.size No w u2 := hf.trans (hf2.no hf.1)
        exact hR u2 ⟨fv, hX.young hf3⟩ (hf3.no (Nat.le_refl _))
      · have hf3 : Fr w.heap.size No w u2 := hf.trans (hf2.no hf.1)
        have hX2 := hX.young hf3
        have hblk := hX2.blk
        unfold Rk.cells at hblk
        have hneg : decide ((i : Int) < 0) = false := decide_eq_false (by omega)
        simp only [T.ty_28, T.fa_52_2, T.ld_4, T.fa_52_5, T.st_3, T.fa_52_6, T.st_9, T.fa_52_7, T.fa_52_8, bx_eq, mm_eq, nc_eq, cnd_eq, bcond_true, bcond_false, pk_eq, pk_int, ex_eq, ldc_some, un_not, un_neg, mn_eq, mx_eq, bin_add, bin_sub, bin_mul, bin_lss, bin_leq, bin_gtr, bin_geq, bin_eql, bin_neq, bin_peq, bin_pne, bin_beq, bin_bne, bin_leqn, bin_lnen, bin_seq, bin_sne, bin_sge, bin_slt, rdc_cells, mapEs_some, frz_none, Nat.zero_add, Nat.add_zero, List.getElem?_toArray, List.getElem?_cons_zero, List.getElem?_cons_succ, Option.isNone_some, Option.isNone_none, Bool.not_true, Bool.not_false, ite_true, ite_false, Bool.false_eq_true, true_and, and_true, forall_const, false_implies, reduceCtorEq, Bool.true_eq_false, Nat.reduceAdd, Nat.reduceMul, Nat.reduceLT, Nat.reduceSub, Int.reduceEq, Int.reduceLT, decide_true, decide_false, List.setIfInBounds_toArray, List.set_cons_zero, List.set_cons_succ, List.size_toArray, List.length_cons, List.length_nil, frz00, one_int, one_bool, one_ptr, one_str, one_slice, one_map, one_func, one_nil, one_niliface, size_put, size_alloc, put_same, st1_put, bsc_empty, List.nil_append, List.append_nil, List.map_cons, List.map_nil, cells_ptr, cells_str, cells_int, cells_bool, cells_slice, cells_agg, cells_map, fillB_one, fillB_nil, bdc, hneg, hblk, bcond_iff]
        refine ⟨fun ho => ?_, fun ho => ?_⟩
        · have e : X.operate p = (18, X) := by unfold Rk.operate; rw [hp2, hgt, ho]; rfl
          rw [e] at hR
          exact hR u2 ⟨fv, hX2⟩ (hf3.no (Nat.le_refl _))
        · have e : X.operate p = X.step p := by unfold Rk.operate; rw [hp2, hgt, ho]; rfl
          rw [e] at hR
          exact ⟨h1, hf3, x, X, fv, p, rfl, hX2, hgood, ho, hp1, hp2, hp3, hp4, hp5, fun w' h' hf' => hR w' h' ((hf3.no (Nat.le_refl _)).then hf' hf3.1 fun _ _ h => h)⟩
  · rintro g u ⟨h1, hf, x, X, fv, p, rfl, hX, hgood, ho, hp1, hp2, hp3, hp4, hp5, hR⟩
    refine ref_goes hX ho hgood.armed fun u2 hX2 hf2 => ?_
    have hblk := hX2.blk
    have hx := lt_at hblk
    unfold Rk.cells at hblk
    unfold Rk.step at hR
    simp only [T.ty_28, T.fa_52_2, T.ld_4, T.fa_52_5, T.st_3, T.fa_52_6, T.st_9, T.fa_52_7, T.fa_52_8, bx_eq, mm_eq, nc_eq, cnd_eq, bcond_true, bcond_false, pk_eq, pk_int, ex_eq, ldc_some, un_not, un_neg, mn_eq, mx_eq, bin_add, bin_sub, bin_mul, bin_lss, bin_leq, bin_gtr, bin_geq, bin_eql, bin_neq, bin_peq, bin_pne, bin_beq, bin_bne, bin_leqn, bin_lnen, bin_seq, bin_sne, bin_sge, bin_slt, rdc_cells, mapEs_some, frz_none, Nat.zero_add, Nat.add_zero, List.getElem?_toArray, List.getElem?_cons_zero, List.getElem?_cons_succ, Option.isNone_some, Option.isNone_none, Bool.not_true, Bool.not_false, ite_true, ite_false, Bool.false_eq_true, true_and, and_true, forall_const, false_implies, reduceCtorEq, Bool.true_eq_false, Nat.reduceAdd, Nat.reduceMul, Nat.reduceLT, Nat.reduceSub, Int.reduceEq, Int.reduceLT, decide_true, decide_false, List.setIfInBounds_toArray, List.set_cons_zero, List.set_cons_succ, List.size_toArray, List.length_cons, List.length_nil, frz00, one_int, one_bool, one_ptr, one_str, one_slice, one_map, one_func, one_nil, one_niliface, size_put, size_alloc, put_same, st1_put, bsc_empty, List.nil_append, List.append_nil, List.map_cons, List.map_nil, cells_ptr, cells_str, cells_int, cells_bool, cells_slice, cells_agg, cells_map, fillB_one, fillB_nil, bdc, st1_at hblk, st1_put hx, hblk, ptr, bcond_dec]
    refine ⟨fun h2 => ?_, fun h2 => ?_⟩
    · rw [if_pos h2, hp1, hp2, hp3, hp4] at hR
      exact hR _ ⟨fv, hX2.put (X' := { X.count with last := op, a := a, b := b, n := n }) hX2.fs⟩ (hf2.put (.inl rfl))
    · rw [if_neg h2] at hR
      rw [← hp1, ← hp2, ← hp3, ← hp4]
      refine ref_carry hX2 hgood.few hgood.ok hp5 fun u3 fv3 h3 hf3 => ?_
      exact hR u3 ⟨fv3, h3⟩ (hf2.then hf3 hf2.1 fun _ _ h => h)
end Go.Proofs.YtppefblkmgihoaaDoor
