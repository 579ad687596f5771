/- The reference of layer 9: Names; Spare and Kept. -/
import Derived.Test.YtppefblkmgihoaaDoorR7
set_option linter.unusedVariables false
set_option linter.unusedSimpArgs false
set_option maxRecDepth 10000
namespace Go.Proofs.YtppefblkmgihoaaDoor
open Go.Sh

def Rk.names (X : Rk) : List ByteArray := if X.off then [] else X.fs.map (·.1)
theorem ref_Names_nil {w : World} {R : Value → World → Prop} (hR : R (.slice none 0 0) w) : cl Tryd.prog 34 #[.pointer none] w R := by
  refine C.r09_Names ?_
  unfold F.r09_Names
  simp only [T.ty_28, T.fa_52_2, T.ld_4, T.fa_52_0, T.ld_50, T.ln_50, T.ia_50, T.ld_96, T.al_96, T.st_96, T.fa_96_0, T.ld_9, T.bs_71_1, T.ap_71_71, bx_eq, mm_eq, nc_eq, cnd_eq, bcond_true, bcond_false, pk_eq, pk_int, ex_eq, ldc_some, un_not, un_neg, mn_eq, mx_eq, bin_add, bin_sub, bin_mul, bin_lss, bin_leq, bin_gtr, bin_geq, bin_eql, bin_neq, bin_peq, bin_pne, bin_beq, bin_bne, bin_leqn, bin_lnen, bin_seq, bin_sne, bin_sge, bin_slt, rdc_cells, mapEs_some, frz_none, Nat.zero_add, Nat.add_zero, List.getElem?_toArray, List.getElem?_cons_zero, List.getElem?_cons_succ, Option.isNone_some, Option.isNone_none, Bool.not_true, Bool.not_false, ite_true, ite_false, Bool.false_eq_true, true_and, and_true, forall_const, false_implies, reduceCtorEq, Bool.true_eq_false, Nat.reduceAdd, Nat.reduceMul, Nat.reduceLT, Nat.reduceSub, Int.reduceEq, Int.reduceLT, decide_true, decide_false, List.setIfInBounds_toArray, List.set_cons_zero, List.set_cons_succ, List.size_toArray, List.length_cons, List.length_nil, frz00, one_int, one_bool, one_ptr, one_str, one_slice, one_map, one_func, one_nil, one_niliface, size_put, size_alloc, put_same, st1_put, bsc_empty, List.nil_append, List.append_nil, List.map_cons, List.map_nil, cells_ptr, cells_str, cells_int, cells_bool, cells_slice, cells_agg, cells_map, fillB_one, fillB_nil, bdc]
  refine ⟨fun l u => l = [.bool false] ∧ u = w, ⟨rfl, rfl⟩, ?_⟩
  rintro g u ⟨hg, rfl⟩
  simp only [List.map_cons, List.map_nil, List.cons.injEq, and_true] at hg
  simp only [hg, bx_eq, mm_eq, nc_eq, cnd_eq, bcond_true, bcond_false, pk_eq, pk_int, ex_eq, ldc_some, un_not, un_neg, mn_eq, mx_eq, bin_add, bin_sub, bin_mul, bin_lss, bin_leq, bin_gtr, bin_geq, bin_eql, bin_neq, bin_peq, bin_pne, bin_beq, bin_bne, bin_leqn, bin_lnen, bin_seq, bin_sne, bin_sge, bin_slt, rdc_cells, mapEs_some, frz_none, Nat.zero_add, Nat.add_zero, List.getElem?_toArray, List.getElem?_cons_zero, List.getElem?_cons_succ, Option.isNone_some, Option.isNone_none, Bool.not_true, Bool.not_false, ite_true, ite_false, Bool.false_eq_true, true_and, and_true, forall_const, false_implies, reduceCtorEq, Bool.true_eq_false, Nat.reduceAdd, Nat.reduceMul, Nat.reduceLT, Nat.reduceSub, Int.reduceEq, Int.reduceLT, decide_true, decide_false, List.setIfInBounds_toArray, List.set_cons_zero, List.set_cons_succ, List.size_toArray, List.length_cons, List.length_nil, frz00, one_int, one_bool, one_ptr, one_str, one_slice, one_map, one_func, one_nil, one_niliface, size_put, size_alloc, put_same, st1_put, bsc_empty, List.nil_append, List.append_nil, List.map_cons, List.map_nil, cells_ptr, cells_str, cells_int, cells_bool, cells_slice, cells_agg, cells_map, fillB_one, fillB_nil, bdc]
  exact hR
theorem ref_Names {N : Nat} {w : World} {x : Nat} {X : Rk} {fv : Value} (h : RkAt N w x X fv) (hg : X.good) {R : Value → World → Prop}
    (hR : ∀ w' v, Fr w.heap.size No w w' → NamesV w' X.names v → R v w') : cl Tryd.prog 34 #[ptr x] w R := by
  have hblk := h.blk
  unfold Rk.cells at hblk
  obtain ⟨A, c, rfl⟩ := h.fs.shape
  have hl : X.fs.length < 2 ^ 36 := hg.few
  refine C.r09_Names ?_
  unfold F.r09_Names
  simp only [T.ty_28, T.fa_52_2, T.ld_4, T.fa_52_0, T.ld_50, T.ln_50, T.ia_50, T.ld_96, T.al_96, T.st_96, T.fa_96_0, T.ld_9, T.bs_71_1, T.ap_71_71, bx_eq, mm_eq, nc_eq, cnd_eq, bcond_true, bcond_false, pk_eq, pk_int, ex_eq, ldc_some, un_not, un_neg, mn_eq, mx_eq, bin_add, bin_sub, bin_mul, bin_lss, bin_leq, bin_gtr, bin_geq, bin_eql, bin_neq, bin_peq, bin_pne, bin_beq, bin_bne, bin_leqn, bin_lnen, bin_seq, bin_sne, bin_sge, bin_slt, rdc_cells, mapEs_some, frz_none, Nat.zero_add, Nat.add_zero, List.getElem?_toArray, List.getElem?_cons_zero, List.getElem?_cons_succ, Option.isNone_some, Option.isNone_none, Bool.not_true, Bool.not_false, ite_true, ite_false, Bool.false_eq_true, true_and, and_true, forall_const, false_implies, reduceCtorEq, Bool.true_eq_false, Nat.reduceAdd, Nat.reduceMul, Nat.reduceLT, Nat.reduceSub, Int.reduceEq, Int.reduceLT, decide_true, decide_false, List.setIfInBounds_toArray, List.set_cons_zero, List.set_cons_succ, List.size_toArray, List.length_cons, List.length_nil, frz00, one_int, one_bool, one_ptr, one_str, one_slice, one_map, one_func, one_nil, one_niliface, size_put, size_alloc, put_same, st1_put, bsc_empty, List.nil_append, List.append_nil, List.map_cons, List.map_nil, cells_ptr, cells_str, cells_int, cells_bool, cells_slice, cells_agg, cells_map, fillB_one, fillB_nil, bdc, hblk, ptr]
  refine ⟨fun l u => l = [.bool !X.off] ∧ u = w, ⟨rfl, rfl⟩, ?_⟩
  rintro g u ⟨hg1, rfl⟩
  simp only [List.map_cons, List.map_nil, List.cons.injEq, and_true] at hg1
  simp only [hg1, T.ty_28, T.fa_52_2, T.ld_4, T.fa_52_0, T.ld_50, T.ln_50, T.ia_50, T.ld_96, T.al_96, T.st_96, T.fa_96_0, T.ld_9, T.bs_71_1, T.ap_71_71, bx_eq, mm_eq, nc_eq, cnd_eq, bcond_true, bcond_false, pk_eq, pk_int, ex_eq, ldc_some, un_not, un_neg, mn_eq, mx_eq, bin_add, bin_sub, bin_mul, bin_lss, bin_leq, bin_gtr, bin_geq, bin_eql, bin_neq, bin_peq, bin_pne, bin_beq, bin_bne, bin_leqn, bin_lnen, bin_seq, bin_sne, bin_sge, bin_slt, rdc_cells, mapEs_some, frz_none, Nat.zero_add, Nat.add_zero, List.getElem?_toArray, List.getElem?_cons_zero, List.getElem?_cons_succ, Option.isNone_some, Option.isNone_none, Bool.not_true, Bool.not_false, ite_true, ite_false, Bool.false_eq_true, true_and, and_true, forall_const, false_implies, reduceCtorEq, Bool.true_eq_false, Nat.reduceAdd, Nat.reduceMul, Nat.reduceLT, Nat.reduceSub, Int.reduceEq, Int.reduceLT, decide_true, decide_false, List.setIfInBounds_toArray, List.set_cons_zero, List.set_cons_succ, List.size_toArray, List.length_cons, List.length_nil, frz00, one_int, one_bool, one_ptr, one_str, one_slice, one_map, one_func, one_nil, one_niliface, size_put, size_alloc, put_same, st1_put, bsc_empty, List.nil_append, List.append_nil, List.map_cons, List.map_nil, cells_ptr, cells_str, cells_int, cells_bool, cells_slice, cells_agg, cells_map, fillB_one, fillB_nil, bdc, hblk, bcond_iff, Bool.not_eq_true', Bool.not_eq_false']
  refine ⟨fun ho => ?_, fun ho => ?_⟩
  · have e : X.names = X.fs.map (·.1) := by unfold Rk.names; rw [ho]; rfl
    rw [e] at hR
    let St : List ByteArray → World → Value → Prop := fun L z v => Ow u.heap.size 9 1 z v L.length (L.map .string)
    refine ⟨fun s z => ∃ (i : Nat) (v : Value), s = [v, .int .i64 i] ∧ i ≤ X.fs.length ∧ Fr u.heap.size No u z ∧ St ((X.fs.take i).map (·.1)) z v, fun s _ => match s with | [_, .int _ i] => (X.fs.length - i).toNat | _ => 0, ⟨0, _, rfl, Nat.zero_le _, Fr.refl, Ow.nil ..⟩, ?_⟩
    rintro g z ⟨i, v, hg2, hi, hf, hO⟩
    simp only [List.map_cons, List.map_nil, List.cons.injEq, and_true] at hg2
    obtain ⟨hg2, hg3⟩ := hg2
    simp only [hg2, hg3, T.ty_28, T.fa_52_2, T.ld_4, T.fa_52_0, T.ld_50, T.ln_50, T.ia_50, T.ld_96, T.al_96, T.st_96, T.fa_96_0, T.ld_9, T.bs_71_1, T.ap_71_71, bx_eq, mm_eq, nc_eq, cnd_eq, bcond_true, bcond_false, pk_eq, pk_int, ex_eq, ldc_some, un_not, un_neg, mn_eq, mx_eq, bin_add, bin_sub, bin_mul, bin_lss, bin_leq, bin_gtr, bin_geq, bin_eql, bin_neq, bin_peq, bin_pne, bin_beq, bin_bne, bin_leqn, bin_lnen, bin_seq, bin_sne, bin_sge, bin_slt, rdc_cells, mapEs_some, frz_none, Nat.zero_add, Nat.add_zero, List.getElem?_toArray, List.getElem?_cons_zero, List.getElem?_cons_succ, Option.isNone_some, Option.isNone_none, Bool.not_true, Bool.not_false, ite_true, ite_false, Bool.false_eq_true, true_and, and_true, forall_const, false_implies, reduceCtorEq, Bool.true_eq_false, Nat.reduceAdd, Nat.reduceMul, Nat.reduceLT, Nat.reduceSub, Int.reduceEq, Int.reduceLT, decide_true, decide_false, List.setIfInBounds_toArray, List.set_cons_zero, List.set_cons_succ, List.size_toArray, List.length_cons, List.length_nil, frz00, one_int, one_bool, one_ptr, one_str, one_slice, one_map, one_func, one_nil, one_niliface, size_put, size_alloc, put_same, st1_put, bsc_empty, List.nil_append, List.append_nil, List.map_cons, List.map_nil, cells_ptr, cells_str, cells_int, cells_bool, cells_slice, cells_agg, cells_map, fillB_one, fillB_nil, bdc]
    rw [bcond_dec]
    refine ⟨fun hlt => ?_, fun hge => ?_⟩
    · have hlt : i < X.fs.length := by omega
      obtain ⟨b, o, c', bv, sv, he, _, hrd, hbv, hsv, _⟩ := (h.fs.young hf).row hlt
      injection he with e1 e2 e3
      subst e1
      simp only [T.ty_28, T.fa_52_2, T.ld_4, T.fa_52_0, T.ld_50, T.ln_50, T.ia_50, T.ld_96, T.al_96, T.st_96, T.fa_96_0, T.ld_9, T.bs_71_1, T.ap_71_71, bx_eq, mm_eq, nc_eq, cnd_eq, bcond_true, bcond_false, pk_eq, pk_int, ex_eq, ldc_some, un_not, un_neg, mn_eq, mx_eq, bin_add, bin_sub, bin_mul, bin_lss, bin_leq, bin_gtr, bin_geq, bin_eql, bin_neq, bin_peq, bin_pne, bin_beq, bin_bne, bin_leqn, bin_lnen, bin_seq, bin_sne, bin_sge, bin_slt, rdc_cells, mapEs_some, frz_none, Nat.zero_add, Nat.add_zero, List.getElem?_toArray, List.getElem?_cons_zero, List.getElem?_cons_succ, Option.isNone_some, Option.isNone_none, Bool.not_true, Bool.not_false, ite_true, ite_false, Bool.false_eq_true, true_and, and_true, forall_const, false_implies, reduceCtorEq, Bool.true_eq_false, Nat.reduceAdd, Nat.reduceMul, Nat.reduceLT, Nat.reduceSub, Int.reduceEq, Int.reduceLT, decide_true, decide_false, List.setIfInBounds_toArray, List.set_cons_zero, List.set_cons_succ, List.size_toArray, List.length_cons, List.length_nil, frz00, one_int, one_bool, one_ptr, one_str, one_slice, one_map, one_func, one_nil, one_niliface, size_put, size_alloc, put_same, st1_put, bsc_empty, List.nil_append, List.append_nil, List.map_cons, List.map_nil, cells_ptr, cells_str, cells_int, cells_bool, cells_slice, cells_agg, cells_map, fillB_one, fillB_nil, bdc, Int.toNat_natCast, hrd, ldn]
      refine ⟨by omega, by omega, ?_⟩
      refine stN_new rfl rfl (row_one hbv hsv) ?_
      generalize hz2 : z.alloc (.cells #[.string (X.fs[i]).1, bv, sv] 96 (0, 0)) = z2
      have hfz : Fr z.heap.size No z z2 := by rw [← hz2]; exact Fr.refl.alloc (Nat.le_refl _)
      have hf2 : Fr u.heap.size No u z2 := hf.trans (hfz.no hf.1)
      have ha : z2.heap[z.heap.size]? = some (.cells #[.string (X.fs[i]).1, bv, sv] 96 (0, 0)) := by rw [← hz2]; exact alloc_at rfl
      have hO2 : St ((X.fs.take i).map (·.1)) z2 v := Ow.fr hO hfz fun _ _ _ _ => no_not
      have hlen : ((X.fs.take i).map (·.1)).length = i := by simp; omega
      obtain ⟨A2, c2, rfl, _⟩ := hO2.sl.shape
      simp only [T.ty_28, T.fa_52_2, T.ld_4, T.fa_52_0, T.ld_50, T.ln_50, T.ia_50, T.ld_96, T.al_96, T.st_96, T.fa_96_0, T.ld_9, T.bs_71_1, T.ap_71_71, bx_eq, mm_eq, nc_eq, cnd_eq, bcond_true, bcond_false, pk_eq, pk_int, ex_eq, ldc_some, un_not, un_neg, mn_eq, mx_eq, bin_add, bin_sub, bin_mul, bin_lss, bin_leq, bin_gtr, bin_geq, bin_eql, bin_neq, bin_peq, bin_pne, bin_beq, bin_bne, bin_leqn, bin_lnen, bin_seq, bin_sne, bin_sge, bin_slt, rdc_cells, mapEs_some, frz_none, Nat.zero_add, Nat.add_zero, List.getElem?_toArray, List.getElem?_cons_zero, List.getElem?_cons_succ, Option.isNone_some, Option.isNone_none, Bool.not_true, Bool.not_false, ite_true, ite_false, Bool.false_eq_true, true_and, and_true, forall_const, false_implies, reduceCtorEq, Bool.true_eq_false, Nat.reduceAdd, Nat.reduceMul, Nat.reduceLT, Nat.reduceSub, Int.reduceEq, Int.reduceLT, decide_true, decide_false, List.setIfInBounds_toArray, List.set_cons_zero, List.set_cons_succ, List.size_toArray, List.length_cons, List.length_nil, frz00, one_int, one_bool, one_ptr, one_str, one_slice, one_map, one_func, one_nil, one_niliface, size_put, size_alloc, put_same, st1_put, bsc_empty, List.nil_append, List.append_nil, List.map_cons, List.map_nil, cells_ptr, cells_str, cells_int, cells_bool, cells_slice, cells_agg, cells_map, fillB_one, fillB_nil, bdc, ha]
      rw [bsc_one (v := .string (X.fs[i]).1) (sz := 1) (z := #[.string ⟨#[]⟩]) rfl rfl]
      simp only [cells_str]
      have hf3 : Fr z2.heap.size No z2 (z2.alloc (.cells #[.string (X.fs[i]).1] 9 (0, 0))) := Fr.refl.alloc (Nat.le_refl _)
      have hs : Sl (fun _ => True) 9 1 (z2.alloc (.cells #[.string (X.fs[i]).1] 9 (0, 0))) (.slice (some ⟨z2.heap.size, 0, none⟩) 1 1) 1 [.string (X.fs[i]).1] := ⟨_, 1, rfl, Nat.le_refl _, rfl, .inr ⟨z2.heap.size, 0, _, (0, 0), rfl, trivial, alloc_at rfl, by simp, fun k hk => by simp⟩⟩
      rw [src_sl hs]
      refine ap_own (Ow.fr hO2 hf3 fun _ _ _ _ => no_not) rfl (by decide) rfl (by intro q hq; simp only [List.mem_singleton] at hq; subst hq; rfl) (by rw [size_alloc]; have := hf2.1; omega) (by rw [hlen]; omega) (by rw [hlen]; omega) fun A' c' w' ho' hof => ?_
      rw [IntWalk.i64_in _ (by omega)]
      refine ⟨⟨i + 1, _, rfl, by omega, (hf2.trans (hf3.no hf2.1)).trans (hof.fr (by rw [size_alloc]; have := hf2.1; omega)), ?_⟩, by omega⟩
      have e4 : (X.fs.take (i + 1)).map (·.1) = (X.fs.take i).map (·.1) ++ [(X.fs[i]).1] := by rw [List.take_succ_eq_append_getElem hlt, List.map_append]; rfl
      show Ow _ _ _ _ _ _ _
      rw [e4, List.length_append, List.map_append]
      exact ho'
    · have : i = X.fs.length := by omega
      subst this
      rw [List.take_length] at hO
      exact hR z v hf (hO.sl.mono fun _ _ _ => trivial)
  · have e : X.names = [] := by unfold Rk.names; rw [ho]; rfl
    rw [e] at hR
    exact hR u _ Fr.refl ⟨none, 0, rfl, Nat.le_refl _, rfl, .inl ⟨rfl, .inl rfl⟩⟩
end Go.Proofs.YtppefblkmgihoaaDoor
