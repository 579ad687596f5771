/- The reference of layer 9: DocAppend. -/
import Derived.Test.YtppefblkmgihoaaDoorR10
set_option linter.unusedVariables false
set_option linter.unusedSimpArgs false
set_option maxRecDepth 10000
namespace Go.Proofs.YtppefblkmgihoaaDoor
open Go.Sh

theorem ref_Append {N : Nat} {w : World} {x : Nat} {X : Rk} {fv : Value} {a : ByteArray} {ps : List UInt8} {pv : Value} (h : RkAt N w x X fv) (hg : X.good) (ht : X.fs.total < 2 ^ 36) (ha : a.size < 2 ^ 62) (hp : BytesA No w ps pv) (hps : small ps.length) {R : Value → World → Prop}
    (hR : ∀ w', IsRk N w' x (X.append a ps).2 → Fr w.heap.size (fun b => b = x) w w' → R (.int .i64 (X.append a ps).1) w') : cl Tryd.prog 17 #[ptr x, .string a, pv] w R := by
  obtain ⟨pe, hp⟩ := hp
  obtain ⟨PA, pc, rfl, _⟩ := Sl.shape hp
  have hps : ps.length < 2 ^ 36 := hps
  refine C.r09_DocAppend ?_
  unfold F.r09_DocAppend
  refine ref_Name a w ha fun u hf => ?_
  simp only [T.ty_28, T.ln_31, T.fa_52_0, T.ld_50, T.ln_50, T.ia_50, T.ld_96, T.al_96, T.st_96, T.fa_96_2, T.ld_32, T.ln_32, T.fa_52_1, T.ld_3, T.fa_52_2, T.ld_4, T.bd_96_0, T.bs_31_0, T.fa_96_1, T.ld_31, T.ap_31_31, T.bs_31_1, T.bs_32_0, T.ap_32_32, T.bd_96_0_1_2, T.fa_52_5, T.st_3, bx_eq, mm_eq, nc_eq, cnd_eq, bcond_true, bcond_false, pk_eq, pk_int, ex_eq, ldc_some, un_not, un_neg, mn_eq, mx_eq, bin_add, bin_sub, bin_mul, bin_lss, bin_leq, bin_gtr, bin_geq, bin_eql, bin_neq, bin_peq, bin_pne, bin_beq, bin_bne, bin_leqn, bin_lnen, bin_seq, bin_sne, bin_sge, bin_slt, rdc_cells, mapEs_some, frz_none, Nat.zero_add, Nat.add_zero, List.getElem?_toArray, List.getElem?_cons_zero, List.getElem?_cons_succ, Option.isNone_some, Option.isNone_none, Bool.not_true, Bool.not_false, ite_true, ite_false, Bool.false_eq_true, true_and, and_true, forall_const, false_implies, reduceCtorEq, Bool.true_eq_false, Nat.reduceAdd, Nat.reduceMul, Nat.reduceLT, Nat.reduceSub, Int.reduceEq, Int.reduceLT, decide_true, decide_false, List.setIfInBounds_toArray, List.set_cons_zero, List.set_cons_succ, List.size_toArray, List.length_cons, List.length_nil, frz00, one_int, one_bool, one_ptr, one_str, one_slice, one_map, one_func, one_nil, one_niliface, size_put, size_alloc, put_same, st1_put, bsc_empty, List.nil_append, List.append_nil, List.map_cons, List.map_nil, cells_ptr, cells_str, cells_int, cells_bool, cells_slice, cells_agg, cells_map, fillB_one, fillB_nil, bdc, bcond_iff, ptr]
  refine ⟨fun h1 => ?_, fun h1 => ?_⟩
  · have e : X.append a ps = (1, X) := by unfold Rk.append; rw [if_pos (by simpa using h1)]
    rw [e] at hR; exact hR u ⟨fv, h.young hf⟩ (hf.no (Nat.le_refl _))
  have h1 : isName a = true := by simpa using h1
  rw [bin_quo (by decide), IntWalk.i64_quo _ _ (by omega)]
  refine ⟨fun l z => l = [.int .i64 (nsec ps : Nat)] ∧ z = u, ?_, ?_⟩
  · dsimp only
    rw [bin_rem (by decide)]
    simp only [T.ty_28, T.ln_31, T.fa_52_0, T.ld_50, T.ln_50, T.ia_50, T.ld_96, T.al_96, T.st_96, T.fa_96_2, T.ld_32, T.ln_32, T.fa_52_1, T.ld_3, T.fa_52_2, T.ld_4, T.bd_96_0, T.bs_31_0, T.fa_96_1, T.ld_31, T.ap_31_31, T.bs_31_1, T.bs_32_0, T.ap_32_32, T.bd_96_0_1_2, T.fa_52_5, T.st_3, bx_eq, mm_eq, nc_eq, cnd_eq, bcond_true, bcond_false, pk_eq, pk_int, ex_eq, ldc_some, un_not, un_neg, mn_eq, mx_eq, bin_add, bin_sub, bin_mul, bin_lss, bin_leq, bin_gtr, bin_geq, bin_eql, bin_neq, bin_peq, bin_pne, bin_beq, bin_bne, bin_leqn, bin_lnen, bin_seq, bin_sne, bin_sge, bin_slt, rdc_cells, mapEs_some, frz_none, Nat.zero_add, Nat.add_zero, List.getElem?_toArray, List.getElem?_cons_zero, List.getElem?_cons_succ, Option.isNone_some, Option.isNone_none, Bool.not_true, Bool.not_false, ite_true, ite_false, Bool.false_eq_true, true_and, and_true, forall_const, false_implies, reduceCtorEq, Bool.true_eq_false, Nat.reduceAdd, Nat.reduceMul, Nat.reduceLT, Nat.reduceSub, Int.reduceEq, Int.reduceLT, decide_true, decide_false, List.setIfInBounds_toArray, List.set_cons_zero, List.set_cons_succ, List.size_toArray, List.length_cons, List.length_nil, frz00, one_int, one_bool, one_ptr, one_str, one_slice, one_map, one_func, one_nil, one_niliface, size_put, size_alloc, put_same, st1_put, bsc_empty, List.nil_append, List.append_nil, List.map_cons, List.map_nil, cells_ptr, cells_str, cells_int, cells_bool, cells_slice, cells_agg, cells_map, fillB_one, fillB_nil, bdc]
    rw [bcond_dec]
    have hm : ((ps.length : Int).tmod 32) = ((ps.length % 32 : Nat) : Int) := by rw [Int.tmod_eq_emod_of_nonneg (by omega)]; omega
    rw [hm]
    refine ⟨fun h2 => ?_, fun h2 => ?_⟩
    · rw [IntWalk.i64_in _ (by omega)]
      congr 2; unfold nsec; omega
    · congr 2; unfold nsec; omega
  rintro g u2 ⟨hg1, rfl⟩
  simp only [List.map_cons, List.map_nil, List.cons.injEq, and_true] at hg1
  have hu := h.young hf
  have hblk := hu.blk
  unfold Rk.cells at hblk
  obtain ⟨A, c, rfl⟩ := h.fs.shape
  have hl : X.fs.length < 2 ^ 36 := hg.few
  simp only [hg1, T.ty_28, T.ln_31, T.fa_52_0, T.ld_50, T.ln_50, T.ia_50, T.ld_96, T.al_96, T.st_96, T.fa_96_2, T.ld_32, T.ln_32, T.fa_52_1, T.ld_3, T.fa_52_2, T.ld_4, T.bd_96_0, T.bs_31_0, T.fa_96_1, T.ld_31, T.ap_31_31, T.bs_31_1, T.bs_32_0, T.ap_32_32, T.bd_96_0_1_2, T.fa_52_5, T.st_3, bx_eq, mm_eq, nc_eq, cnd_eq, bcond_true, bcond_false, pk_eq, pk_int, ex_eq, ldc_some, un_not, un_neg, mn_eq, mx_eq, bin_add, bin_sub, bin_mul, bin_lss, bin_leq, bin_gtr, bin_geq, bin_eql, bin_neq, bin_peq, bin_pne, bin_beq, bin_bne, bin_leqn, bin_lnen, bin_seq, bin_sne, bin_sge, bin_slt, rdc_cells, mapEs_some, frz_none, Nat.zero_add, Nat.add_zero, List.getElem?_toArray, List.getElem?_cons_zero, List.getElem?_cons_succ, Option.isNone_some, Option.isNone_none, Bool.not_true, Bool.not_false, ite_true, ite_false, Bool.false_eq_true, true_and, and_true, forall_const, false_implies, reduceCtorEq, Bool.true_eq_false, Nat.reduceAdd, Nat.reduceMul, Nat.reduceLT, Nat.reduceSub, Int.reduceEq, Int.reduceLT, decide_true, decide_false, List.setIfInBounds_toArray, List.set_cons_zero, List.set_cons_succ, List.size_toArray, List.length_cons, List.length_nil, frz00, one_int, one_bool, one_ptr, one_str, one_slice, one_map, one_func, one_nil, one_niliface, size_put, size_alloc, put_same, st1_put, bsc_empty, List.nil_append, List.append_nil, List.map_cons, List.map_nil, cells_ptr, cells_str, cells_int, cells_bool, cells_slice, cells_agg, cells_map, fillB_one, fillB_nil, bdc, hblk, ptr]
  refine ⟨fun s z => ∃ i : Nat, s = [.int .i64 (nsec ps + Files.total (X.fs.take i) : Nat), .int .i64 i] ∧ i ≤ X.fs.length ∧ Fr u2.heap.size No u2 z, fun s _ => match s with | [_, .int _ i] => (X.fs.length - i).toNat | _ => 0, ⟨0, by simp [Files.total], Nat.zero_le _, Fr.refl⟩, ?_⟩
  rintro g2 z ⟨i, hg2, hi, hfz⟩
  simp only [List.map_cons, List.map_nil, List.cons.injEq, and_true] at hg2
  obtain ⟨hg2, hg3⟩ := hg2
  simp only [hg2, hg3]
  rw [bin_lss, cnd_eq, bcond_dec]
  refine ⟨fun hlt => ?_, fun hge => ?_⟩
  · have hlt : i < X.fs.length := by omega
    obtain ⟨b, o, c', bv, sv, he, _, hrd, hbv, hsv, _⟩ := (hu.fs.young hfz).row hlt
    injection he with e1 e2 e3
    subst e1
    obtain ⟨S, cs, rfl⟩ := hsv.shape
    have hro := row_one (s := (X.fs[i]).1) hbv hsv
    rw [flags_len] at hrd hro
    simp only [T.ty_28, T.ln_31, T.fa_52_0, T.ld_50, T.ln_50, T.ia_50, T.ld_96, T.al_96, T.st_96, T.fa_96_2, T.ld_32, T.ln_32, T.fa_52_1, T.ld_3, T.fa_52_2, T.ld_4, T.bd_96_0, T.bs_31_0, T.fa_96_1, T.ld_31, T.ap_31_31, T.bs_31_1, T.bs_32_0, T.ap_32_32, T.bd_96_0_1_2, T.fa_52_5, T.st_3, bx_eq, mm_eq, nc_eq, cnd_eq, bcond_true, bcond_false, pk_eq, pk_int, ex_eq, ldc_some, un_not, un_neg, mn_eq, mx_eq, bin_add, bin_sub, bin_mul, bin_lss, bin_leq, bin_gtr, bin_geq, bin_eql, bin_neq, bin_peq, bin_pne, bin_beq, bin_bne, bin_leqn, bin_lnen, bin_seq, bin_sne, bin_sge, bin_slt, rdc_cells, mapEs_some, frz_none, Nat.zero_add, Nat.add_zero, List.getElem?_toArray, List.getElem?_cons_zero, List.getElem?_cons_succ, Option.isNone_some, Option.isNone_none, Bool.not_true, Bool.not_false, ite_true, ite_false, Bool.false_eq_true, true_and, and_true, forall_const, false_implies, reduceCtorEq, Bool.true_eq_false, Nat.reduceAdd, Nat.reduceMul, Nat.reduceLT, Nat.reduceSub, Int.reduceEq, Int.reduceLT, decide_true, decide_false, List.setIfInBounds_toArray, List.set_cons_zero, List.set_cons_succ, List.size_toArray, List.length_cons, List.length_nil, frz00, one_int, one_bool, one_ptr, one_str, one_slice, one_map, one_func, one_nil, one_niliface, size_put, size_alloc, put_same, st1_put, bsc_empty, List.nil_append, List.append_nil, List.map_cons, List.map_nil, cells_ptr, cells_str, cells_int, cells_bool, cells_slice, cells_agg, cells_map, fillB_one, fillB_nil, bdc, Int.toNat_natCast, hrd, ldn]
    refine ⟨by omega, by omega, ?_⟩
    refine stN_new rfl rfl hro ?_
    have hal : (z.alloc (.cells #[.string (X.fs[i]).1, bv, .slice S (X.fs[i]).2.length cs] 96 (0, 0))).heap[z.heap.size]? = some (.cells #[.string (X.fs[i]).1, bv, .slice S (X.fs[i]).2.length cs] 96 (0, 0)) := alloc_at rfl
    have hsum : Files.total (X.fs.take (i + 1)) = Files.total (X.fs.take i) + (X.fs[i]).2.length := by
      unfold Files.total; rw [List.take_succ_eq_append_getElem hlt, List.map_append, List.sum_append]; simp only [List.map_cons, List.map_nil, List.sum_cons, List.sum_nil, Nat.add_zero]
    have hle : Files.total (X.fs.take (i + 1)) ≤ X.fs.total := by
      have h2 : Files.total (List.take (i + 1) X.fs ++ List.drop (i + 1) X.fs) = X.fs.total := by rw [List.take_append_drop]
      simp only [Files.total, List.map_append, List.sum_append] at h2 ⊢
      omega
    have hns : nsec ps < 2 ^ 36 := by unfold nsec; omega
    simp only [T.ty_28, T.ln_31, T.fa_52_0, T.ld_50, T.ln_50, T.ia_50, T.ld_96, T.al_96, T.st_96, T.fa_96_2, T.ld_32, T.ln_32, T.fa_52_1, T.ld_3, T.fa_52_2, T.ld_4, T.bd_96_0, T.bs_31_0, T.fa_96_1, T.ld_31, T.ap_31_31, T.bs_31_1, T.bs_32_0, T.ap_32_32, T.bd_96_0_1_2, T.fa_52_5, T.st_3, bx_eq, mm_eq, nc_eq, cnd_eq, bcond_true, bcond_false, pk_eq, pk_int, ex_eq, ldc_some, un_not, un_neg, mn_eq, mx_eq, bin_add, bin_sub, bin_mul, bin_lss, bin_leq, bin_gtr, bin_geq, bin_eql, bin_neq, bin_peq, bin_pne, bin_beq, bin_bne, bin_leqn, bin_lnen, bin_seq, bin_sne, bin_sge, bin_slt, rdc_cells, mapEs_some, frz_none, Nat.zero_add, Nat.add_zero, List.getElem?_toArray, List.getElem?_cons_zero, List.getElem?_cons_succ, Option.isNone_some, Option.isNone_none, Bool.not_true, Bool.not_false, ite_true, ite_false, Bool.false_eq_true, true_and, and_true, forall_const, false_implies, reduceCtorEq, Bool.true_eq_false, Nat.reduceAdd, Nat.reduceMul, Nat.reduceLT, Nat.reduceSub, Int.reduceEq, Int.reduceLT, decide_true, decide_false, List.setIfInBounds_toArray, List.set_cons_zero, List.set_cons_succ, List.size_toArray, List.length_cons, List.length_nil, frz00, one_int, one_bool, one_ptr, one_str, one_slice, one_map, one_func, one_nil, one_niliface, size_put, size_alloc, put_same, st1_put, bsc_empty, List.nil_append, List.append_nil, List.map_cons, List.map_nil, cells_ptr, cells_str, cells_int, cells_bool, cells_slice, cells_agg, cells_map, fillB_one, fillB_nil, bdc, hal, hg2, hg3]
    rw [IntWalk.i64_in _ (by omega), IntWalk.i64_in _ (by omega)]
    refine ⟨⟨i + 1, ?_, by omega, hfz.alloc hfz.1⟩, by omega⟩
    rw [hsum]; congr 2; congr 1; omega
  · have : i = X.fs.length := by omega
    subst this
    rw [List.take_length]
    have hns : nsec ps < 2 ^ 36 := by unfold nsec; omega
    refine cl.mono (K := fun v z2 => Fr u2.heap.size No u2 z2 ∧ ∃ n : Int, v = .int .i64 n ∧ ((n = -1 ∧ aget X.fs a = none) ∨ ∃ i : Nat, ∃ hi : i < X.fs.length, n = i ∧ (X.fs[i]).1 = a ∧ aget X.fs a = some (X.fs[i]).2)) (ref_find (hu.young hfz) hg.few (fun h0 z2 hf2 => ⟨hfz.trans (hf2.no hfz.1), -1, rfl, .inl ⟨rfl, h0⟩⟩) (fun i hi hia hgt z2 hf2 => ⟨hfz.trans (hf2.no hfz.1), i, rfl, .inr ⟨i, hi, rfl, hia, hgt⟩⟩)) ?_
    rintro _ z2 ⟨hf2, n, rfl, hn⟩
    have hX2 := hu.young hf2
    have hblk2 := hX2.blk
    unfold Rk.cells at hblk2
    have hfw : Fr w.heap.size No w z2 := hf.trans (hf2.no hf.1)
    have hneg : (n < 0) ↔ aget X.fs a = none := by
      rcases hn with ⟨rfl, h0⟩ | ⟨i, hi, rfl, _, hgt⟩
      · simp [h0]
      · rw [hgt]; simp
    refine ⟨fun _ z3 => z3 = z2 ∧ ¬ (X.room < ((nsec ps + X.fs.total : Nat) : Int) ∨ (aget X.fs a = none ∧ 64 ≤ X.fs.length)), ?_, ?_⟩
    · simp only [T.ty_28, T.ln_31, T.fa_52_0, T.ld_50, T.ln_50, T.ia_50, T.ld_96, T.al_96, T.st_96, T.fa_96_2, T.ld_32, T.ln_32, T.fa_52_1, T.ld_3, T.fa_52_2, T.ld_4, T.bd_96_0, T.bs_31_0, T.fa_96_1, T.ld_31, T.ap_31_31, T.bs_31_1, T.bs_32_0, T.ap_32_32, T.bd_96_0_1_2, T.fa_52_5, T.st_3, bx_eq, mm_eq, nc_eq, cnd_eq, bcond_true, bcond_false, pk_eq, pk_int, ex_eq, ldc_some, un_not, un_neg, mn_eq, mx_eq, bin_add, bin_sub, bin_mul, bin_lss, bin_leq, bin_gtr, bin_geq, bin_eql, bin_neq, bin_peq, bin_pne, bin_beq, bin_bne, bin_leqn, bin_lnen, bin_seq, bin_sne, bin_sge, bin_slt, rdc_cells, mapEs_some, frz_none, Nat.zero_add, Nat.add_zero, List.getElem?_toArray, List.getElem?_cons_zero, List.getElem?_cons_succ, Option.isNone_some, Option.isNone_none, Bool.not_true, Bool.not_false, ite_true, ite_false, Bool.false_eq_true, true_and, and_true, forall_const, false_implies, reduceCtorEq, Bool.true_eq_false, Nat.reduceAdd, Nat.reduceMul, Nat.reduceLT, Nat.reduceSub, Int.reduceEq, Int.reduceLT, decide_true, decide_false, List.setIfInBounds_toArray, List.set_cons_zero, List.set_cons_succ, List.size_toArray, List.length_cons, List.length_nil, frz00, one_int, one_bool, one_ptr, one_str, one_slice, one_map, one_func, one_nil, one_niliface, size_put, size_alloc, put_same, st1_put, bsc_empty, List.nil_append, List.append_nil, List.map_cons, List.map_nil, cells_ptr, cells_str, cells_int, cells_bool, cells_slice, cells_agg, cells_map, fillB_one, fillB_nil, bdc, hblk2, hg2]
      rw [bcond_dec]
      have hfull : (X.room < ((nsec ps + X.fs.total : Nat) : Int) ∨ (aget X.fs a = none ∧ 64 ≤ X.fs.length)) → R (.int .i64 17) z2 := fun hf => by
        have e : X.append a ps = (17, X) := by unfold Rk.append; rw [if_neg (by simp [h1]), if_pos hf]
        rw [e] at hR; exact hR z2 ⟨_, h.young hfw⟩ (hfw.no (Nat.le_refl _))
      refine ⟨fun h2 => hfull (.inl h2), fun h2 => ?_⟩
      rw [bcond_dec]
      refine ⟨fun h3 => ?_, fun h3 hx => hx.elim h2 fun hx => h3 (hneg.2 hx.1)⟩
      rw [bcond_dec]
      exact ⟨fun h4 => hfull (.inr ⟨hneg.1 h3, by omega⟩), fun h4 hx => hx.elim h2 fun hx => h4 (by omega)⟩
    · rintro g3 z3 ⟨rfl, hroom⟩
      simp only [T.ty_28, T.ln_31, T.fa_52_0, T.ld_50, T.ln_50, T.ia_50, T.ld_96, T.al_96, T.st_96, T.fa_96_2, T.ld_32, T.ln_32, T.fa_52_1, T.ld_3, T.fa_52_2, T.ld_4, T.bd_96_0, T.bs_31_0, T.fa_96_1, T.ld_31, T.ap_31_31, T.bs_31_1, T.bs_32_0, T.ap_32_32, T.bd_96_0_1_2, T.fa_52_5, T.st_3, bx_eq, mm_eq, nc_eq, cnd_eq, bcond_true, bcond_false, pk_eq, pk_int, ex_eq, ldc_some, un_not, un_neg, mn_eq, mx_eq, bin_add, bin_sub, bin_mul, bin_lss, bin_leq, bin_gtr, bin_geq, bin_eql, bin_neq, bin_peq, bin_pne, bin_beq, bin_bne, bin_leqn, bin_lnen, bin_seq, bin_sne, bin_sge, bin_slt, rdc_cells, mapEs_some, frz_none, Nat.zero_add, Nat.add_zero, List.getElem?_toArray, List.getElem?_cons_zero, List.getElem?_cons_succ, Option.isNone_some, Option.isNone_none, Bool.not_true, Bool.not_false, ite_true, ite_false, Bool.false_eq_true, true_and, and_true, forall_const, false_implies, reduceCtorEq, Bool.true_eq_false, Nat.reduceAdd, Nat.reduceMul, Nat.reduceLT, Nat.reduceSub, Int.reduceEq, Int.reduceLT, decide_true, decide_false, List.setIfInBounds_toArray, List.set_cons_zero, List.set_cons_succ, List.size_toArray, List.length_cons, List.length_nil, frz00, one_int, one_bool, one_ptr, one_str, one_slice, one_map, one_func, one_nil, one_niliface, size_put, size_alloc, put_same, st1_put, bsc_empty, List.nil_append, List.append_nil, List.map_cons, List.map_nil, cells_ptr, cells_str, cells_int, cells_bool, cells_slice, cells_agg, cells_map, fillB_one, fillB_nil, bdc, hblk2, bcond_iff]
      refine ⟨fun ho => ?_, fun ho => ?_⟩
      · have e : X.append a ps = (18, X) := by unfold Rk.append; rw [if_neg (by simp [h1]), if_neg hroom, if_pos ho]
        rw [e] at hR; exact hR z3 ⟨_, h.young hfw⟩ (hfw.no (Nat.le_refl _))
      have e : X.append a ps = (if X.armed = 1 then (18, { ({ X with fs := X.fs.put (a, X.fs.at a ++ secsOf ps) } : Rk).count with last := 0 }) else (0, ({ X with fs := X.fs.put (a, X.fs.at a ++ secsOf ps) } : Rk).count)) := by unfold Rk.append; rw [if_neg (by simp [h1]), if_neg hroom, if_neg (by rw [ho]; simp)]
      rw [e] at hR
      have hX3 := h.young hfw
      have hns : nsec ps < 2 ^ 36 := by unfold nsec; omega
      have hat : (X.fs.at a).length < 2 ^ 36 := Files.at_small hg.ok a
      have efb : fillB [(0, 1, Value.string a)] #[.string ⟨#[]⟩, .slice none 0 0, .slice none 0 0] = some #[.string a, .slice none 0 0, .slice none 0 0] := by rw [fillB_one rfl (by decide), fillB_nil]; rfl
      simp only [bdc, efb]
      refine stN_new rfl rfl ?_ ?_
      · intro q hq
        simp only [List.mem_toArray, List.mem_cons, List.not_mem_nil, or_false] at hq
        rcases hq with rfl | rfl | rfl <;> rfl
      generalize hz4 : z3.alloc (.cells #[.string a, .slice none 0 0, .slice none 0 0] 96 (0, 0)) = z4
      have hf4 : Fr z3.heap.size No z3 z4 := by rw [← hz4]; exact Fr.refl.alloc (Nat.le_refl _)
      have hal4 : z4.heap[z3.heap.size]? = some (.cells #[.string a, .slice none 0 0, .slice none 0 0] 96 (0, 0)) := by rw [← hz4]; exact alloc_at rfl
      refine ⟨fun _ z => Fr z3.heap.size No z3 z ∧ ∃ bv sv, z.heap[z3.heap.size]? = some (.cells #[.string a, bv, sv] 96 (0, 0)) ∧ FileC z (a, X.fs.at a) [.string a, bv, sv], ?_, ?_⟩
      · refine ⟨fun hge => ?_, fun hlt => ?_⟩
        · rcases hn with ⟨rfl, _⟩ | ⟨i, hi, rfl, hia, hgt⟩
          · exact absurd hge (by decide)
          have hX4 := hX3.young hf4
          have hblk4 := hX4.blk
          unfold Rk.cells at hblk4
          obtain ⟨b, o, c', bv, sv, he, _, hrd, hbv, hsv, h32⟩ := hX4.fs.row hi
          injection he with e1 e2 e3
          subst e1
          rw [hia] at hrd
          simp only [T.ty_28, T.ln_31, T.fa_52_0, T.ld_50, T.ln_50, T.ia_50, T.ld_96, T.al_96, T.st_96, T.fa_96_2, T.ld_32, T.ln_32, T.fa_52_1, T.ld_3, T.fa_52_2, T.ld_4, T.bd_96_0, T.bs_31_0, T.fa_96_1, T.ld_31, T.ap_31_31, T.bs_31_1, T.bs_32_0, T.ap_32_32, T.bd_96_0_1_2, T.fa_52_5, T.st_3, bx_eq, mm_eq, nc_eq, cnd_eq, bcond_true, bcond_false, pk_eq, pk_int, ex_eq, ldc_some, un_not, un_neg, mn_eq, mx_eq, bin_add, bin_sub, bin_mul, bin_lss, bin_leq, bin_gtr, bin_geq, bin_eql, bin_neq, bin_peq, bin_pne, bin_beq, bin_bne, bin_leqn, bin_lnen, bin_seq, bin_sne, bin_sge, bin_slt, rdc_cells, mapEs_some, frz_none, Nat.zero_add, Nat.add_zero, List.getElem?_toArray, List.getElem?_cons_zero, List.getElem?_cons_succ, Option.isNone_some, Option.isNone_none, Bool.not_true, Bool.not_false, ite_true, ite_false, Bool.false_eq_true, true_and, and_true, forall_const, false_implies, reduceCtorEq, Bool.true_eq_false, Nat.reduceAdd, Nat.reduceMul, Nat.reduceLT, Nat.reduceSub, Int.reduceEq, Int.reduceLT, decide_true, decide_false, List.setIfInBounds_toArray, List.set_cons_zero, List.set_cons_succ, List.size_toArray, List.length_cons, List.length_nil, frz00, one_int, one_bool, one_ptr, one_str, one_slice, one_map, one_func, one_nil, one_niliface, size_put, size_alloc, put_same, st1_put, bsc_empty, List.nil_append, List.append_nil, List.map_cons, List.map_nil, cells_ptr, cells_str, cells_int, cells_bool, cells_slice, cells_agg, cells_map, fillB_one, fillB_nil, bdc, hblk4, Int.toNat_natCast, hrd, ldn]
          refine ⟨by omega, by omega, ?_⟩
          rw [stN_at hal4]
          refine ⟨rfl, row_one hbv hsv, Nat.le_refl _, frz00 _ _, ?_⟩
          rw [splice_all (by rfl)]
          have hfp : Fr z3.heap.size No z3 (z4.put z3.heap.size (.cells #[.string a, bv, sv] 96 (0, 0))) := hf4.put (.inr (Nat.le_refl _))
          have hea : X.fs.at a = (X.fs[i]).2 := by unfold Files.at; rw [hgt]; rfl
          refine ⟨hfp, bv, sv, put_same (lt_at hal4), ?_⟩
          rw [hea]
          have hfp2 : Fr z4.heap.size (fun b => b = z3.heap.size) z4 (z4.put z3.heap.size (.cells #[.string a, bv, sv] 96 (0, 0))) := Fr.refl.put (.inl rfl)
          refine FileC.fr ⟨bv, sv, rfl, hbv, hsv, h32⟩ hfp2 fun b' Y e' f he hb => ⟨lt_at hb, ?_⟩
          rintro rfl
          rw [hal4] at hb; injection hb with hb; injection hb with _ hb
          subst hb
          rcases he with he | he <;> cases he
        · have h0 : aget X.fs a = none := hneg.1 (by have := of_decide_eq_false hlt; omega)
          have hea : X.fs.at a = [] := by unfold Files.at; rw [h0]; rfl
          refine ⟨hf4, _, _, hal4, ?_⟩
          rw [hea]
          exact ⟨_, _, rfl, BytesV.nil _, ⟨none, 0, rfl, Nat.le_refl _, rfl, .inl ⟨rfl, .inl rfl⟩⟩, by simp⟩
      · rintro g4 z5 ⟨hf5, bv, sv, hal5, hfc⟩
        obtain ⟨bv', sv', e5, hbv, hsv, h32⟩ := hfc
        injection e5 with _ e5; injection e5 with e5 e6; injection e6 with e6 _
        subst e5; subst e6
        dsimp only at hbv hsv h32
        have hfw5 : Fr w.heap.size No w z5 := hfw.trans (hf5.no hfw.1)
        have hf6 : Fr z5.heap.size No z5 (z5.alloc (.cells #[] 5)) := Fr.refl.alloc (Nat.le_refl _)
        have hal6 := young_at hf6 hal5
        simp only [hal6, bx_eq, mm_eq, nc_eq, cnd_eq, bcond_true, bcond_false, pk_eq, pk_int, ex_eq, ldc_some, un_not, un_neg, mn_eq, mx_eq, bin_add, bin_sub, bin_mul, bin_lss, bin_leq, bin_gtr, bin_geq, bin_eql, bin_neq, bin_peq, bin_pne, bin_beq, bin_bne, bin_leqn, bin_lnen, bin_seq, bin_sne, bin_sge, bin_slt, rdc_cells, mapEs_some, frz_none, Nat.zero_add, Nat.add_zero, List.getElem?_toArray, List.getElem?_cons_zero, List.getElem?_cons_succ, Option.isNone_some, Option.isNone_none, Bool.not_true, Bool.not_false, ite_true, ite_false, Bool.false_eq_true, true_and, and_true, forall_const, false_implies, reduceCtorEq, Bool.true_eq_false, Nat.reduceAdd, Nat.reduceMul, Nat.reduceLT, Nat.reduceSub, Int.reduceEq, Int.reduceLT, decide_true, decide_false, List.setIfInBounds_toArray, List.set_cons_zero, List.set_cons_succ, List.size_toArray, List.length_cons, List.length_nil, frz00, one_int, one_bool, one_ptr, one_str, one_slice, one_map, one_func, one_nil, one_niliface, size_put, size_alloc, put_same, st1_put, bsc_empty, List.nil_append, List.append_nil, List.map_cons, List.map_nil, cells_ptr, cells_str, cells_int, cells_bool, cells_slice, cells_agg, cells_map, fillB_one, fillB_nil, bdc]
        have hbl : (Secs.bytes (X.fs.at a)).length = 32 * (X.fs.at a).length := bytes_len h32
        have hbl2 : (Secs.bytes (X.fs.at a)).length < 2 ^ 42 := by omega
        refine OwB.app (OwB.made z5) (hbv.young hf6) hf6.1 (by simp) hbl2 fun v7 z7 ho7 hf7 _ => ?_
        rw [List.nil_append] at ho7
        obtain ⟨A7, c7, rfl⟩ := ho7.shape
        have hf57 : Fr z5.heap.size No z5 z7 := hf6.trans hf7
        have hfw7 : Fr w.heap.size No w z7 := hfw5.trans (hf57.no hfw5.1)
        simp only [T.ty_28, T.ln_31, T.fa_52_0, T.ld_50, T.ln_50, T.ia_50, T.ld_96, T.al_96, T.st_96, T.fa_96_2, T.ld_32, T.ln_32, T.fa_52_1, T.ld_3, T.fa_52_2, T.ld_4, T.bd_96_0, T.bs_31_0, T.fa_96_1, T.ld_31, T.ap_31_31, T.bs_31_1, T.bs_32_0, T.ap_32_32, T.bd_96_0_1_2, T.fa_52_5, T.st_3]
        refine OwB.app ho7 (Sl.young hp hfw7) hf57.1 (by omega) (by omega) fun v8 z8 ho8 hf8 _ => ?_
        have hf58 : Fr z5.heap.size No z5 z8 := hf57.trans hf8
        have hle : ps.length ≤ 32 * nsec ps := by unfold nsec; omega
        have hlt32 : 32 * nsec ps < ps.length + 32 := by unfold nsec; omega
        refine ⟨fun s z => ∃ (k : Nat) (v : Value), s = [v] ∧ k ≤ 32 * nsec ps - ps.length ∧ Fr z5.heap.size No z5 z ∧ OwB z5.heap.size z (Secs.bytes (X.fs.at a) ++ ps ++ List.replicate k 0) v, fun s _ => match s with | [.slice _ n _] => 32 * ((X.fs.at a).length + nsec ps) - n | _ => 0, ⟨0, v8, rfl, Nat.zero_le _, hf58, by simpa using ho8⟩, ?_⟩
        rintro g5 z9 ⟨k, v9, hg5, hk, hf9, ho9⟩
        simp only [List.map_cons, List.map_nil, List.cons.injEq, and_true] at hg5
        obtain ⟨A9, c9, rfl⟩ := ho9.shape
        have hlen9 : (Secs.bytes (X.fs.at a) ++ ps ++ List.replicate k 0).length = 32 * (X.fs.at a).length + ps.length + k := by simp [hbl]; omega
        simp only [hg5, T.ty_28, T.ln_31, T.fa_52_0, T.ld_50, T.ln_50, T.ia_50, T.ld_96, T.al_96, T.st_96, T.fa_96_2, T.ld_32, T.ln_32, T.fa_52_1, T.ld_3, T.fa_52_2, T.ld_4, T.bd_96_0, T.bs_31_0, T.fa_96_1, T.ld_31, T.ap_31_31, T.bs_31_1, T.bs_32_0, T.ap_32_32, T.bd_96_0_1_2, T.fa_52_5, T.st_3, bx_eq, mm_eq, nc_eq, cnd_eq, bcond_true, bcond_false, pk_eq, pk_int, ex_eq, ldc_some, un_not, un_neg, mn_eq, mx_eq, bin_add, bin_sub, bin_mul, bin_lss, bin_leq, bin_gtr, bin_geq, bin_eql, bin_neq, bin_peq, bin_pne, bin_beq, bin_bne, bin_leqn, bin_lnen, bin_seq, bin_sne, bin_sge, bin_slt, rdc_cells, mapEs_some, frz_none, Nat.zero_add, Nat.add_zero, List.getElem?_toArray, List.getElem?_cons_zero, List.getElem?_cons_succ, Option.isNone_some, Option.isNone_none, Bool.not_true, Bool.not_false, ite_true, ite_false, Bool.false_eq_true, true_and, and_true, forall_const, false_implies, reduceCtorEq, Bool.true_eq_false, Nat.reduceAdd, Nat.reduceMul, Nat.reduceLT, Nat.reduceSub, Int.reduceEq, Int.reduceLT, decide_true, decide_false, List.setIfInBounds_toArray, List.set_cons_zero, List.set_cons_succ, List.size_toArray, List.length_cons, List.length_nil, frz00, one_int, one_bool, one_ptr, one_str, one_slice, one_map, one_func, one_nil, one_niliface, size_put, size_alloc, put_same, st1_put, bsc_empty, List.nil_append, List.append_nil, List.map_cons, List.map_nil, cells_ptr, cells_str, cells_int, cells_bool, cells_slice, cells_agg, cells_map, fillB_one, fillB_nil, bdc, hlen9]
        rw [bin_rem (by decide)]
        simp only [T.ty_28, T.ln_31, T.fa_52_0, T.ld_50, T.ln_50, T.ia_50, T.ld_96, T.al_96, T.st_96, T.fa_96_2, T.ld_32, T.ln_32, T.fa_52_1, T.ld_3, T.fa_52_2, T.ld_4, T.bd_96_0, T.bs_31_0, T.fa_96_1, T.ld_31, T.ap_31_31, T.bs_31_1, T.bs_32_0, T.ap_32_32, T.bd_96_0_1_2, T.fa_52_5, T.st_3, bx_eq, mm_eq, nc_eq, cnd_eq, bcond_true, bcond_false, pk_eq, pk_int, ex_eq, ldc_some, un_not, un_neg, mn_eq, mx_eq, bin_add, bin_sub, bin_mul, bin_lss, bin_leq, bin_gtr, bin_geq, bin_eql, bin_neq, bin_peq, bin_pne, bin_beq, bin_bne, bin_leqn, bin_lnen, bin_seq, bin_sne, bin_sge, bin_slt, rdc_cells, mapEs_some, frz_none, Nat.zero_add, Nat.add_zero, List.getElem?_toArray, List.getElem?_cons_zero, List.getElem?_cons_succ, Option.isNone_some, Option.isNone_none, Bool.not_true, Bool.not_false, ite_true, ite_false, Bool.false_eq_true, true_and, and_true, forall_const, false_implies, reduceCtorEq, Bool.true_eq_false, Nat.reduceAdd, Nat.reduceMul, Nat.reduceLT, Nat.reduceSub, Int.reduceEq, Int.reduceLT, decide_true, decide_false, List.setIfInBounds_toArray, List.set_cons_zero, List.set_cons_succ, List.size_toArray, List.length_cons, List.length_nil, frz00, one_int, one_bool, one_ptr, one_str, one_slice, one_map, one_func, one_nil, one_niliface, size_put, size_alloc, put_same, st1_put, bsc_empty, List.nil_append, List.append_nil, List.map_cons, List.map_nil, cells_ptr, cells_str, cells_int, cells_bool, cells_slice, cells_agg, cells_map, fillB_one, fillB_nil, bdc]
        rw [bcond_dec]
        have hm : (((32 * (X.fs.at a).length + ps.length + k : Nat) : Int).tmod 32) = (((ps.length + k) % 32 : Nat) : Int) := by rw [Int.tmod_eq_emod_of_nonneg (by omega)]; omega
        rw [hm]
        refine ⟨fun hgo => ?_, fun hend => ?_⟩
        · have hgo : 0 < (ps.length + k) % 32 := by omega
          rw [bsc_one (v := .int .u8 0) (sz := 1) (z := #[.int .u8 0]) rfl rfl]
          simp only [cells_int]
          have hf10 : Fr z9.heap.size No z9 (z9.alloc (.cells #[.int .u8 0] 5 (0, 0))) := Fr.refl.alloc (Nat.le_refl _)
          have hx : BytesV (z9.alloc (.cells #[.int .u8 0] 5 (0, 0))) [0] (.slice (some ⟨z9.heap.size, 0, none⟩) 1 1) := ⟨_, 1, rfl, Nat.le_refl _, rfl, .inr ⟨z9.heap.size, 0, _, (0, 0), rfl, trivial, alloc_at rfl, by simp, fun k hk => by
            have hk : k < 1 := by simpa using hk
            rcases k with _ | k
            · rfl
            · omega⟩⟩
          have hlt9 : (Secs.bytes (X.fs.at a) ++ ps ++ List.replicate k 0).length < 2 ^ 42 := by rw [hlen9]; omega
          rw [← hlen9]
          refine OwB.app (ho9.young hf10) hx (by rw [size_alloc]; have := hf9.1; omega) hlt9 (by simp) fun v11 z11 ho11 hf11 _ => ?_
          rw [List.append_assoc (Secs.bytes (X.fs.at a) ++ ps), ← List.replicate_succ'] at ho11
          obtain ⟨A11, c11, rfl⟩ := ho11.shape
          have hlen11 : (Secs.bytes (X.fs.at a) ++ ps ++ List.replicate (k + 1) 0).length = 32 * (X.fs.at a).length + ps.length + (k + 1) := by simp [hbl]; omega
          refine ⟨⟨k + 1, _, rfl, by omega, (hf9.trans (hf10.no hf9.1)).trans hf11, ho11⟩, ?_⟩
          simp only [List.length_append, List.length_replicate, List.length_singleton, hbl]
          omega
        · have hk2 : k = 32 * nsec ps - ps.length := by
            have : (ps.length + k) % 32 = 0 := by omega
            omega
          have hbytes : Secs.bytes (X.fs.at a) ++ ps ++ List.replicate k 0 = Secs.bytes (X.fs.at a ++ secsOf ps) := by rw [bytes_app, secsOf_bytes, hk2, List.append_assoc]
          rw [hbytes] at ho9
          have hfw9 : Fr w.heap.size No w z9 := hfw5.trans (hf9.no hfw5.1)
          have hf10 : Fr z9.heap.size No z9 (z9.alloc (.cells #[] 4)) := Fr.refl.alloc (Nat.le_refl _)
          have hal10 := young_at (hf9.trans (hf10.no hf9.1)) hal5
          simp only [hal10, bx_eq, mm_eq, nc_eq, cnd_eq, bcond_true, bcond_false, pk_eq, pk_int, ex_eq, ldc_some, un_not, un_neg, mn_eq, mx_eq, bin_add, bin_sub, bin_mul, bin_lss, bin_leq, bin_gtr, bin_geq, bin_eql, bin_neq, bin_peq, bin_pne, bin_beq, bin_bne, bin_leqn, bin_lnen, bin_seq, bin_sne, bin_sge, bin_slt, rdc_cells, mapEs_some, frz_none, Nat.zero_add, Nat.add_zero, List.getElem?_toArray, List.getElem?_cons_zero, List.getElem?_cons_succ, Option.isNone_some, Option.isNone_none, Bool.not_true, Bool.not_false, ite_true, ite_false, Bool.false_eq_true, true_and, and_true, forall_const, false_implies, reduceCtorEq, Bool.true_eq_false, Nat.reduceAdd, Nat.reduceMul, Nat.reduceLT, Nat.reduceSub, Int.reduceEq, Int.reduceLT, decide_true, decide_false, List.setIfInBounds_toArray, List.set_cons_zero, List.set_cons_succ, List.size_toArray, List.length_cons, List.length_nil, frz00, one_int, one_bool, one_ptr, one_str, one_slice, one_map, one_func, one_nil, one_niliface, size_put, size_alloc, put_same, st1_put, bsc_empty, List.nil_append, List.append_nil, List.map_cons, List.map_nil, cells_ptr, cells_str, cells_int, cells_bool, cells_slice, cells_agg, cells_map, fillB_one, fillB_nil, bdc]
          have hsv9 := (hsv.young hf9).young hf10
          rw [src_sl hsv9]
          have hO : Ow z9.heap.size 4 1 (z9.alloc (.cells #[] 4)) (.slice (some ⟨z9.heap.size, 0, none⟩) 0 0) 0 [] := ⟨_, 0, rfl, Nat.le_refl _, by simp, .inr ⟨_, 0, _, rfl, Nat.le_refl _, alloc_at rfl, by simp, by simp⟩⟩
          have hfl : (Secs.flags (X.fs.at a)).length = (X.fs.at a).length := flags_len _
          refine ap_own hO rfl (by decide) (by simp) (by intro q hq; obtain ⟨b, _, rfl⟩ := List.mem_map.1 hq; rfl) hf10.1 (by omega) (by omega) fun A12 c12 z12 ho12 hof12 => ?_
          rw [List.nil_append, Nat.zero_add] at ho12
          rw [Nat.zero_add]
          have hf12 := hof12.fr hf10.1
          have hf912 : Fr z9.heap.size No z9 z12 := hf10.trans hf12
          refine ref_flags (n := nsec ps) (t := false) hns fun v13 z13 ho13 hf13 => ?_
          obtain ⟨A13, c13, rfl, _⟩ := ho13.sl.shape
          simp only [T.ty_28, T.ln_31, T.fa_52_0, T.ld_50, T.ln_50, T.ia_50, T.ld_96, T.al_96, T.st_96, T.fa_96_2, T.ld_32, T.ln_32, T.fa_52_1, T.ld_3, T.fa_52_2, T.ld_4, T.bd_96_0, T.bs_31_0, T.fa_96_1, T.ld_31, T.ap_31_31, T.bs_31_1, T.bs_32_0, T.ap_32_32, T.bd_96_0_1_2, T.fa_52_5, T.st_3, bx_eq, mm_eq, nc_eq, cnd_eq, bcond_true, bcond_false, pk_eq, pk_int, ex_eq, ldc_some, un_not, un_neg, mn_eq, mx_eq, bin_add, bin_sub, bin_mul, bin_lss, bin_leq, bin_gtr, bin_geq, bin_eql, bin_neq, bin_peq, bin_pne, bin_beq, bin_bne, bin_leqn, bin_lnen, bin_seq, bin_sne, bin_sge, bin_slt, rdc_cells, mapEs_some, frz_none, Nat.zero_add, Nat.add_zero, List.getElem?_toArray, List.getElem?_cons_zero, List.getElem?_cons_succ, Option.isNone_some, Option.isNone_none, Bool.not_true, Bool.not_false, ite_true, ite_false, Bool.false_eq_true, true_and, and_true, forall_const, false_implies, reduceCtorEq, Bool.true_eq_false, Nat.reduceAdd, Nat.reduceMul, Nat.reduceLT, Nat.reduceSub, Int.reduceEq, Int.reduceLT, decide_true, decide_false, List.setIfInBounds_toArray, List.set_cons_zero, List.set_cons_succ, List.size_toArray, List.length_cons, List.length_nil, frz00, one_int, one_bool, one_ptr, one_str, one_slice, one_map, one_func, one_nil, one_niliface, size_put, size_alloc, put_same, st1_put, bsc_empty, List.nil_append, List.append_nil, List.map_cons, List.map_nil, cells_ptr, cells_str, cells_int, cells_bool, cells_slice, cells_agg, cells_map, fillB_one, fillB_nil, bdc]
          rw [src_sl ho13.sl]
          refine ap_own (Ow.fr ho12 hf13 fun _ _ _ _ => no_not) rfl (by decide) (by simp) (by intro q hq; obtain ⟨b, _, rfl⟩ := List.mem_map.1 hq; rfl) (by have := hf912.1; have := hf13.1; omega) (by omega) (by omega) fun A14 c14 z14 ho14 hof14 => ?_
          have hf13' : Fr z9.heap.size No z9 z13 := hf912.trans (hf13.no hf912.1)
          have hof14' := hof14.fr (by have := hf13'.1; omega)
          have hf914 : Fr z9.heap.size No z9 z14 := hf13'.trans hof14'
          have hfw14 : Fr w.heap.size No w z14 := hfw9.trans (hf914.no hfw9.1)
          have hef : Secs.flags (X.fs.at a ++ secsOf ps) = Secs.flags (X.fs.at a) ++ List.replicate (nsec ps) false := by rw [flags_app]; congr 1; exact secsN_flags _ _
          have hb14 : BytesV z14 (Secs.bytes (X.fs.at a ++ secsOf ps)) (g5 13) := by rw [hg5, hbytes]; exact (ho9.young hf914).v
          have hs14 : FlagsV z14 (Secs.flags (X.fs.at a ++ secsOf ps)) (.slice A14 ((Secs.flags (X.fs.at a)).length + nsec ps) c14) := by
            rw [hef, ← List.map_append] at *
            have := ho14.sl.mono (B' := fun _ => True) fun _ _ _ => trivial
            unfold FlagsV
            rw [List.length_append, List.length_replicate]; exact this
          rw [hg5, ← hbytes, hlen9] at hb14
          have efb2 : ∀ v1 v2 : Value, v1.cells = #[v1] → v2.cells = #[v2] → fillB [(0, 1, Value.string a), (1, 1, v1), (2, 1, v2)] #[.string ⟨#[]⟩, .slice none 0 0, .slice none 0 0] = some #[.string a, v1, v2] := fun v1 v2 e1 e2 => by
            rw [fillB_one rfl (by simp), fillB_one e1 (by simp), fillB_one e2 (by simp), fillB_nil]; rfl
          rw [efb2 _ _ rfl rfl]
          simp only []
          have h32' : ∀ s ∈ X.fs.at a ++ secsOf ps, s.by_.length = 32 := fun s hs => (List.mem_append.1 hs).elim (h32 s) (secsN_32 _ _ s)
          rw [hbytes] at hb14
          refine ref_put (f := (a, X.fs.at a ++ secsOf ps)) (cs := [.string a, .slice A9 (32 * (X.fs.at a).length + ps.length + k) c9, .slice A14 ((Secs.flags (X.fs.at a)).length + nsec ps) c14]) (h.young hfw14) hg.few ⟨_, _, rfl, hb14, hs14, h32'⟩ fun z15 fv15 hX15 _ hf15 => ?_
          refine ref_goes hX15 (by exact ho) hg.armed fun z16 hX16 hf16 => ?_
          have hfx : Fr w.heap.size (fun b => b = x) w z16 := ((hfw14.no (Nat.le_refl _)).then hf15 hfw14.1 fun _ _ h => h).then hf16 (Nat.le_trans hfw14.1 hf15.1) fun _ _ h => h
          have hblk16 := hX16.blk
          unfold Rk.cells at hblk16
          simp only [cnd_eq, bcond_dec]
          refine ⟨fun h1' => ?_, fun h1' => ?_⟩
          · rw [if_pos h1'] at hR
            rw [st1_at hblk16]
            refine ⟨rfl, by simp, frz00 _ _, ?_⟩
            refine hR _ ⟨_, hX16.put (X' := { (Rk.count { X with fs := X.fs.put (a, X.fs.at a ++ secsOf ps) }) with last := 0 }) hX16.fs⟩ (hfx.put (.inl rfl))
          · rw [if_neg h1'] at hR
            exact hR _ ⟨_, hX16⟩ hfx
theorem ref_Append_nil {w : World} {a : ByteArray} {pv : Value} (ha : a.size < 2 ^ 62) {R : Value → World → Prop}
    (hR : ∀ w', Fr w.heap.size No w w' → R (.int .i64 (if isName a = false then 1 else 7)) w') : cl Tryd.prog 17 #[.pointer none, .string a, pv] w R := by
  refine C.r09_DocAppend ?_
  unfold F.r09_DocAppend
  refine ref_Name a w ha fun u hf => ?_
  simp only [T.ty_28, T.ln_31, T.fa_52_0, T.ld_50, T.ln_50, T.ia_50, T.ld_96, T.al_96, T.st_96, T.fa_96_2, T.ld_32, T.ln_32, T.fa_52_1, T.ld_3, T.fa_52_2, T.ld_4, T.bd_96_0, T.bs_31_0, T.fa_96_1, T.ld_31, T.ap_31_31, T.bs_31_1, T.bs_32_0, T.ap_32_32, T.bd_96_0_1_2, T.fa_52_5, T.st_3, bx_eq, mm_eq, nc_eq, cnd_eq, bcond_true, bcond_false, pk_eq, pk_int, ex_eq, ldc_some, un_not, un_neg, mn_eq, mx_eq, bin_add, bin_sub, bin_mul, bin_lss, bin_leq, bin_gtr, bin_geq, bin_eql, bin_neq, bin_peq, bin_pne, bin_beq, bin_bne, bin_leqn, bin_lnen, bin_seq, bin_sne, bin_sge, bin_slt, rdc_cells, mapEs_some, frz_none, Nat.zero_add, Nat.add_zero, List.getElem?_toArray, List.getElem?_cons_zero, List.getElem?_cons_succ, Option.isNone_some, Option.isNone_none, Bool.not_true, Bool.not_false, ite_true, ite_false, Bool.false_eq_true, true_and, and_true, forall_const, false_implies, reduceCtorEq, Bool.true_eq_false, Nat.reduceAdd, Nat.reduceMul, Nat.reduceLT, Nat.reduceSub, Int.reduceEq, Int.reduceLT, decide_true, decide_false, List.setIfInBounds_toArray, List.set_cons_zero, List.set_cons_succ, List.size_toArray, List.length_cons, List.length_nil, frz00, one_int, one_bool, one_ptr, one_str, one_slice, one_map, one_func, one_nil, one_niliface, size_put, size_alloc, put_same, st1_put, bsc_empty, List.nil_append, List.append_nil, List.map_cons, List.map_nil, cells_ptr, cells_str, cells_int, cells_bool, cells_slice, cells_agg, cells_map, fillB_one, fillB_nil, bdc, bcond_iff]
  refine ⟨fun h1 => ?_, fun h1 => ?_⟩
  · have h1 : isName a = false := by simpa using h1
    have := hR u hf; rw [if_pos h1] at this; exact this
  · have h1 : isName a = true := by simpa using h1
    have := hR u hf; rw [if_neg (by simp [h1])] at this; exact this
end Go.Proofs.YtppefblkmgihoaaDoor
