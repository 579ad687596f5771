/- Comparing lists; the reference's small calls. -/
import Derived.Test.YtppefblkmgihoaaDoorR5
set_option linter.unusedVariables false
set_option linter.unusedSimpArgs false
set_option maxRecDepth 10000
namespace Go.Proofs.YtppefblkmgihoaaDoor
open Go.Sh

def NamesV (w : World) (l : List ByteArray) (v : Value) : Prop := Sl (fun _ => True) 9 1 w v l.length (l.map .string)
theorem NamesV.shape {w : World} {l : List ByteArray} {v : Value} (h : NamesV w l v) : ∃ A c, v = .slice A l.length c := by
  obtain ⟨A, c, e, _⟩ := Sl.shape h; exact ⟨A, c, e⟩
theorem NamesV.young {w w' : World} {l : List ByteArray} {v : Value} (h : NamesV w l v) (hf : Fr w.heap.size No w w') : NamesV w' l v := Sl.fr h hf fun b X f _ hb => ⟨lt_at hb, no_not⟩

theorem same_bytes {w : World} {xs ys : List UInt8} {v1 v2 : Value} (h1 : BytesA No w xs v1) (h2 : BytesA No w ys v2) (hs : small xs.length) {R : Value → World → Prop} (hR : ∀ w', Fr w.heap.size No w w' → R (.bool (decide (xs = ys))) w') : cl Tryd.prog 31 #[v1, v2] w R := by
  obtain ⟨t1, h1⟩ := h1
  obtain ⟨t2, h2⟩ := h2
  obtain ⟨A1, c1, rfl, _⟩ := Sl.shape h1
  obtain ⟨A2, c2, rfl, _⟩ := Sl.shape h2
  have hs : xs.length < 2 ^ 36 := hs
  refine C.r01_SameBytes ?_
  unfold F.r01_SameBytes
  simp only [T.ln_31, T.ia_31, T.ld_5, bx_eq, mm_eq, nc_eq, cnd_eq, bcond_true, bcond_false, pk_eq, pk_int, ex_eq, ldc_some, un_not, un_neg, mn_eq, mx_eq, bin_add, bin_sub, bin_mul, bin_lss, bin_leq, bin_gtr, bin_geq, bin_eql, bin_neq, bin_peq, bin_pne, bin_beq, bin_bne, bin_leqn, bin_lnen, bin_seq, bin_sne, bin_sge, bin_slt, rdc_cells, mapEs_some, frz_none, Nat.zero_add, Nat.add_zero, List.getElem?_toArray, List.getElem?_cons_zero, List.getElem?_cons_succ, Option.isNone_some, Option.isNone_none, Bool.not_true, Bool.not_false, ite_true, ite_false, Bool.false_eq_true, true_and, and_true, forall_const, false_implies, reduceCtorEq, Bool.true_eq_false, Nat.reduceAdd, Nat.reduceMul, Nat.reduceLT, Nat.reduceSub, Int.reduceEq, Int.reduceLT, decide_true, decide_false, List.setIfInBounds_toArray, List.set_cons_zero, List.set_cons_succ, List.size_toArray, List.length_cons, List.length_nil, frz00, one_int, one_bool, one_ptr, one_str, one_slice, one_map, one_func, one_nil, one_niliface, size_put, size_alloc, put_same, st1_put, bsc_empty, List.nil_append, List.append_nil, List.map_cons, List.map_nil, cells_ptr, cells_str, cells_int, cells_bool, cells_slice, cells_agg, cells_map, fillB_one, fillB_nil, bdc, bcond_ndec]
  refine ⟨fun hne => ?_, fun heq => ?_⟩
  · have : decide (xs = ys) = false := decide_eq_false (by rintro rfl; exact hne rfl)
    rw [this] at hR; exact hR w Fr.refl
  have hlen : xs.length = ys.length := by omega
  refine ⟨fun s u => ∃ i : Nat, s = [.int .i64 i] ∧ i ≤ xs.length ∧ Fr w.heap.size No w u ∧ ∀ j, (hj : j < xs.length) → j < i → xs[j] = ys[j]'(hlen ▸ hj), fun s _ => match s with | [.int _ i] => (xs.length - i).toNat | _ => 0, ⟨0, rfl, Nat.zero_le _, Fr.refl, fun j _ h => absurd h (Nat.not_lt_zero _)⟩, ?_⟩
  rintro g u ⟨i, hg, hi, hf, hno⟩
  simp only [List.map_cons, List.map_nil, List.cons.injEq, and_true] at hg
  simp only [hg, T.ln_31, T.ia_31, T.ld_5, bx_eq, mm_eq, nc_eq, cnd_eq, bcond_true, bcond_false, pk_eq, pk_int, ex_eq, ldc_some, un_not, un_neg, mn_eq, mx_eq, bin_add, bin_sub, bin_mul, bin_lss, bin_leq, bin_gtr, bin_geq, bin_eql, bin_neq, bin_peq, bin_pne, bin_beq, bin_bne, bin_leqn, bin_lnen, bin_seq, bin_sne, bin_sge, bin_slt, rdc_cells, mapEs_some, frz_none, Nat.zero_add, Nat.add_zero, List.getElem?_toArray, List.getElem?_cons_zero, List.getElem?_cons_succ, Option.isNone_some, Option.isNone_none, Bool.not_true, Bool.not_false, ite_true, ite_false, Bool.false_eq_true, true_and, and_true, forall_const, false_implies, reduceCtorEq, Bool.true_eq_false, Nat.reduceAdd, Nat.reduceMul, Nat.reduceLT, Nat.reduceSub, Int.reduceEq, Int.reduceLT, decide_true, decide_false, List.setIfInBounds_toArray, List.set_cons_zero, List.set_cons_succ, List.size_toArray, List.length_cons, List.length_nil, frz00, one_int, one_bool, one_ptr, one_str, one_slice, one_map, one_func, one_nil, one_niliface, size_put, size_alloc, put_same, st1_put, bsc_empty, List.nil_append, List.append_nil, List.map_cons, List.map_nil, cells_ptr, cells_str, cells_int, cells_bool, cells_slice, cells_agg, cells_map, fillB_one, fillB_nil, bdc]
  rw [bcond_dec]
  refine ⟨fun hlt => ?_, fun hge => ?_⟩
  · have hlt : i < xs.length := by omega
    have hlt2 : i < ys.length := by omega
    obtain ⟨b1, o1, d1, X1, f1, e1, _, hb1, hs1, hX1⟩ := Sl.at (Sl.young h1 hf) hlt
    obtain ⟨b2, o2, d2, X2, f2, e2, _, hb2, hs2, hX2⟩ := Sl.at (Sl.young h2 hf) hlt2
    injection e1 with e1 _ _; subst e1
    injection e2 with e2 _ _; subst e2
    have g1 : X1[o1 + i]? = some (Value.int .u8 (xs[i]).toNat) := by rw [hX1 i (by omega)]; simp [hlt]
    have g2 : X2[o2 + i]? = some (Value.int .u8 (ys[i]).toNat) := by rw [hX2 i (by omega)]; simp [hlt2]
    refine ⟨fun z => Fr u.heap.size No u z, Fr.refl.drew, ?_⟩
    have hz1 : ∀ z, Fr u.heap.size No u z → z.heap[b1]? = some (.cells X1 t1 f1) := fun z hz => young_at hz hb1
    have hz2 : ∀ z, Fr u.heap.size No u z → z.heap[b2]? = some (.cells X2 t2 f2) := fun z hz => young_at hz hb2
    refine opS_of (.pointer (some ⟨b1, o1 + i, none⟩)) (fun z h0 K hK => by simp only [T.ln_31, T.ia_31, T.ld_5, bx_eq, mm_eq, nc_eq, cnd_eq, bcond_true, bcond_false, pk_eq, pk_int, ex_eq, ldc_some, un_not, un_neg, mn_eq, mx_eq, bin_add, bin_sub, bin_mul, bin_lss, bin_leq, bin_gtr, bin_geq, bin_eql, bin_neq, bin_peq, bin_pne, bin_beq, bin_bne, bin_leqn, bin_lnen, bin_seq, bin_sne, bin_sge, bin_slt, rdc_cells, mapEs_some, frz_none, Nat.zero_add, Nat.add_zero, List.getElem?_toArray, List.getElem?_cons_zero, List.getElem?_cons_succ, Option.isNone_some, Option.isNone_none, Bool.not_true, Bool.not_false, ite_true, ite_false, Bool.false_eq_true, true_and, and_true, forall_const, false_implies, reduceCtorEq, Bool.true_eq_false, Nat.reduceAdd, Nat.reduceMul, Nat.reduceLT, Nat.reduceSub, Int.reduceEq, Int.reduceLT, decide_true, decide_false, List.setIfInBounds_toArray, List.set_cons_zero, List.set_cons_succ, List.size_toArray, List.length_cons, List.length_nil, frz00, one_int, one_bool, one_ptr, one_str, one_slice, one_map, one_func, one_nil, one_niliface, size_put, size_alloc, put_same, st1_put, bsc_empty, List.nil_append, List.append_nil, List.map_cons, List.map_nil, cells_ptr, cells_str, cells_int, cells_bool, cells_slice, cells_agg, cells_map, fillB_one, fillB_nil, bdc, Int.toNat_natCast, Nat.mul_one]; exact ⟨by omega, by omega, hK⟩) ?_
    refine opS_of (Value.int .u8 (xs[i]).toNat) (fun z h0 K hK => by simp only [T.ln_31, T.ia_31, T.ld_5, bx_eq, mm_eq, nc_eq, cnd_eq, bcond_true, bcond_false, pk_eq, pk_int, ex_eq, ldc_some, un_not, un_neg, mn_eq, mx_eq, bin_add, bin_sub, bin_mul, bin_lss, bin_leq, bin_gtr, bin_geq, bin_eql, bin_neq, bin_peq, bin_pne, bin_beq, bin_bne, bin_leqn, bin_lnen, bin_seq, bin_sne, bin_sge, bin_slt, rdc_cells, mapEs_some, frz_none, Nat.zero_add, Nat.add_zero, List.getElem?_toArray, List.getElem?_cons_zero, List.getElem?_cons_succ, Option.isNone_some, Option.isNone_none, Bool.not_true, Bool.not_false, ite_true, ite_false, Bool.false_eq_true, true_and, and_true, forall_const, false_implies, reduceCtorEq, Bool.true_eq_false, Nat.reduceAdd, Nat.reduceMul, Nat.reduceLT, Nat.reduceSub, Int.reduceEq, Int.reduceLT, decide_true, decide_false, List.setIfInBounds_toArray, List.set_cons_zero, List.set_cons_succ, List.size_toArray, List.length_cons, List.length_nil, frz00, one_int, one_bool, one_ptr, one_str, one_slice, one_map, one_func, one_nil, one_niliface, size_put, size_alloc, put_same, st1_put, bsc_empty, List.nil_append, List.append_nil, List.map_cons, List.map_nil, cells_ptr, cells_str, cells_int, cells_bool, cells_slice, cells_agg, cells_map, fillB_one, fillB_nil, bdc, hz1 z h0, g1]; exact hK) ?_
    refine opS_of (.pointer (some ⟨b2, o2 + i, none⟩)) (fun z h0 K hK => by simp only [T.ln_31, T.ia_31, T.ld_5, bx_eq, mm_eq, nc_eq, cnd_eq, bcond_true, bcond_false, pk_eq, pk_int, ex_eq, ldc_some, un_not, un_neg, mn_eq, mx_eq, bin_add, bin_sub, bin_mul, bin_lss, bin_leq, bin_gtr, bin_geq, bin_eql, bin_neq, bin_peq, bin_pne, bin_beq, bin_bne, bin_leqn, bin_lnen, bin_seq, bin_sne, bin_sge, bin_slt, rdc_cells, mapEs_some, frz_none, Nat.zero_add, Nat.add_zero, List.getElem?_toArray, List.getElem?_cons_zero, List.getElem?_cons_succ, Option.isNone_some, Option.isNone_none, Bool.not_true, Bool.not_false, ite_true, ite_false, Bool.false_eq_true, true_and, and_true, forall_const, false_implies, reduceCtorEq, Bool.true_eq_false, Nat.reduceAdd, Nat.reduceMul, Nat.reduceLT, Nat.reduceSub, Int.reduceEq, Int.reduceLT, decide_true, decide_false, List.setIfInBounds_toArray, List.set_cons_zero, List.set_cons_succ, List.size_toArray, List.length_cons, List.length_nil, frz00, one_int, one_bool, one_ptr, one_str, one_slice, one_map, one_func, one_nil, one_niliface, size_put, size_alloc, put_same, st1_put, bsc_empty, List.nil_append, List.append_nil, List.map_cons, List.map_nil, cells_ptr, cells_str, cells_int, cells_bool, cells_slice, cells_agg, cells_map, fillB_one, fillB_nil, bdc, Int.toNat_natCast, Nat.mul_one]; exact ⟨by omega, by omega, hK⟩) ?_
    refine opS_of (Value.int .u8 (ys[i]).toNat) (fun z h0 K hK => by simp only [T.ln_31, T.ia_31, T.ld_5, bx_eq, mm_eq, nc_eq, cnd_eq, bcond_true, bcond_false, pk_eq, pk_int, ex_eq, ldc_some, un_not, un_neg, mn_eq, mx_eq, bin_add, bin_sub, bin_mul, bin_lss, bin_leq, bin_gtr, bin_geq, bin_eql, bin_neq, bin_peq, bin_pne, bin_beq, bin_bne, bin_leqn, bin_lnen, bin_seq, bin_sne, bin_sge, bin_slt, rdc_cells, mapEs_some, frz_none, Nat.zero_add, Nat.add_zero, List.getElem?_toArray, List.getElem?_cons_zero, List.getElem?_cons_succ, Option.isNone_some, Option.isNone_none, Bool.not_true, Bool.not_false, ite_true, ite_false, Bool.false_eq_true, true_and, and_true, forall_const, false_implies, reduceCtorEq, Bool.true_eq_false, Nat.reduceAdd, Nat.reduceMul, Nat.reduceLT, Nat.reduceSub, Int.reduceEq, Int.reduceLT, decide_true, decide_false, List.setIfInBounds_toArray, List.set_cons_zero, List.set_cons_succ, List.size_toArray, List.length_cons, List.length_nil, frz00, one_int, one_bool, one_ptr, one_str, one_slice, one_map, one_func, one_nil, one_niliface, size_put, size_alloc, put_same, st1_put, bsc_empty, List.nil_append, List.append_nil, List.map_cons, List.map_nil, cells_ptr, cells_str, cells_int, cells_bool, cells_slice, cells_agg, cells_map, fillB_one, fillB_nil, bdc, hz2 z h0, g2]; exact hK) ?_
    refine opS_of (.bool (!decide (xs[i] = ys[i]))) (fun z h0 K hK => by rw [bin_neq, show decide ((((xs[i]).toNat : Nat) : Int) = (((ys[i]).toNat : Nat) : Int)) = decide (xs[i] = ys[i]) from decide_eq_decide.2 ⟨fun h => UInt8.toNat_inj.1 (by omega), fun h => by rw [h]⟩]; exact hK) ?_
    rw [cnd_eq, bcond_ndec]
    refine ⟨fun hk => ?_, fun hk => ?_⟩
    · have : decide (xs = ys) = false := decide_eq_false (by rintro rfl; exact hk rfl)
      rw [this] at hR; exact hR _ hf.drew
    · rw [IntWalk.i64_in _ (by omega)]
      refine ⟨⟨i + 1, rfl, by omega, hf.drew, fun j hj hji => ?_⟩, by omega⟩
      by_cases hji2 : j = i
      · subst hji2; exact hk
      · exact hno j hj (by omega)
  · have : decide (xs = ys) = true := decide_eq_true (List.ext_getElem hlen fun j h1 h2 => hno j h1 (by omega))
    rw [this] at hR; exact hR _ hf

theorem same_names {w : World} {xs ys : List ByteArray} {v1 v2 : Value} (h1 : NamesV w xs v1) (h2 : NamesV w ys v2) (hs : small xs.length) {R : Value → World → Prop} (hR : ∀ w', Fr w.heap.size No w w' → R (.bool (decide (xs = ys))) w') : cl Tryd.prog 32 #[v1, v2] w R := by
  obtain ⟨A1, c1, rfl⟩ := NamesV.shape h1
  obtain ⟨A2, c2, rfl⟩ := NamesV.shape h2
  have hs : xs.length < 2 ^ 36 := hs
  refine C.r09_SameNames ?_
  unfold F.r09_SameNames
  simp only [T.ln_71, T.ia_71, T.ld_9, bx_eq, mm_eq, nc_eq, cnd_eq, bcond_true, bcond_false, pk_eq, pk_int, ex_eq, ldc_some, un_not, un_neg, mn_eq, mx_eq, bin_add, bin_sub, bin_mul, bin_lss, bin_leq, bin_gtr, bin_geq, bin_eql, bin_neq, bin_peq, bin_pne, bin_beq, bin_bne, bin_leqn, bin_lnen, bin_seq, bin_sne, bin_sge, bin_slt, rdc_cells, mapEs_some, frz_none, Nat.zero_add, Nat.add_zero, List.getElem?_toArray, List.getElem?_cons_zero, List.getElem?_cons_succ, Option.isNone_some, Option.isNone_none, Bool.not_true, Bool.not_false, ite_true, ite_false, Bool.false_eq_true, true_and, and_true, forall_const, false_implies, reduceCtorEq, Bool.true_eq_false, Nat.reduceAdd, Nat.reduceMul, Nat.reduceLT, Nat.reduceSub, Int.reduceEq, Int.reduceLT, decide_true, decide_false, List.setIfInBounds_toArray, List.set_cons_zero, List.set_cons_succ, List.size_toArray, List.length_cons, List.length_nil, frz00, one_int, one_bool, one_ptr, one_str, one_slice, one_map, one_func, one_nil, one_niliface, size_put, size_alloc, put_same, st1_put, bsc_empty, List.nil_append, List.append_nil, List.map_cons, List.map_nil, cells_ptr, cells_str, cells_int, cells_bool, cells_slice, cells_agg, cells_map, fillB_one, fillB_nil, bdc, bcond_ndec]
  refine ⟨fun hne => ?_, fun heq => ?_⟩
  · have : decide (xs = ys) = false := decide_eq_false (by rintro rfl; exact hne rfl)
    rw [this] at hR; exact hR w Fr.refl
  have hlen : xs.length = ys.length := by omega
  refine ⟨fun s u => ∃ i : Nat, s = [.int .i64 i] ∧ i ≤ xs.length ∧ Fr w.heap.size No w u ∧ ∀ j, (hj : j < xs.length) → j < i → xs[j] = ys[j]'(hlen ▸ hj), fun s _ => match s with | [.int _ i] => (xs.length - i).toNat | _ => 0, ⟨0, rfl, Nat.zero_le _, Fr.refl, fun j _ h => absurd h (Nat.not_lt_zero _)⟩, ?_⟩
  rintro g u ⟨i, hg, hi, hf, hno⟩
  simp only [List.map_cons, List.map_nil, List.cons.injEq, and_true] at hg
  simp only [hg, T.ln_71, T.ia_71, T.ld_9, bx_eq, mm_eq, nc_eq, cnd_eq, bcond_true, bcond_false, pk_eq, pk_int, ex_eq, ldc_some, un_not, un_neg, mn_eq, mx_eq, bin_add, bin_sub, bin_mul, bin_lss, bin_leq, bin_gtr, bin_geq, bin_eql, bin_neq, bin_peq, bin_pne, bin_beq, bin_bne, bin_leqn, bin_lnen, bin_seq, bin_sne, bin_sge, bin_slt, rdc_cells, mapEs_some, frz_none, Nat.zero_add, Nat.add_zero, List.getElem?_toArray, List.getElem?_cons_zero, List.getElem?_cons_succ, Option.isNone_some, Option.isNone_none, Bool.not_true, Bool.not_false, ite_true, ite_false, Bool.false_eq_true, true_and, and_true, forall_const, false_implies, reduceCtorEq, Bool.true_eq_false, Nat.reduceAdd, Nat.reduceMul, Nat.reduceLT, Nat.reduceSub, Int.reduceEq, Int.reduceLT, decide_true, decide_false, List.setIfInBounds_toArray, List.set_cons_zero, List.set_cons_succ, List.size_toArray, List.length_cons, List.length_nil, frz00, one_int, one_bool, one_ptr, one_str, one_slice, one_map, one_func, one_nil, one_niliface, size_put, size_alloc, put_same, st1_put, bsc_empty, List.nil_append, List.append_nil, List.map_cons, List.map_nil, cells_ptr, cells_str, cells_int, cells_bool, cells_slice, cells_agg, cells_map, fillB_one, fillB_nil, bdc]
  rw [bcond_dec]
  refine ⟨fun hlt => ?_, fun hge => ?_⟩
  · have hlt : i < xs.length := by omega
    have hlt2 : i < ys.length := by omega
    obtain ⟨b1, o1, d1, X1, f1, e1, _, hb1, hs1, hX1⟩ := Sl.at (NamesV.young h1 hf) hlt
    obtain ⟨b2, o2, d2, X2, f2, e2, _, hb2, hs2, hX2⟩ := Sl.at (NamesV.young h2 hf) hlt2
    injection e1 with e1 _ _; subst e1
    injection e2 with e2 _ _; subst e2
    have g1 : X1[o1 + i]? = some (Value.string (xs[i])) := by rw [hX1 i (by omega)]; simp [hlt]
    have g2 : X2[o2 + i]? = some (Value.string (ys[i])) := by rw [hX2 i (by omega)]; simp [hlt2]
    refine ⟨fun z => Fr u.heap.size No u z, Fr.refl.drew, ?_⟩
    have hz1 : ∀ z, Fr u.heap.size No u z → z.heap[b1]? = some (.cells X1 9 f1) := fun z hz => young_at hz hb1
    have hz2 : ∀ z, Fr u.heap.size No u z → z.heap[b2]? = some (.cells X2 9 f2) := fun z hz => young_at hz hb2
    refine opS_of (.pointer (some ⟨b1, o1 + i, none⟩)) (fun z h0 K hK => by simp only [T.ln_71, T.ia_71, T.ld_9, bx_eq, mm_eq, nc_eq, cnd_eq, bcond_true, bcond_false, pk_eq, pk_int, ex_eq, ldc_some, un_not, un_neg, mn_eq, mx_eq, bin_add, bin_sub, bin_mul, bin_lss, bin_leq, bin_gtr, bin_geq, bin_eql, bin_neq, bin_peq, bin_pne, bin_beq, bin_bne, bin_leqn, bin_lnen, bin_seq, bin_sne, bin_sge, bin_slt, rdc_cells, mapEs_some, frz_none, Nat.zero_add, Nat.add_zero, List.getElem?_toArray, List.getElem?_cons_zero, List.getElem?_cons_succ, Option.isNone_some, Option.isNone_none, Bool.not_true, Bool.not_false, ite_true, ite_false, Bool.false_eq_true, true_and, and_true, forall_const, false_implies, reduceCtorEq, Bool.true_eq_false, Nat.reduceAdd, Nat.reduceMul, Nat.reduceLT, Nat.reduceSub, Int.reduceEq, Int.reduceLT, decide_true, decide_false, List.setIfInBounds_toArray, List.set_cons_zero, List.set_cons_succ, List.size_toArray, List.length_cons, List.length_nil, frz00, one_int, one_bool, one_ptr, one_str, one_slice, one_map, one_func, one_nil, one_niliface, size_put, size_alloc, put_same, st1_put, bsc_empty, List.nil_append, List.append_nil, List.map_cons, List.map_nil, cells_ptr, cells_str, cells_int, cells_bool, cells_slice, cells_agg, cells_map, fillB_one, fillB_nil, bdc, Int.toNat_natCast, Nat.mul_one]; exact ⟨by omega, by omega, hK⟩) ?_
    refine opS_of (Value.string (xs[i])) (fun z h0 K hK => by simp only [T.ln_71, T.ia_71, T.ld_9, bx_eq, mm_eq, nc_eq, cnd_eq, bcond_true, bcond_false, pk_eq, pk_int, ex_eq, ldc_some, un_not, un_neg, mn_eq, mx_eq, bin_add, bin_sub, bin_mul, bin_lss, bin_leq, bin_gtr, bin_geq, bin_eql, bin_neq, bin_peq, bin_pne, bin_beq, bin_bne, bin_leqn, bin_lnen, bin_seq, bin_sne, bin_sge, bin_slt, rdc_cells, mapEs_some, frz_none, Nat.zero_add, Nat.add_zero, List.getElem?_toArray, List.getElem?_cons_zero, List.getElem?_cons_succ, Option.isNone_some, Option.isNone_none, Bool.not_true, Bool.not_false, ite_true, ite_false, Bool.false_eq_true, true_and, and_true, forall_const, false_implies, reduceCtorEq, Bool.true_eq_false, Nat.reduceAdd, Nat.reduceMul, Nat.reduceLT, Nat.reduceSub, Int.reduceEq, Int.reduceLT, decide_true, decide_false, List.setIfInBounds_toArray, List.set_cons_zero, List.set_cons_succ, List.size_toArray, List.length_cons, List.length_nil, frz00, one_int, one_bool, one_ptr, one_str, one_slice, one_map, one_func, one_nil, one_niliface, size_put, size_alloc, put_same, st1_put, bsc_empty, List.nil_append, List.append_nil, List.map_cons, List.map_nil, cells_ptr, cells_str, cells_int, cells_bool, cells_slice, cells_agg, cells_map, fillB_one, fillB_nil, bdc, hz1 z h0, g1]; exact hK) ?_
    refine opS_of (.pointer (some ⟨b2, o2 + i, none⟩)) (fun z h0 K hK => by simp only [T.ln_71, T.ia_71, T.ld_9, bx_eq, mm_eq, nc_eq, cnd_eq, bcond_true, bcond_false, pk_eq, pk_int, ex_eq, ldc_some, un_not, un_neg, mn_eq, mx_eq, bin_add, bin_sub, bin_mul, bin_lss, bin_leq, bin_gtr, bin_geq, bin_eql, bin_neq, bin_peq, bin_pne, bin_beq, bin_bne, bin_leqn, bin_lnen, bin_seq, bin_sne, bin_sge, bin_slt, rdc_cells, mapEs_some, frz_none, Nat.zero_add, Nat.add_zero, List.getElem?_toArray, List.getElem?_cons_zero, List.getElem?_cons_succ, Option.isNone_some, Option.isNone_none, Bool.not_true, Bool.not_false, ite_true, ite_false, Bool.false_eq_true, true_and, and_true, forall_const, false_implies, reduceCtorEq, Bool.true_eq_false, Nat.reduceAdd, Nat.reduceMul, Nat.reduceLT, Nat.reduceSub, Int.reduceEq, Int.reduceLT, decide_true, decide_false, List.setIfInBounds_toArray, List.set_cons_zero, List.set_cons_succ, List.size_toArray, List.length_cons, List.length_nil, frz00, one_int, one_bool, one_ptr, one_str, one_slice, one_map, one_func, one_nil, one_niliface, size_put, size_alloc, put_same, st1_put, bsc_empty, List.nil_append, List.append_nil, List.map_cons, List.map_nil, cells_ptr, cells_str, cells_int, cells_bool, cells_slice, cells_agg, cells_map, fillB_one, fillB_nil, bdc, Int.toNat_natCast, Nat.mul_one]; exact ⟨by omega, by omega, hK⟩) ?_
    refine opS_of (Value.string (ys[i])) (fun z h0 K hK => by simp only [T.ln_71, T.ia_71, T.ld_9, bx_eq, mm_eq, nc_eq, cnd_eq, bcond_true, bcond_false, pk_eq, pk_int, ex_eq, ldc_some, un_not, un_neg, mn_eq, mx_eq, bin_add, bin_sub, bin_mul, bin_lss, bin_leq, bin_gtr, bin_geq, bin_eql, bin_neq, bin_peq, bin_pne, bin_beq, bin_bne, bin_leqn, bin_lnen, bin_seq, bin_sne, bin_sge, bin_slt, rdc_cells, mapEs_some, frz_none, Nat.zero_add, Nat.add_zero, List.getElem?_toArray, List.getElem?_cons_zero, List.getElem?_cons_succ, Option.isNone_some, Option.isNone_none, Bool.not_true, Bool.not_false, ite_true, ite_false, Bool.false_eq_true, true_and, and_true, forall_const, false_implies, reduceCtorEq, Bool.true_eq_false, Nat.reduceAdd, Nat.reduceMul, Nat.reduceLT, Nat.reduceSub, Int.reduceEq, Int.reduceLT, decide_true, decide_false, List.setIfInBounds_toArray, List.set_cons_zero, List.set_cons_succ, List.size_toArray, List.length_cons, List.length_nil, frz00, one_int, one_bool, one_ptr, one_str, one_slice, one_map, one_func, one_nil, one_niliface, size_put, size_alloc, put_same, st1_put, bsc_empty, List.nil_append, List.append_nil, List.map_cons, List.map_nil, cells_ptr, cells_str, cells_int, cells_bool, cells_slice, cells_agg, cells_map, fillB_one, fillB_nil, bdc, hz2 z h0, g2]; exact hK) ?_
    refine opS_of (.bool (!decide (xs[i] = ys[i]))) (fun z h0 K hK => by rw [bin_sne]; exact hK) ?_
    rw [cnd_eq, bcond_ndec]
    refine ⟨fun hk => ?_, fun hk => ?_⟩
    · have : decide (xs = ys) = false := decide_eq_false (by rintro rfl; exact hk rfl)
      rw [this] at hR; exact hR _ hf.drew
    · rw [IntWalk.i64_in _ (by omega)]
      refine ⟨⟨i + 1, rfl, by omega, hf.drew, fun j hj hji => ?_⟩, by omega⟩
      by_cases hji2 : j = i
      · subst hji2; exact hk
      · exact hno j hj (by omega)
  · have : decide (xs = ys) = true := decide_eq_true (List.ext_getElem hlen fun j h1 h2 => hno j h1 (by omega))
    rw [this] at hR; exact hR _ hf

theorem ref_Arm {N : Nat} {w : World} {x : Nat} {X : Rk} {n : Int} (h : IsRk N w x X) {R : Value → World → Prop}
    (hR : ∀ w', IsRk N w' x (if n < 0 then (1, X) else if X.off then (18, X) else ((0 : Int), { X with armed := n.toNat })).2 → Fr w.heap.size (fun b => b = x) w w' → R (.int .i64 (if n < 0 then (1, X) else if X.off then (18, X) else (0, { X with armed := n.toNat })).1) w') : cl Tryd.prog 26 #[ptr x, .int .i64 n] w R := by
  have hD := h
  obtain ⟨fv, h⟩ := h
  have hd := lt_at h.blk
  have hblk := h.blk
  unfold Rk.cells at hblk
  refine C.r09_DocArm ?_
  unfold F.r09_DocArm
  simp only [T.ty_28, T.fa_52_2, T.ld_4, T.fa_52_3, T.st_3, bx_eq, mm_eq, nc_eq, cnd_eq, bcond_true, bcond_false, pk_eq, pk_int, ex_eq, ldc_some, un_not, un_neg, mn_eq, mx_eq, bin_add, bin_sub, bin_mul, bin_lss, bin_leq, bin_gtr, bin_geq, bin_eql, bin_neq, bin_peq, bin_pne, bin_beq, bin_bne, bin_leqn, bin_lnen, bin_seq, bin_sne, bin_sge, bin_slt, rdc_cells, mapEs_some, frz_none, Nat.zero_add, Nat.add_zero, List.getElem?_toArray, List.getElem?_cons_zero, List.getElem?_cons_succ, Option.isNone_some, Option.isNone_none, Bool.not_true, Bool.not_false, ite_true, ite_false, Bool.false_eq_true, true_and, and_true, forall_const, false_implies, reduceCtorEq, Bool.true_eq_false, Nat.reduceAdd, Nat.reduceMul, Nat.reduceLT, Nat.reduceSub, Int.reduceEq, Int.reduceLT, decide_true, decide_false, List.setIfInBounds_toArray, List.set_cons_zero, List.set_cons_succ, List.size_toArray, List.length_cons, List.length_nil, frz00, one_int, one_bool, one_ptr, one_str, one_slice, one_map, one_func, one_nil, one_niliface, size_put, size_alloc, put_same, st1_put, bsc_empty, List.nil_append, List.append_nil, List.map_cons, List.map_nil, cells_ptr, cells_str, cells_int, cells_bool, cells_slice, cells_agg, cells_map, fillB_one, fillB_nil, bdc, st1_at hblk, hblk, ptr]
  rw [bcond_dec, bcond_iff]
  refine ⟨fun hn => ?_, fun hn => ⟨fun ho => ?_, fun ho => ?_⟩⟩
  · rw [if_pos hn] at hR; exact hR w hD Fr.refl
  · rw [if_neg hn, if_pos ho] at hR; exact hR w hD Fr.refl
  · rw [if_neg hn, if_neg (by rw [ho]; simp)] at hR
    refine hR _ ⟨fv, ?_⟩ (Fr.refl.put (.inl rfl))
    have e : n = ((n.toNat : Nat) : Int) := (Int.toNat_of_nonneg (by omega)).symm
    have := h.put (X' := { X with armed := n.toNat }) h.fs
    unfold Rk.cells at this
    rw [← e] at this
    exact this
theorem ref_Arm_nil {w : World} {n : Int} {R : Value → World → Prop} (hR : R (.int .i64 (if n < 0 then 1 else 7)) w) : cl Tryd.prog 26 #[.pointer none, .int .i64 n] w R := by
  refine C.r09_DocArm ?_
  unfold F.r09_DocArm
  simp only [T.ty_28, T.fa_52_2, T.ld_4, T.fa_52_3, T.st_3, bx_eq, mm_eq, nc_eq, cnd_eq, bcond_true, bcond_false, pk_eq, pk_int, ex_eq, ldc_some, un_not, un_neg, mn_eq, mx_eq, bin_add, bin_sub, bin_mul, bin_lss, bin_leq, bin_gtr, bin_geq, bin_eql, bin_neq, bin_peq, bin_pne, bin_beq, bin_bne, bin_leqn, bin_lnen, bin_seq, bin_sne, bin_sge, bin_slt, rdc_cells, mapEs_some, frz_none, Nat.zero_add, Nat.add_zero, List.getElem?_toArray, List.getElem?_cons_zero, List.getElem?_cons_succ, Option.isNone_some, Option.isNone_none, Bool.not_true, Bool.not_false, ite_true, ite_false, Bool.false_eq_true, true_and, and_true, forall_const, false_implies, reduceCtorEq, Bool.true_eq_false, Nat.reduceAdd, Nat.reduceMul, Nat.reduceLT, Nat.reduceSub, Int.reduceEq, Int.reduceLT, decide_true, decide_false, List.setIfInBounds_toArray, List.set_cons_zero, List.set_cons_succ, List.size_toArray, List.length_cons, List.length_nil, frz00, one_int, one_bool, one_ptr, one_str, one_slice, one_map, one_func, one_nil, one_niliface, size_put, size_alloc, put_same, st1_put, bsc_empty, List.nil_append, List.append_nil, List.map_cons, List.map_nil, cells_ptr, cells_str, cells_int, cells_bool, cells_slice, cells_agg, cells_map, fillB_one, fillB_nil, bdc, bcond_dec]
  refine ⟨fun hn => ?_, fun hn => ?_⟩
  · rw [if_pos hn] at hR; exact hR
  · rw [if_neg hn] at hR; exact hR
def Rk.fresh (n : Int) : Rk := { fs := [], room := n, off := false, armed := 0, ops := 0, last := 0, a := ⟨#[]⟩, b := ⟨#[]⟩, n := 0 }
theorem ref_New {N : Nat} {w : World} {n : Int} (hN : N ≤ w.heap.size) {R : Value → World → Prop} (h0 : n < 1 ∨ 65536 < n → R (.tuple #[.pointer none, .int .i64 1]) w)
    (h1 : 1 ≤ n → n ≤ 65536 → ∀ x w', w.heap.size ≤ x → IsRk N w' x (Rk.fresh n) → Fr w.heap.size No w w' → R (.tuple #[ptr x, .int .i64 0]) w') : cl Tryd.prog 6 #[.int .i64 n] w R := by
  refine C.r09_DocNew ?_
  unfold F.r09_DocNew
  simp only [T.bd_52_1, bx_eq, mm_eq, nc_eq, cnd_eq, bcond_true, bcond_false, pk_eq, pk_int, ex_eq, ldc_some, un_not, un_neg, mn_eq, mx_eq, bin_add, bin_sub, bin_mul, bin_lss, bin_leq, bin_gtr, bin_geq, bin_eql, bin_neq, bin_peq, bin_pne, bin_beq, bin_bne, bin_leqn, bin_lnen, bin_seq, bin_sne, bin_sge, bin_slt, rdc_cells, mapEs_some, frz_none, Nat.zero_add, Nat.add_zero, List.getElem?_toArray, List.getElem?_cons_zero, List.getElem?_cons_succ, Option.isNone_some, Option.isNone_none, Bool.not_true, Bool.not_false, ite_true, ite_false, Bool.false_eq_true, true_and, and_true, forall_const, false_implies, reduceCtorEq, Bool.true_eq_false, Nat.reduceAdd, Nat.reduceMul, Nat.reduceLT, Nat.reduceSub, Int.reduceEq, Int.reduceLT, decide_true, decide_false, List.setIfInBounds_toArray, List.set_cons_zero, List.set_cons_succ, List.size_toArray, List.length_cons, List.length_nil, frz00, one_int, one_bool, one_ptr, one_str, one_slice, one_map, one_func, one_nil, one_niliface, size_put, size_alloc, put_same, st1_put, bsc_empty, List.nil_append, List.append_nil, List.map_cons, List.map_nil, cells_ptr, cells_str, cells_int, cells_bool, cells_slice, cells_agg, cells_map, fillB_one, fillB_nil, bdc, bcond_dec]
  refine ⟨fun hn => h0 (.inl hn), fun hn => ⟨fun hm => h0 (.inr hm), fun hm => ?_⟩⟩
  refine h1 (by omega) (by omega) w.heap.size _ (Nat.le_refl _) ⟨.slice none 0 0, alloc_at rfl, (FilesO.nil N _).v, hN⟩ (Fr.refl.alloc (Nat.le_refl _))
end Go.Proofs.YtppefblkmgihoaaDoor
