/- What the law looks at behind each call. -/
import Derived.Test.YtppefblkmgihoaaDoorP2
set_option linter.unusedVariables false
set_option linter.unusedSimpArgs false
set_option maxRecDepth 10000
namespace Go.Proofs.YtppefblkmgihoaaDoor
open Go.Sh

theorem read_len {w : World} {d : Nat} {D : Dk} {X : Rk} (h : IsDk w d D) (hs : Sim D X) (a : ByteArray) : (D.read a).1.length ≤ 2 ^ 22 := by
  obtain ⟨hv, es, c, h⟩ := h
  obtain ⟨v, hv, _⟩ := h.look a
  have h1 := bytes_le (D.fs.at a) hv.1 (D.fs.at a).length
  rw [List.take_length] at h1
  have h2 : (D.fs.at a).length ≤ 65536 := by
    rw [hs.at]
    unfold Files.at
    have htot := hs.tot
    cases hg : aget X.fs a with
    | none => simp
    | some s =>
      have h3 := total_perm (get_perm hs.sorted.nodup hg)
      rw [total_cons] at h3
      show s.length ≤ 65536
      dsimp only at h3
      omega
  unfold Dk.read
  split
  · simp
  · show (Secs.bytes (D.fs.at a)).length ≤ _
    omega
theorem order_sorted {l : Files} (h : l.sorted) : inOrder (l.map (·.1)) := by
  unfold inOrder; rw [List.pairwise_map]; exact h

theorem looks_one {N : Nat} {w : World} {d : Nat} {D : Dk} {x : Nat} {X : Rk} {a : ByteArray} (h : Pr N w d D x X) (ha : a.size < 2 ^ 62) {R : Value → World → Prop} (hR : ∀ w', Fr w.heap.size No w w' → R (.bool true) w') : cl Tryd.prog 8 #[ptr d, ptr x, .string a] w R := by
  obtain ⟨e1, e2, e3, e4⟩ := sim_read h.sim a
  have hrl := read_len h.dk h.sim a
  refine C.l09_looks ?_
  unfold F.l09_looks
  refine disk_Read h.dk ha h.sim.dgood fun w1 v20 hf1 hO => ?_
  simp only [ex_eq, List.getElem?_toArray, List.getElem?_cons_zero, List.getElem?_cons_succ, ldc_some]
  have h1 := h.young hf1
  obtain ⟨fv, hx1⟩ := h1.rk
  refine ref_Read hx1 h.sim.xgood ha fun w2 v26 hf2 hB => ?_
  simp only [ex_eq, List.getElem?_toArray, List.getElem?_cons_zero, List.getElem?_cons_succ, ldc_some]
  have h2 := h1.young hf2
  refine disk_Size h2.dk ha ?_
  simp only [ex_eq, List.getElem?_toArray, List.getElem?_cons_zero, List.getElem?_cons_succ, ldc_some]
  have hO2 := hO.young hf2
  have hfw2 : Fr w.heap.size No w w2 := hf1.trans (hf2.no hf1.1)
  obtain ⟨A, c, rfl⟩ := hO.shape
  generalize hbs : (D.read a).1 = bs at *
  refine ⟨fun s z => s = [.bool true] ∧ Fr w.heap.size No w z ∧ OwB w.heap.size z bs (.slice A bs.length c), ?_, ?_⟩
  · rw [← e1] at hB
    refine same_bytes hO2.v.a (BytesV.a hB) (by unfold small; omega) fun w3 hf3 => ?_
    rw [← e4, ← e2]
    have e3' : D.check a true = (D.read a).2 := by rw [e3, e2]
    have e5 : (if (D.read a).2 ≠ 0 then (0 : Int) else ((D.fs.at a).length : Nat)) = ((if (D.read a).2 ≠ 0 then 0 else (D.fs.at a).length : Nat) : Int) := by split <;> rfl
    simp only [bx_eq, mm_eq, nc_eq, cnd_eq, bcond_true, bcond_false, pk_eq, pk_int, ex_eq, ldc_some, un_not, un_neg, mn_eq, mx_eq, bin_add, bin_sub, bin_mul, bin_lss, bin_leq, bin_gtr, bin_geq, bin_eql, bin_neq, bin_peq, bin_pne, bin_beq, bin_bne, bin_leqn, bin_lnen, bin_seq, bin_sne, bin_sge, bin_slt, rdc_cells, mapEs_some, frz_none, Nat.zero_add, Nat.add_zero, List.getElem?_toArray, List.getElem?_cons_zero, List.getElem?_cons_succ, Option.isNone_some, Option.isNone_none, Bool.not_true, Bool.not_false, ite_true, ite_false, Bool.false_eq_true, true_and, and_true, forall_const, false_implies, reduceCtorEq, Bool.true_eq_false, Nat.reduceAdd, Nat.reduceMul, Nat.reduceLT, Nat.reduceSub, Int.reduceEq, Int.reduceLT, decide_true, decide_false, List.setIfInBounds_toArray, List.set_cons_zero, List.set_cons_succ, List.size_toArray, List.length_cons, List.length_nil, frz00, one_int, one_bool, one_ptr, one_str, one_slice, one_map, one_func, one_nil, one_niliface, size_put, size_alloc, put_same, st1_put, bsc_empty, List.nil_append, List.append_nil, List.map_cons, List.map_nil, cells_ptr, cells_str, cells_int, cells_bool, cells_slice, cells_agg, cells_map, fillB_one, fillB_nil, bdc, e3', e5]
    have h3 := h2.young hf3
    have hfw3 : Fr w.heap.size No w w3 := hfw2.trans (hf3.no hfw2.1)
    have hO3 := hO2.young hf3
    -- the names
    have fin : ∀ w4 v55, Fr w3.heap.size No w3 w4 → NamesV w4 X.names v55 → cl Tryd.prog 34 #[ptr x] w4 fun v57 w => cl Tryd.prog 32 #[v55, v57] w fun v58 w => [v58] = [.bool true] ∧ Fr w.heap.size No w w ∧ True ∧ Fr w3.heap.size No w3 w := by
      intro w4 v55 hf4 hn
      obtain ⟨fv4, hx4⟩ := (h3.young hf4).rk
      refine ref_Names hx4 h.sim.xgood fun w5 v57 hf5 hn5 => ?_
      refine same_names (hn.young hf5) hn5 ?_ fun w6 hf6 => ⟨by simp, Fr.refl, trivial, (hf4.trans (hf5.no hf4.1)).trans (hf6.no (Nat.le_trans hf4.1 hf5.1))⟩
      have := h.sim.few
      unfold Rk.names
      split
      · show (0 : Nat) < _; decide
      · unfold small; rw [List.length_map]; omega
    have fin2 : ∀ w4 v55, Fr w3.heap.size No w3 w4 → NamesV w4 X.names v55 → cl Tryd.prog 34 #[ptr x] w4 fun v57 w' => cl Tryd.prog 32 #[v55, v57] w' fun v58 w' => [v58] = [.bool true] ∧ Fr w.heap.size No w w' ∧ OwB w.heap.size w' bs (.slice A bs.length c) := by
      intro w4 v55 hf4 hn
      exact cl.mono (fin w4 v55 hf4 hn) fun v57 w5 h5 => cl.mono h5 fun v58 w6 ⟨q1, _, _, q2⟩ => ⟨q1, hfw3.trans (q2.no hfw3.1), hO3.young q2⟩
    refine disk_Names h3.dk (by have := h.sim.dlen; unfold small; omega) (fun ho => ?_) (fun ho w4 v55 ys hys hord hOn hf4 => ?_)
    · refine fin2 w3 _ Fr.refl ?_
      have : X.names = [] := by unfold Rk.names; rw [← h.sim.off, ho]; rfl
      rw [this]; exact ⟨none, 0, rfl, Nat.le_refl _, rfl, .inl ⟨rfl, .inl rfl⟩⟩
    · refine fin2 w4 _ hf4 ?_
      have : ys = X.names := by
        unfold Rk.names; rw [← h.sim.off, ho]
        exact order_uniq hord (order_sorted h.sim.sorted) (hys.trans (h.sim.perm.map _))
      rw [← this]; exact (Ow.sl hOn).mono fun _ _ _ => trivial
  · rintro g1 z ⟨hg, hfz, hOz⟩
    simp only [List.map_cons, List.map_nil, List.cons.injEq, and_true] at hg
    simp only [T.ln_31]
    refine xor_loop hOz (by omega) fun u hfu => ?_
    have hfwu : Fr w.heap.size No w u := hfz.then hfu hfz.1 fun b hb hx => by omega
    have hu := h.young hfwu
    obtain ⟨fv, hx⟩ := hu.rk
    have hblk := hx.blk
    unfold Rk.cells at hblk
    simp only [bx_eq, mm_eq, nc_eq, cnd_eq, bcond_true, bcond_false, pk_eq, pk_int, ex_eq, ldc_some, un_not, un_neg, mn_eq, mx_eq, bin_add, bin_sub, bin_mul, bin_lss, bin_leq, bin_gtr, bin_geq, bin_eql, bin_neq, bin_peq, bin_pne, bin_beq, bin_bne, bin_leqn, bin_lnen, bin_seq, bin_sne, bin_sge, bin_slt, rdc_cells, mapEs_some, frz_none, Nat.zero_add, Nat.add_zero, List.getElem?_toArray, List.getElem?_cons_zero, List.getElem?_cons_succ, Option.isNone_some, Option.isNone_none, Bool.not_true, Bool.not_false, ite_true, ite_false, Bool.false_eq_true, true_and, and_true, forall_const, false_implies, reduceCtorEq, Bool.true_eq_false, Nat.reduceAdd, Nat.reduceMul, Nat.reduceLT, Nat.reduceSub, Int.reduceEq, Int.reduceLT, decide_true, decide_false, List.setIfInBounds_toArray, List.set_cons_zero, List.set_cons_succ, List.size_toArray, List.length_cons, List.length_nil, frz00, one_int, one_bool, one_ptr, one_str, one_slice, one_map, one_func, one_nil, one_niliface, size_put, size_alloc, put_same, st1_put, bsc_empty, List.nil_append, List.append_nil, List.map_cons, List.map_nil, cells_ptr, cells_str, cells_int, cells_bool, cells_slice, cells_agg, cells_map, fillB_one, fillB_nil, bdc, hg]
    refine ⟨fun z => z.heap[x]? = some (.cells #[fv, .int .i64 X.room, .bool X.off, .int .i64 X.armed, .int .i64 X.ops, .int .i64 X.last, .string X.a, .string X.b, .int .i64 X.n] 52 (0, 0)), hblk, ?_⟩
    refine opS_of (.pointer (some ⟨x, 2, none⟩)) (fun z h0 K hK => by simp only [T.ln_31, T.ia_31, T.ld_5, T.st_5, T.ty_28, T.fa_52_2, T.ld_4, T.ty_4, T.fa_52_4, T.ld_3, bx_eq, mm_eq, nc_eq, cnd_eq, bcond_true, bcond_false, pk_eq, pk_int, ex_eq, ldc_some, un_not, un_neg, mn_eq, mx_eq, bin_add, bin_sub, bin_mul, bin_lss, bin_leq, bin_gtr, bin_geq, bin_eql, bin_neq, bin_peq, bin_pne, bin_beq, bin_bne, bin_leqn, bin_lnen, bin_seq, bin_sne, bin_sge, bin_slt, rdc_cells, mapEs_some, frz_none, Nat.zero_add, Nat.add_zero, List.getElem?_toArray, List.getElem?_cons_zero, List.getElem?_cons_succ, Option.isNone_some, Option.isNone_none, Bool.not_true, Bool.not_false, ite_true, ite_false, Bool.false_eq_true, true_and, and_true, forall_const, false_implies, reduceCtorEq, Bool.true_eq_false, Nat.reduceAdd, Nat.reduceMul, Nat.reduceLT, Nat.reduceSub, Int.reduceEq, Int.reduceLT, decide_true, decide_false, List.setIfInBounds_toArray, List.set_cons_zero, List.set_cons_succ, List.size_toArray, List.length_cons, List.length_nil, frz00, one_int, one_bool, one_ptr, one_str, one_slice, one_map, one_func, one_nil, one_niliface, size_put, size_alloc, put_same, st1_put, bsc_empty, List.nil_append, List.append_nil, List.map_cons, List.map_nil, cells_ptr, cells_str, cells_int, cells_bool, cells_slice, cells_agg, cells_map, fillB_one, fillB_nil, bdc]; exact hK) ?_
    refine opS_of (.bool X.off) (fun z h0 K hK => by simp only [T.ln_31, T.ia_31, T.ld_5, T.st_5, T.ty_28, T.fa_52_2, T.ld_4, T.ty_4, T.fa_52_4, T.ld_3, bx_eq, mm_eq, nc_eq, cnd_eq, bcond_true, bcond_false, pk_eq, pk_int, ex_eq, ldc_some, un_not, un_neg, mn_eq, mx_eq, bin_add, bin_sub, bin_mul, bin_lss, bin_leq, bin_gtr, bin_geq, bin_eql, bin_neq, bin_peq, bin_pne, bin_beq, bin_bne, bin_leqn, bin_lnen, bin_seq, bin_sne, bin_sge, bin_slt, rdc_cells, mapEs_some, frz_none, Nat.zero_add, Nat.add_zero, List.getElem?_toArray, List.getElem?_cons_zero, List.getElem?_cons_succ, Option.isNone_some, Option.isNone_none, Bool.not_true, Bool.not_false, ite_true, ite_false, Bool.false_eq_true, true_and, and_true, forall_const, false_implies, reduceCtorEq, Bool.true_eq_false, Nat.reduceAdd, Nat.reduceMul, Nat.reduceLT, Nat.reduceSub, Int.reduceEq, Int.reduceLT, decide_true, decide_false, List.setIfInBounds_toArray, List.set_cons_zero, List.set_cons_succ, List.size_toArray, List.length_cons, List.length_nil, frz00, one_int, one_bool, one_ptr, one_str, one_slice, one_map, one_func, one_nil, one_niliface, size_put, size_alloc, put_same, st1_put, bsc_empty, List.nil_append, List.append_nil, List.map_cons, List.map_nil, cells_ptr, cells_str, cells_int, cells_bool, cells_slice, cells_agg, cells_map, fillB_one, fillB_nil, bdc, h0]; exact hK) ?_
    refine opS_of (.bool !X.off) (fun z h0 K hK => by simp only [bx_eq, mm_eq, nc_eq, cnd_eq, bcond_true, bcond_false, pk_eq, pk_int, ex_eq, ldc_some, un_not, un_neg, mn_eq, mx_eq, bin_add, bin_sub, bin_mul, bin_lss, bin_leq, bin_gtr, bin_geq, bin_eql, bin_neq, bin_peq, bin_pne, bin_beq, bin_bne, bin_leqn, bin_lnen, bin_seq, bin_sne, bin_sge, bin_slt, rdc_cells, mapEs_some, frz_none, Nat.zero_add, Nat.add_zero, List.getElem?_toArray, List.getElem?_cons_zero, List.getElem?_cons_succ, Option.isNone_some, Option.isNone_none, Bool.not_true, Bool.not_false, ite_true, ite_false, Bool.false_eq_true, true_and, and_true, forall_const, false_implies, reduceCtorEq, Bool.true_eq_false, Nat.reduceAdd, Nat.reduceMul, Nat.reduceLT, Nat.reduceSub, Int.reduceEq, Int.reduceLT, decide_true, decide_false, List.setIfInBounds_toArray, List.set_cons_zero, List.set_cons_succ, List.size_toArray, List.length_cons, List.length_nil, frz00, one_int, one_bool, one_ptr, one_str, one_slice, one_map, one_func, one_nil, one_niliface, size_put, size_alloc, put_same, st1_put, bsc_empty, List.nil_append, List.append_nil, List.map_cons, List.map_nil, cells_ptr, cells_str, cells_int, cells_bool, cells_slice, cells_agg, cells_map, fillB_one, fillB_nil, bdc]; exact hK) ?_
    have hud : IsDk u.drew d D := hu.dk.young Fr.refl.drew
    refine disk_On hud ⟨hblk, ?_⟩
    refine opS_of (.bool true) (fun z h0 K hK => by rw [bin_beq T.ty_4, h.sim.off]; simpa using hK) ?_
    simp only [cnd_eq, bcond_true, nc_eq]
    refine opS_of (.pointer (some ⟨x, 4, none⟩)) (fun z h0 K hK => by simp only [T.ln_31, T.ia_31, T.ld_5, T.st_5, T.ty_28, T.fa_52_2, T.ld_4, T.ty_4, T.fa_52_4, T.ld_3, bx_eq, mm_eq, nc_eq, cnd_eq, bcond_true, bcond_false, pk_eq, pk_int, ex_eq, ldc_some, un_not, un_neg, mn_eq, mx_eq, bin_add, bin_sub, bin_mul, bin_lss, bin_leq, bin_gtr, bin_geq, bin_eql, bin_neq, bin_peq, bin_pne, bin_beq, bin_bne, bin_leqn, bin_lnen, bin_seq, bin_sne, bin_sge, bin_slt, rdc_cells, mapEs_some, frz_none, Nat.zero_add, Nat.add_zero, List.getElem?_toArray, List.getElem?_cons_zero, List.getElem?_cons_succ, Option.isNone_some, Option.isNone_none, Bool.not_true, Bool.not_false, ite_true, ite_false, Bool.false_eq_true, true_and, and_true, forall_const, false_implies, reduceCtorEq, Bool.true_eq_false, Nat.reduceAdd, Nat.reduceMul, Nat.reduceLT, Nat.reduceSub, Int.reduceEq, Int.reduceLT, decide_true, decide_false, List.setIfInBounds_toArray, List.set_cons_zero, List.set_cons_succ, List.size_toArray, List.length_cons, List.length_nil, frz00, one_int, one_bool, one_ptr, one_str, one_slice, one_map, one_func, one_nil, one_niliface, size_put, size_alloc, put_same, st1_put, bsc_empty, List.nil_append, List.append_nil, List.map_cons, List.map_nil, cells_ptr, cells_str, cells_int, cells_bool, cells_slice, cells_agg, cells_map, fillB_one, fillB_nil, bdc]; exact hK) ?_
    refine opS_of (.int .i64 X.ops) (fun z h0 K hK => by simp only [T.ln_31, T.ia_31, T.ld_5, T.st_5, T.ty_28, T.fa_52_2, T.ld_4, T.ty_4, T.fa_52_4, T.ld_3, bx_eq, mm_eq, nc_eq, cnd_eq, bcond_true, bcond_false, pk_eq, pk_int, ex_eq, ldc_some, un_not, un_neg, mn_eq, mx_eq, bin_add, bin_sub, bin_mul, bin_lss, bin_leq, bin_gtr, bin_geq, bin_eql, bin_neq, bin_peq, bin_pne, bin_beq, bin_bne, bin_leqn, bin_lnen, bin_seq, bin_sne, bin_sge, bin_slt, rdc_cells, mapEs_some, frz_none, Nat.zero_add, Nat.add_zero, List.getElem?_toArray, List.getElem?_cons_zero, List.getElem?_cons_succ, Option.isNone_some, Option.isNone_none, Bool.not_true, Bool.not_false, ite_true, ite_false, Bool.false_eq_true, true_and, and_true, forall_const, false_implies, reduceCtorEq, Bool.true_eq_false, Nat.reduceAdd, Nat.reduceMul, Nat.reduceLT, Nat.reduceSub, Int.reduceEq, Int.reduceLT, decide_true, decide_false, List.setIfInBounds_toArray, List.set_cons_zero, List.set_cons_succ, List.size_toArray, List.length_cons, List.length_nil, frz00, one_int, one_bool, one_ptr, one_str, one_slice, one_map, one_func, one_nil, one_niliface, size_put, size_alloc, put_same, st1_put, bsc_empty, List.nil_append, List.append_nil, List.map_cons, List.map_nil, cells_ptr, cells_str, cells_int, cells_bool, cells_slice, cells_agg, cells_map, fillB_one, fillB_nil, bdc, h0]; exact hK) ?_
    refine disk_Ops hud ⟨hblk, ?_⟩
    exact opS_of (.bool true) (fun z h0 K hK => by rw [bin_eql, h.sim.ops]; simpa using hK) (hR _ hfwu)

theorem looks_nil {w : World} {a : ByteArray} (ha : a.size < 2 ^ 62) {R : Value → World → Prop} (hR : ∀ w', Fr w.heap.size No w w' → R (.bool true) w') : cl Tryd.prog 8 #[.pointer none, .pointer none, .string a] w R := by
  refine C.l09_looks ?_
  unfold F.l09_looks
  refine disk_Read_nil ha ?_
  simp only [ex_eq, List.getElem?_toArray, List.getElem?_cons_zero, List.getElem?_cons_succ, ldc_some]
  refine ref_Read_nil ha fun w2 hf2 => ?_
  simp only [ex_eq, List.getElem?_toArray, List.getElem?_cons_zero, List.getElem?_cons_succ, ldc_some]
  refine disk_Size_nil ha ?_
  simp only [ex_eq, List.getElem?_toArray, List.getElem?_cons_zero, List.getElem?_cons_succ, ldc_some]
  have hO : ∀ z, OwB w.heap.size z [] (.slice none 0 0) := fun z => Ow.nil _ _ _ _
  refine ⟨fun s z => s = [.bool true] ∧ Fr w.heap.size No w z, ?_, ?_⟩
  · refine same_bytes (BytesV.a (BytesV.nil _)) (BytesV.a (BytesV.nil _)) (by unfold small; simp) fun w3 hf3 => ?_
    simp only [bx_eq, mm_eq, nc_eq, cnd_eq, bcond_true, bcond_false, pk_eq, pk_int, ex_eq, ldc_some, un_not, un_neg, mn_eq, mx_eq, bin_add, bin_sub, bin_mul, bin_lss, bin_leq, bin_gtr, bin_geq, bin_eql, bin_neq, bin_peq, bin_pne, bin_beq, bin_bne, bin_leqn, bin_lnen, bin_seq, bin_sne, bin_sge, bin_slt, rdc_cells, mapEs_some, frz_none, Nat.zero_add, Nat.add_zero, List.getElem?_toArray, List.getElem?_cons_zero, List.getElem?_cons_succ, Option.isNone_some, Option.isNone_none, Bool.not_true, Bool.not_false, ite_true, ite_false, Bool.false_eq_true, true_and, and_true, forall_const, false_implies, reduceCtorEq, Bool.true_eq_false, Nat.reduceAdd, Nat.reduceMul, Nat.reduceLT, Nat.reduceSub, Int.reduceEq, Int.reduceLT, decide_true, decide_false, List.setIfInBounds_toArray, List.set_cons_zero, List.set_cons_succ, List.size_toArray, List.length_cons, List.length_nil, frz00, one_int, one_bool, one_ptr, one_str, one_slice, one_map, one_func, one_nil, one_niliface, size_put, size_alloc, put_same, st1_put, bsc_empty, List.nil_append, List.append_nil, List.map_cons, List.map_nil, cells_ptr, cells_str, cells_int, cells_bool, cells_slice, cells_agg, cells_map, fillB_one, fillB_nil, bdc]
    refine disk_Names_nil (ref_Names_nil ?_)
    have hn : NamesV w3 [] (.slice none 0 0) := ⟨none, 0, rfl, Nat.le_refl _, rfl, .inl ⟨rfl, .inl rfl⟩⟩
    exact same_names hn hn (by unfold small; simp) fun w4 hf4 => ⟨by simp, (hf2.trans (hf3.no hf2.1)).trans (hf4.no (Nat.le_trans hf2.1 hf3.1))⟩
  · rintro g1 z ⟨hg, hfz⟩
    simp only [List.map_cons, List.map_nil, List.cons.injEq, and_true] at hg
    simp only [T.ln_31]
    refine xor_loop (hO z) (by simp) fun u hfu => ?_
    have hfwu : Fr w.heap.size No w u := hfz.then hfu hfz.1 fun b hb hx => by omega
    simp only [bx_eq, mm_eq, nc_eq, cnd_eq, bcond_true, bcond_false, pk_eq, pk_int, ex_eq, ldc_some, un_not, un_neg, mn_eq, mx_eq, bin_add, bin_sub, bin_mul, bin_lss, bin_leq, bin_gtr, bin_geq, bin_eql, bin_neq, bin_peq, bin_pne, bin_beq, bin_bne, bin_leqn, bin_lnen, bin_seq, bin_sne, bin_sge, bin_slt, rdc_cells, mapEs_some, frz_none, Nat.zero_add, Nat.add_zero, List.getElem?_toArray, List.getElem?_cons_zero, List.getElem?_cons_succ, Option.isNone_some, Option.isNone_none, Bool.not_true, Bool.not_false, ite_true, ite_false, Bool.false_eq_true, true_and, and_true, forall_const, false_implies, reduceCtorEq, Bool.true_eq_false, Nat.reduceAdd, Nat.reduceMul, Nat.reduceLT, Nat.reduceSub, Int.reduceEq, Int.reduceLT, decide_true, decide_false, List.setIfInBounds_toArray, List.set_cons_zero, List.set_cons_succ, List.size_toArray, List.length_cons, List.length_nil, frz00, one_int, one_bool, one_ptr, one_str, one_slice, one_map, one_func, one_nil, one_niliface, size_put, size_alloc, put_same, st1_put, bsc_empty, List.nil_append, List.append_nil, List.map_cons, List.map_nil, cells_ptr, cells_str, cells_int, cells_bool, cells_slice, cells_agg, cells_map, fillB_one, fillB_nil, bdc, hg]
    refine disk_On_nil ?_
    simp only [bx_eq, mm_eq, nc_eq, cnd_eq, bcond_true, bcond_false, pk_eq, pk_int, ex_eq, ldc_some, un_not, un_neg, mn_eq, mx_eq, bin_add, bin_sub, bin_mul, bin_lss, bin_leq, bin_gtr, bin_geq, bin_eql, bin_neq, bin_peq, bin_pne, bin_beq, bin_bne, bin_leqn, bin_lnen, bin_seq, bin_sne, bin_sge, bin_slt, rdc_cells, mapEs_some, frz_none, Nat.zero_add, Nat.add_zero, List.getElem?_toArray, List.getElem?_cons_zero, List.getElem?_cons_succ, Option.isNone_some, Option.isNone_none, Bool.not_true, Bool.not_false, ite_true, ite_false, Bool.false_eq_true, true_and, and_true, forall_const, false_implies, reduceCtorEq, Bool.true_eq_false, Nat.reduceAdd, Nat.reduceMul, Nat.reduceLT, Nat.reduceSub, Int.reduceEq, Int.reduceLT, decide_true, decide_false, List.setIfInBounds_toArray, List.set_cons_zero, List.set_cons_succ, List.size_toArray, List.length_cons, List.length_nil, frz00, one_int, one_bool, one_ptr, one_str, one_slice, one_map, one_func, one_nil, one_niliface, size_put, size_alloc, put_same, st1_put, bsc_empty, List.nil_append, List.append_nil, List.map_cons, List.map_nil, cells_ptr, cells_str, cells_int, cells_bool, cells_slice, cells_agg, cells_map, fillB_one, fillB_nil, bdc]
    refine disk_Ops_nil ?_
    simp only [bx_eq, mm_eq, nc_eq, cnd_eq, bcond_true, bcond_false, pk_eq, pk_int, ex_eq, ldc_some, un_not, un_neg, mn_eq, mx_eq, bin_add, bin_sub, bin_mul, bin_lss, bin_leq, bin_gtr, bin_geq, bin_eql, bin_neq, bin_peq, bin_pne, bin_beq, bin_bne, bin_leqn, bin_lnen, bin_seq, bin_sne, bin_sge, bin_slt, rdc_cells, mapEs_some, frz_none, Nat.zero_add, Nat.add_zero, List.getElem?_toArray, List.getElem?_cons_zero, List.getElem?_cons_succ, Option.isNone_some, Option.isNone_none, Bool.not_true, Bool.not_false, ite_true, ite_false, Bool.false_eq_true, true_and, and_true, forall_const, false_implies, reduceCtorEq, Bool.true_eq_false, Nat.reduceAdd, Nat.reduceMul, Nat.reduceLT, Nat.reduceSub, Int.reduceEq, Int.reduceLT, decide_true, decide_false, List.setIfInBounds_toArray, List.set_cons_zero, List.set_cons_succ, List.size_toArray, List.length_cons, List.length_nil, frz00, one_int, one_bool, one_ptr, one_str, one_slice, one_map, one_func, one_nil, one_niliface, size_put, size_alloc, put_same, st1_put, bsc_empty, List.nil_append, List.append_nil, List.map_cons, List.map_nil, cells_ptr, cells_str, cells_int, cells_bool, cells_slice, cells_agg, cells_map, fillB_one, fillB_nil, bdc]
    exact hR _ hfwu
theorem looks_ok {N : Nat} {w : World} {v u : Value} {a : ByteArray} (h : Pair N w v u) (ha : a.size < 2 ^ 62) {R : Value → World → Prop} (hR : ∀ w', Pair N w' v u → Fr w.heap.size No w w' → R (.bool true) w') : cl Tryd.prog 8 #[v, u, .string a] w R := by
  have hh := h
  rcases h with ⟨rfl, rfl, h⟩ | ⟨d, D, x, X, rfl, rfl, h⟩
  · exact looks_nil ha fun w' hf => hR w' (hh.young hf) hf
  · exact looks_one h ha fun w' hf => hR w' (hh.young hf) hf
end Go.Proofs.YtppefblkmgihoaaDoor
