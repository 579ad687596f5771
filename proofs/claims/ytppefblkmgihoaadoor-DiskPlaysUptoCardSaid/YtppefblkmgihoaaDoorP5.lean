/- DiskPlays, walked. -/
import Derived.Test.YtppefblkmgihoaaDoorP4
set_option linter.unusedVariables false
set_option linter.unusedSimpArgs false
set_option maxRecDepth 10000
namespace Go.Proofs.YtppefblkmgihoaaDoor
open Go.Sh

/-- The script: where each operation lies, and what it says. -/
def ScriptV (N : Nat) (w : World) (A : Option Addr) (n : Nat) : Prop := ∀ i, i < n → ∃ b o op pv kv, A = some ⟨b, o, none⟩ ∧ b < N ∧ rdn w.heap[b]? (o + i * 7) 7 = some #[.int .u8 op.k, .string op.a, .string op.b, pv, .int .i64 op.n, .bool op.done, kv] ∧ OpV N w op pv kv

theorem OpV.old {N : Nat} {w w' : World} {op : OpR} {pv kv : Value} (h : OpV N w op pv kv) (hf : Fr N No w w') : OpV N w' op pv kv := ⟨h.hp.imp fun _ h => old_sl h hf, h.hk.imp fun _ h => old_sl h hf, h.sa, h.sb, h.sp, h.sk, h.sn⟩

theorem new_both {N : Nat} {w : World} {n : Int} (hN : N ≤ w.heap.size) : cl Tryd.prog 5 #[.int .i64 n] w fun v w2 => ∃ v16 e, v = .tuple #[v16, .int .i64 e] ∧ cl Tryd.prog 6 #[.int .i64 n] w2 fun u w3 => ∃ v21, u = .tuple #[v21, .int .i64 e] ∧ Fr w.heap.size No w w3 ∧ Pair N w3 v16 v21 := by
  by_cases hn : n < 1 ∨ 65536 < n
  · refine disk_New (fun _ => ⟨_, _, rfl, ?_⟩) fun h1 h2 => by omega
    exact ref_New hN (fun _ => ⟨_, rfl, Fr.refl, .inl ⟨rfl, rfl, hN⟩⟩) fun h1 h2 => by omega
  · refine disk_New (fun h => absurd h hn) fun h1 h2 d m w2 hd hm hD hf2 => ⟨_, _, rfl, ?_⟩
    refine ref_New (Nat.le_trans hN hf2.1) (fun h => absurd h hn) fun _ _ x w3 hx hX hf3 => ⟨_, rfl, hf2.trans (hf3.no hf2.1), .inr ⟨d, _, x, _, rfl, rfl, Nat.le_trans hN hd, Nat.le_trans hN hm, hD.young hf3, hX, sim_fresh m h1 h2⟩⟩

theorem ldn_some' (cs : Array Value) (K : Value → Prop) : ldn (some cs) K = K (.agg cs) := rfl
theorem plays {w : World} {n : Int} {A : Option Addr} {len c : Nat} (hs : ScriptV w.heap.size w A len) (hlen : len < 2 ^ 62) {R : Value → World → Prop} (hR : ∀ w', Fr w.heap.size No w w' → R (.bool true) w') : cl Tryd.prog 3 #[.int .i64 n, .slice A len c] w R := by
  refine C.l09_DiskPlays ?_
  unfold F.l09_DiskPlays
  refine awake fun w1 hf1 => ?_
  simp only [bx_eq, mm_eq, nc_eq, cnd_eq, bcond_true, bcond_false, pk_eq, pk_int, ex_eq, ldc_some, un_not, un_neg, mn_eq, mx_eq, bin_add, bin_sub, bin_mul, bin_lss, bin_leq, bin_gtr, bin_geq, bin_eql, bin_neq, bin_peq, bin_pne, bin_beq, bin_bne, bin_leqn, bin_lnen, bin_seq, bin_sne, bin_sge, bin_slt, rdc_cells, mapEs_some, frz_none, Nat.zero_add, Nat.add_zero, List.getElem?_toArray, List.getElem?_cons_zero, List.getElem?_cons_succ, Option.isNone_some, Option.isNone_none, Bool.not_true, Bool.not_false, ite_true, ite_false, Bool.false_eq_true, true_and, and_true, forall_const, false_implies, reduceCtorEq, Bool.true_eq_false, Nat.reduceAdd, Nat.reduceMul, Nat.reduceLT, Nat.reduceSub, Int.reduceEq, Int.reduceLT, decide_true, decide_false, List.setIfInBounds_toArray, List.set_cons_zero, List.set_cons_succ, List.size_toArray, List.length_cons, List.length_nil, frz00, one_int, one_bool, one_ptr, one_str, one_slice, one_map, one_func, one_nil, one_niliface, size_put, size_alloc, put_same, st1_put, bsc_empty, List.nil_append, List.append_nil, List.map_cons, List.map_nil, cells_ptr, cells_str, cells_int, cells_bool, cells_slice, cells_agg, cells_map, fillB_one, fillB_nil, bdc]
  refine cl.mono (new_both (N := w.heap.size) (n := n) hf1.1) fun v w2 ⟨v16, e, hv, h6⟩ => ?_
  subst hv
  simp only [ex_eq, List.getElem?_toArray, List.getElem?_cons_zero, List.getElem?_cons_succ, ldc_some]
  refine cl.mono h6 fun u w3 ⟨v21, hu, hf3, hP3⟩ => ?_
  subst hu
  simp only [ex_eq, List.getElem?_toArray, List.getElem?_cons_zero, List.getElem?_cons_succ, ldc_some]
  have hfw3 : Fr w.heap.size No w w3 := hf1.trans (hf3.no hf1.1)
  refine ⟨fun s z => z = w3, ?_, ?_⟩
  · simp only [bx_eq, mm_eq, nc_eq, cnd_eq, bcond_true, bcond_false, pk_eq, pk_int, ex_eq, ldc_some, un_not, un_neg, mn_eq, mx_eq, bin_add, bin_sub, bin_mul, bin_lss, bin_leq, bin_gtr, bin_geq, bin_eql, bin_neq, bin_peq, bin_pne, bin_beq, bin_bne, bin_leqn, bin_lnen, bin_seq, bin_sne, bin_sge, bin_slt, rdc_cells, mapEs_some, frz_none, Nat.zero_add, Nat.add_zero, List.getElem?_toArray, List.getElem?_cons_zero, List.getElem?_cons_succ, Option.isNone_some, Option.isNone_none, Bool.not_true, Bool.not_false, ite_true, ite_false, Bool.false_eq_true, true_and, and_true, forall_const, false_implies, reduceCtorEq, Bool.true_eq_false, Nat.reduceAdd, Nat.reduceMul, Nat.reduceLT, Nat.reduceSub, Int.reduceEq, Int.reduceLT, decide_true, decide_false, List.setIfInBounds_toArray, List.set_cons_zero, List.set_cons_succ, List.size_toArray, List.length_cons, List.length_nil, frz00, one_int, one_bool, one_ptr, one_str, one_slice, one_map, one_func, one_nil, one_niliface, size_put, size_alloc, put_same, st1_put, bsc_empty, List.nil_append, List.append_nil, List.map_cons, List.map_nil, cells_ptr, cells_str, cells_int, cells_bool, cells_slice, cells_agg, cells_map, fillB_one, fillB_nil, bdc]
    rcases hP3 with ⟨rfl, rfl, _⟩ | ⟨d, D, x, X, rfl, rfl, _⟩
    · simp only [T.ty_24, T.ty_28, T.ty_4, T.ln_22, T.ia_22, T.ld_36, T.al_36, T.st_36, T.fa_36_3, T.ld_31, T.ln_31, T.sl_31, T.st_31, T.fa_36_1, T.ld_9, T.fa_36_2, bx_eq, mm_eq, nc_eq, cnd_eq, bcond_true, bcond_false, pk_eq, pk_int, ex_eq, ldc_some, un_not, un_neg, mn_eq, mx_eq, bin_add, bin_sub, bin_mul, bin_lss, bin_leq, bin_gtr, bin_geq, bin_eql, bin_neq, bin_peq, bin_pne, bin_beq, bin_bne, bin_leqn, bin_lnen, bin_seq, bin_sne, bin_sge, bin_slt, rdc_cells, mapEs_some, frz_none, Nat.zero_add, Nat.add_zero, List.getElem?_toArray, List.getElem?_cons_zero, List.getElem?_cons_succ, Option.isNone_some, Option.isNone_none, Bool.not_true, Bool.not_false, ite_true, ite_false, Bool.false_eq_true, true_and, and_true, forall_const, false_implies, reduceCtorEq, Bool.true_eq_false, Nat.reduceAdd, Nat.reduceMul, Nat.reduceLT, Nat.reduceSub, Int.reduceEq, Int.reduceLT, decide_true, decide_false, List.setIfInBounds_toArray, List.set_cons_zero, List.set_cons_succ, List.size_toArray, List.length_cons, List.length_nil, frz00, one_int, one_bool, one_ptr, one_str, one_slice, one_map, one_func, one_nil, one_niliface, size_put, size_alloc, put_same, st1_put, bsc_empty, List.nil_append, List.append_nil, List.map_cons, List.map_nil, cells_ptr, cells_str, cells_int, cells_bool, cells_slice, cells_agg, cells_map, fillB_one, fillB_nil, bdc]
      exact trivial
    · simp only [T.ty_24, T.ty_28, T.ty_4, T.ln_22, T.ia_22, T.ld_36, T.al_36, T.st_36, T.fa_36_3, T.ld_31, T.ln_31, T.sl_31, T.st_31, T.fa_36_1, T.ld_9, T.fa_36_2, bx_eq, mm_eq, nc_eq, cnd_eq, bcond_true, bcond_false, pk_eq, pk_int, ex_eq, ldc_some, un_not, un_neg, mn_eq, mx_eq, bin_add, bin_sub, bin_mul, bin_lss, bin_leq, bin_gtr, bin_geq, bin_eql, bin_neq, bin_peq, bin_pne, bin_beq, bin_bne, bin_leqn, bin_lnen, bin_seq, bin_sne, bin_sge, bin_slt, rdc_cells, mapEs_some, frz_none, Nat.zero_add, Nat.add_zero, List.getElem?_toArray, List.getElem?_cons_zero, List.getElem?_cons_succ, Option.isNone_some, Option.isNone_none, Bool.not_true, Bool.not_false, ite_true, ite_false, Bool.false_eq_true, true_and, and_true, forall_const, false_implies, reduceCtorEq, Bool.true_eq_false, Nat.reduceAdd, Nat.reduceMul, Nat.reduceLT, Nat.reduceSub, Int.reduceEq, Int.reduceLT, decide_true, decide_false, List.setIfInBounds_toArray, List.set_cons_zero, List.set_cons_succ, List.size_toArray, List.length_cons, List.length_nil, frz00, one_int, one_bool, one_ptr, one_str, one_slice, one_map, one_func, one_nil, one_niliface, size_put, size_alloc, put_same, st1_put, bsc_empty, List.nil_append, List.append_nil, List.map_cons, List.map_nil, cells_ptr, cells_str, cells_int, cells_bool, cells_slice, cells_agg, cells_map, fillB_one, fillB_nil, bdc]
      exact trivial
  rintro g1 z rfl
  simp only [T.ln_22]
  refine ⟨fun s u => ∃ i : Nat, s = [.int .i64 i] ∧ i ≤ len ∧ Fr w.heap.size No w u ∧ Pair w.heap.size u v16 v21, fun s _ => match s with | [.int _ i] => (len - i).toNat | _ => 0, ⟨0, rfl, Nat.zero_le _, hfw3, hP3⟩, ?_⟩
  rintro g u ⟨i, hg, hi, hf, hP⟩
  simp only [List.map_cons, List.map_nil, List.cons.injEq, and_true] at hg
  simp only [hg, bx_eq, mm_eq, nc_eq, cnd_eq, bcond_true, bcond_false, pk_eq, pk_int, ex_eq, ldc_some, un_not, un_neg, mn_eq, mx_eq, bin_add, bin_sub, bin_mul, bin_lss, bin_leq, bin_gtr, bin_geq, bin_eql, bin_neq, bin_peq, bin_pne, bin_beq, bin_bne, bin_leqn, bin_lnen, bin_seq, bin_sne, bin_sge, bin_slt, rdc_cells, mapEs_some, frz_none, Nat.zero_add, Nat.add_zero, List.getElem?_toArray, List.getElem?_cons_zero, List.getElem?_cons_succ, Option.isNone_some, Option.isNone_none, Bool.not_true, Bool.not_false, ite_true, ite_false, Bool.false_eq_true, true_and, and_true, forall_const, false_implies, reduceCtorEq, Bool.true_eq_false, Nat.reduceAdd, Nat.reduceMul, Nat.reduceLT, Nat.reduceSub, Int.reduceEq, Int.reduceLT, decide_true, decide_false, List.setIfInBounds_toArray, List.set_cons_zero, List.set_cons_succ, List.size_toArray, List.length_cons, List.length_nil, frz00, one_int, one_bool, one_ptr, one_str, one_slice, one_map, one_func, one_nil, one_niliface, size_put, size_alloc, put_same, st1_put, bsc_empty, List.nil_append, List.append_nil, List.map_cons, List.map_nil, cells_ptr, cells_str, cells_int, cells_bool, cells_slice, cells_agg, cells_map, fillB_one, fillB_nil, bdc]
  rw [bcond_dec]
  refine ⟨fun hlt => ?_, fun _ => hR u hf⟩
  have hlt : i < len := by omega
  obtain ⟨b, o, op, pv, kv, rfl, hbN, hrd, hop⟩ := hs i hlt
  have hrdu : rdn u.heap[b]? (o + i * 7) 7 = some #[.int .u8 op.k, .string op.a, .string op.b, pv, .int .i64 op.n, .bool op.done, kv] := by rw [hf.2.1 b hbN no_not]; exact hrd
  have hopu := hop.old hf
  simp only [T.ia_22, T.ld_36, T.al_36, T.st_36, Int.toNat_natCast, hrdu]
  refine ⟨by omega, by omega, ?_⟩
  simp only [ldn_some']
  generalize hu1 : u.alloc (.cells #[.int .u8 0, .string ⟨#[]⟩, .string ⟨#[]⟩, .slice none 0 0, .int .i64 0, .bool false, .slice none 0 0] 36) = u1
  have hfu1 : Fr u.heap.size No u u1 := by rw [← hu1]; exact Fr.refl.alloc (Nat.le_refl _)
  have hat1 : u1.heap[u.heap.size]? = some (.cells #[.int .u8 0, .string ⟨#[]⟩, .string ⟨#[]⟩, .slice none 0 0, .int .i64 0, .bool false, .slice none 0 0] 36 (0, 0)) := by rw [← hu1]; exact alloc_at rfl
  obtain ⟨pe, hpp⟩ := hop.hp
  obtain ⟨ke, hkk⟩ := hop.hk
  obtain ⟨PA, pc, rfl, hpc⟩ := hpp.shape
  obtain ⟨KA, kc, rfl, hkc⟩ := hkk.shape
  rw [stN_at' hat1]
  refine ⟨rfl, by
    intro q hq
    simp only [List.mem_toArray, List.mem_cons, List.not_mem_nil, or_false] at hq
    rcases hq with rfl | rfl | rfl | rfl | rfl | rfl | rfl <;> rfl, Nat.le_refl _, frz00 _ _, ?_⟩
  rw [splice_all (by rfl)]
  have hl1 := lt_at hat1
  generalize hu2 : u1.put u.heap.size (.cells #[.int .u8 op.k, .string op.a, .string op.b, .slice PA op.p.length pc, .int .i64 op.n, .bool op.done, .slice KA op.keep.length kc] 36 (0, 0)) = u2
  have hfu2 : Fr u.heap.size No u u2 := by rw [← hu2]; exact hfu1.put (.inr (Nat.le_refl _))
  have hat2 : u2.heap[u.heap.size]? = some (.cells #[.int .u8 op.k, .string op.a, .string op.b, .slice PA op.p.length pc, .int .i64 op.n, .bool op.done, .slice KA op.keep.length kc] 36 (0, 0)) := by rw [← hu2]; exact put_same hl1
  rw [bcond_dec]
  refine ⟨fun _ => hR u2 (hf.trans (hfu2.no hf.1)), fun h200 => ?_⟩
  have hk : (if (2000 : Int) < (op.p.length : Nat) then (2000 : Int) else (op.p.length : Nat)) = ((min op.p.length 2000 : Nat) : Int) := by split <;> omega
  have hkl : min op.p.length 2000 ≤ pc := by omega
  simp only [T.ty_24, T.ty_28, T.ty_4, T.ln_22, T.ia_22, T.ld_36, T.al_36, T.st_36, T.fa_36_3, T.ld_31, T.ln_31, T.sl_31, T.st_31, T.fa_36_1, T.ld_9, T.fa_36_2, bx_eq, mm_eq, nc_eq, cnd_eq, bcond_true, bcond_false, pk_eq, pk_int, ex_eq, ldc_some, un_not, un_neg, mn_eq, mx_eq, bin_add, bin_sub, bin_mul, bin_lss, bin_leq, bin_gtr, bin_geq, bin_eql, bin_neq, bin_peq, bin_pne, bin_beq, bin_bne, bin_leqn, bin_lnen, bin_seq, bin_sne, bin_sge, bin_slt, rdc_cells, mapEs_some, frz_none, Nat.zero_add, Nat.add_zero, List.getElem?_toArray, List.getElem?_cons_zero, List.getElem?_cons_succ, Option.isNone_some, Option.isNone_none, Bool.not_true, Bool.not_false, ite_true, ite_false, Bool.false_eq_true, true_and, and_true, forall_const, false_implies, reduceCtorEq, Bool.true_eq_false, Nat.reduceAdd, Nat.reduceMul, Nat.reduceLT, Nat.reduceSub, Int.reduceEq, Int.reduceLT, decide_true, decide_false, List.setIfInBounds_toArray, List.set_cons_zero, List.set_cons_succ, List.size_toArray, List.length_cons, List.length_nil, frz00, one_int, one_bool, one_ptr, one_str, one_slice, one_map, one_func, one_nil, one_niliface, size_put, size_alloc, put_same, st1_put, bsc_empty, List.nil_append, List.append_nil, List.map_cons, List.map_nil, cells_ptr, cells_str, cells_int, cells_bool, cells_slice, cells_agg, cells_map, fillB_one, fillB_nil, bdc, hat2, hk, slc_pre hkl, Nat.sub_zero]
  rw [add_zero0 hpp.spot, st1_at' hat2]
  refine ⟨rfl, by simp, frz00 _ _, ?_⟩
  have hl2 := lt_at hat2
  generalize hu3 : u2.put u.heap.size (.cells (Array.setIfInBounds #[.int .u8 op.k, .string op.a, .string op.b, .slice PA op.p.length pc, .int .i64 op.n, .bool op.done, .slice KA op.keep.length kc] 3 (.slice PA (min op.p.length 2000) pc)) 36 (0, 0)) = u3
  have hfu3 : Fr u.heap.size No u u3 := by rw [← hu3]; exact hfu2.put (.inr (Nat.le_refl _))
  have hat3 : u3.heap[u.heap.size]? = some (.cells #[.int .u8 op.k, .string op.a, .string op.b, .slice PA (min op.p.length 2000) pc, .int .i64 op.n, .bool op.done, .slice KA op.keep.length kc] 36 (0, 0)) := by rw [← hu3]; exact put_same hl2
  have hr3 : rdn u3.heap[u.heap.size]? 0 7 = some #[.int .u8 op.k, .string op.a, .string op.b, .slice PA (min op.p.length 2000) pc, .int .i64 op.n, .bool op.done, .slice KA op.keep.length kc] := by rw [hat3]; rfl
  rw [hr3, ldn_some']
  have hP3 := hP.young hfu3
  have hf3 : Fr w.heap.size No w u3 := hf.trans (hfu3.no hf.1)
  have hop3 := hop.old hf3
  have htk : (op.p.take (min op.p.length 2000)).length = min op.p.length 2000 := by rw [List.length_take]; omega
  have hopc : OpV w.heap.size u3 { op with p := op.p.take (min op.p.length 2000) } (.slice PA (min op.p.length 2000) pc) (.slice KA op.keep.length kc) := by
    refine ⟨?_, hop3.hk, hop3.sa, hop3.sb, ?_, hop3.sk, hop3.sn⟩
    · refine ⟨pe, ?_⟩
      have := Sl.take (old_sl hpp hf3) (k := min op.p.length 2000) (by omega)
      show Sl _ _ _ _ _ (op.p.take (min op.p.length 2000)).length ((op.p.take (min op.p.length 2000)).map _)
      rw [htk, List.map_take]; simpa using this
    · show (op.p.take (min op.p.length 2000)).length < _
      rw [htk]; omega
  refine call_ok (o := { op with p := op.p.take (min op.p.length 2000) }) hP3 hopc fun u4 hP4 hf4 hk4 => ?_
  have hat4 := hk4 _ _ hat3
  simp only [T.ty_24, T.ty_28, T.ty_4, T.ln_22, T.ia_22, T.ld_36, T.al_36, T.st_36, T.fa_36_3, T.ld_31, T.ln_31, T.sl_31, T.st_31, T.fa_36_1, T.ld_9, T.fa_36_2, bx_eq, mm_eq, nc_eq, cnd_eq, bcond_true, bcond_false, pk_eq, pk_int, ex_eq, ldc_some, un_not, un_neg, mn_eq, mx_eq, bin_add, bin_sub, bin_mul, bin_lss, bin_leq, bin_gtr, bin_geq, bin_eql, bin_neq, bin_peq, bin_pne, bin_beq, bin_bne, bin_leqn, bin_lnen, bin_seq, bin_sne, bin_sge, bin_slt, rdc_cells, mapEs_some, frz_none, Nat.zero_add, Nat.add_zero, List.getElem?_toArray, List.getElem?_cons_zero, List.getElem?_cons_succ, Option.isNone_some, Option.isNone_none, Bool.not_true, Bool.not_false, ite_true, ite_false, Bool.false_eq_true, true_and, and_true, forall_const, false_implies, reduceCtorEq, Bool.true_eq_false, Nat.reduceAdd, Nat.reduceMul, Nat.reduceLT, Nat.reduceSub, Int.reduceEq, Int.reduceLT, decide_true, decide_false, List.setIfInBounds_toArray, List.set_cons_zero, List.set_cons_succ, List.size_toArray, List.length_cons, List.length_nil, frz00, one_int, one_bool, one_ptr, one_str, one_slice, one_map, one_func, one_nil, one_niliface, size_put, size_alloc, put_same, st1_put, bsc_empty, List.nil_append, List.append_nil, List.map_cons, List.map_nil, cells_ptr, cells_str, cells_int, cells_bool, cells_slice, cells_agg, cells_map, fillB_one, fillB_nil, bdc, hat4]
  refine looks_ok hP4 hop.sa fun u5 hP5 hf5 => ?_
  have hat5 := hf5.at hat4 (lt_at hat4) no_not
  simp only [T.ty_24, T.ty_28, T.ty_4, T.ln_22, T.ia_22, T.ld_36, T.al_36, T.st_36, T.fa_36_3, T.ld_31, T.ln_31, T.sl_31, T.st_31, T.fa_36_1, T.ld_9, T.fa_36_2, bx_eq, mm_eq, nc_eq, cnd_eq, bcond_true, bcond_false, pk_eq, pk_int, ex_eq, ldc_some, un_not, un_neg, mn_eq, mx_eq, bin_add, bin_sub, bin_mul, bin_lss, bin_leq, bin_gtr, bin_geq, bin_eql, bin_neq, bin_peq, bin_pne, bin_beq, bin_bne, bin_leqn, bin_lnen, bin_seq, bin_sne, bin_sge, bin_slt, rdc_cells, mapEs_some, frz_none, Nat.zero_add, Nat.add_zero, List.getElem?_toArray, List.getElem?_cons_zero, List.getElem?_cons_succ, Option.isNone_some, Option.isNone_none, Bool.not_true, Bool.not_false, ite_true, ite_false, Bool.false_eq_true, true_and, and_true, forall_const, false_implies, reduceCtorEq, Bool.true_eq_false, Nat.reduceAdd, Nat.reduceMul, Nat.reduceLT, Nat.reduceSub, Int.reduceEq, Int.reduceLT, decide_true, decide_false, List.setIfInBounds_toArray, List.set_cons_zero, List.set_cons_succ, List.size_toArray, List.length_cons, List.length_nil, frz00, one_int, one_bool, one_ptr, one_str, one_slice, one_map, one_func, one_nil, one_niliface, size_put, size_alloc, put_same, st1_put, bsc_empty, List.nil_append, List.append_nil, List.map_cons, List.map_nil, cells_ptr, cells_str, cells_int, cells_bool, cells_slice, cells_agg, cells_map, fillB_one, fillB_nil, bdc, hat5]
  refine looks_ok hP5 hop.sb fun u6 hP6 hf6 => ?_
  simp only [bx_eq, mm_eq, nc_eq, cnd_eq, bcond_true, bcond_false, pk_eq, pk_int, ex_eq, ldc_some, un_not, un_neg, mn_eq, mx_eq, bin_add, bin_sub, bin_mul, bin_lss, bin_leq, bin_gtr, bin_geq, bin_eql, bin_neq, bin_peq, bin_pne, bin_beq, bin_bne, bin_leqn, bin_lnen, bin_seq, bin_sne, bin_sge, bin_slt, rdc_cells, mapEs_some, frz_none, Nat.zero_add, Nat.add_zero, List.getElem?_toArray, List.getElem?_cons_zero, List.getElem?_cons_succ, Option.isNone_some, Option.isNone_none, Bool.not_true, Bool.not_false, ite_true, ite_false, Bool.false_eq_true, true_and, and_true, forall_const, false_implies, reduceCtorEq, Bool.true_eq_false, Nat.reduceAdd, Nat.reduceMul, Nat.reduceLT, Nat.reduceSub, Int.reduceEq, Int.reduceLT, decide_true, decide_false, List.setIfInBounds_toArray, List.set_cons_zero, List.set_cons_succ, List.size_toArray, List.length_cons, List.length_nil, frz00, one_int, one_bool, one_ptr, one_str, one_slice, one_map, one_func, one_nil, one_niliface, size_put, size_alloc, put_same, st1_put, bsc_empty, List.nil_append, List.append_nil, List.map_cons, List.map_nil, cells_ptr, cells_str, cells_int, cells_bool, cells_slice, cells_agg, cells_map, fillB_one, fillB_nil, bdc]
  rw [IntWalk.i64_in _ (by omega)]
  have hf4' : Fr w.heap.size No w u4 := hf3.trans hf4
  have hf5' : Fr w.heap.size No w u5 := hf4'.trans (hf5.no hf4'.1)
  exact ⟨⟨i + 1, rfl, by omega, hf5'.trans (hf6.no hf5'.1), hP6⟩, by omega⟩
end Go.Proofs.YtppefblkmgihoaaDoor
