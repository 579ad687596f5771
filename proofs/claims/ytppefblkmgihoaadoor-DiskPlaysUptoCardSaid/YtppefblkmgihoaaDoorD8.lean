/- The chunks of a list of bytes, one by one. -/
import Derived.Test.YtppefblkmgihoaaDoorL2
import Derived.Test.YtppefblkmgihoaaDoorF1
set_option linter.unusedVariables false
set_option linter.unusedSimpArgs false
set_option maxRecDepth 10000
namespace Go.Proofs.YtppefblkmgihoaaDoor
open Go.Sh

theorem slc_from {n c k : Nat} {kd : IntKind} (hk : k ≤ n) (K : Nat → Nat → Nat → Prop) : slc (bnd n c (some (.int kd (k : Int))) none none) K = K k n c := by
  have : bnd n c (some (.int kd (k : Int))) none none = some (k, n, c) := by
    simp [bnd, hk]
  rw [this]; rfl
theorem slc_three {n c k h m : Nat} {k1 k2 k3 : IntKind} (h1 : k ≤ h) (h2 : h ≤ m) (h3 : m ≤ c) (K : Nat → Nat → Nat → Prop) : slc (bnd n c (some (.int k1 (k : Int))) (some (.int k2 (h : Int))) (some (.int k3 (m : Int)))) K = K k h m := by
  have : bnd n c (some (.int k1 (k : Int))) (some (.int k2 (h : Int))) (some (.int k3 (m : Int))) = some (k, h, m) := by
    simp [bnd, h1, h2, h3]
  rw [this]; rfl
theorem grown_fr {W W' : World} {row : Option Nat} (h : W.grownBy W' row) : Fr W.heap.size (fun b => row = some b) W W' := ⟨h.size, fun b hb hs => h.block b hb (fun e => hs e.symm), h.os, h.tape, h.output⟩
theorem keepsO {W W' : World} {S : Nat → Prop} (h : Fr W.heap.size S W W') (hS : ∀ b, S b → ∃ X e f, W.heap[b]? = some (.cells X e f)) : KeepsOthers W W' := by
  refine ⟨h.1, fun k o hk ho => ?_⟩
  refine h.at hk (lt_at hk) fun hs => ?_
  obtain ⟨X, e, f, hx⟩ := hS k hs
  rw [hk] at hx; cases hx; cases ho

def chunkV (b o n i : Nat) : Value := .slice (some ⟨b, o + 32 * i, none⟩) (min 32 (n - 32 * i)) (min 32 (n - 32 * i))
theorem chunk_seq {w : World} {bs bn : Nat} {A : Option Addr} {c n b o : Nat} (hA : 0 < n → A = some ⟨b, o, none⟩) (hn : n ≤ c) (hN : n < 2 ^ 62) (hs : w.heap[bs]? = some (.cells #[.slice A n c] 31 (0, 0))) (hn2 : w.heap[bn]? = some (.cells #[.int .i64 32] 3 (0, 0))) :
    SeqStopsK (Wd none) 7 Tryd.prog 59 #[ptr bs, ptr bn] (fun i : Fin ((n + 31) / 32) => #[chunkV b o n i]) (fun W W' => W'.heap[bs]? = W.heap[bs]? ∧ W'.heap[bn]? = W.heap[bn]?) (fun ys => ys = List.finRange _) (fun _ => True) ((n + 31) / 32) w := by
  intro l J Jx W hW hJ hJx hY h0
  have hs := (hW.block bs (lt_at hs)).trans hs
  have hn2 := (hW.block bn (lt_at hn2)).trans hn2
  have main : cl Tryd.prog 59 #[.func (.yield l) #[] #[], ptr bs, ptr bn] W (fun v W' => (∃ xs, xs = List.finRange ((n + 31) / 32) ∧ J xs W') ∨ (∃ pre, True ∧ Jx pre W')) := by
    refine C.slices_Chunk_byte_byte_1 ?_
    unfold F.slices_Chunk_byte_byte_1
    refine ⟨fun s u => ∃ k : Nat, s = [.int .i64 (32 * k : Nat)] ∧ k ≤ (n + 31) / 32 ∧ u.heap[bs]? = some (.cells #[.slice A n c] 31 (0, 0)) ∧ u.heap[bn]? = some (.cells #[.int .i64 32] 3 (0, 0)) ∧ J ((List.finRange ((n + 31) / 32)).take k) u, fun s _ => match s with | [.int _ i] => (n + 32 - i).toNat | _ => 0, ⟨0, rfl, Nat.zero_le _, hs, hn2, by simpa using h0⟩, ?_⟩
    rintro g u ⟨k, hg, hk, h1, h2, hJk⟩
    simp only [List.map_cons, List.map_nil, List.cons.injEq, and_true] at hg
    simp only [hg, T.ld_31, T.ln_31, T.ld_3, T.sl_31, bx_eq, mm_eq, nc_eq, cnd_eq, bcond_true, bcond_false, pk_eq, pk_int, ex_eq, ldc_some, un_not, un_neg, mn_eq, mx_eq, bin_add, bin_sub, bin_mul, bin_lss, bin_leq, bin_gtr, bin_geq, bin_eql, bin_neq, bin_peq, bin_pne, bin_beq, bin_bne, bin_leqn, bin_lnen, bin_seq, bin_sne, bin_sge, bin_slt, rdc_cells, mapEs_some, frz_none, Nat.zero_add, Nat.add_zero, List.getElem?_toArray, List.getElem?_cons_zero, List.getElem?_cons_succ, Option.isNone_some, Option.isNone_none, Bool.not_true, Bool.not_false, ite_true, ite_false, Bool.false_eq_true, true_and, and_true, forall_const, false_implies, reduceCtorEq, Bool.true_eq_false, Nat.reduceAdd, Nat.reduceMul, Nat.reduceLT, Nat.reduceSub, Int.reduceEq, Int.reduceLT, decide_true, decide_false, List.setIfInBounds_toArray, List.set_cons_zero, List.set_cons_succ, List.size_toArray, List.length_cons, List.length_nil, frz00, one_int, one_bool, one_ptr, one_str, one_slice, one_map, one_func, one_nil, one_niliface, size_put, size_alloc, put_same, st1_put, bsc_empty, List.nil_append, List.append_nil, List.map_cons, List.map_nil, cells_ptr, cells_str, cells_int, cells_bool, cells_slice, cells_agg, cells_map, fillB_one, fillB_nil, bdc, h1, ptr]
    rw [bcond_dec]
    refine ⟨fun hlt => ?_, fun hge => ?_⟩
    · have hlt : 32 * k < n := by omega
      have hkN : k < (n + 31) / 32 := by omega
      obtain rfl := hA (by omega)
      refine ⟨fun z => z.heap[bs]? = some (.cells #[.slice (some ⟨b, o, none⟩) n c] 31 (0, 0)) ∧ z.heap[bn]? = some (.cells #[.int .i64 32] 3 (0, 0)), ⟨h1, h2⟩, ?_⟩
      refine opS_of (.int .i64 32) (fun z h0 K hK => by simp only [T.ld_31, T.ln_31, T.ld_3, T.sl_31, bx_eq, mm_eq, nc_eq, cnd_eq, bcond_true, bcond_false, pk_eq, pk_int, ex_eq, ldc_some, un_not, un_neg, mn_eq, mx_eq, bin_add, bin_sub, bin_mul, bin_lss, bin_leq, bin_gtr, bin_geq, bin_eql, bin_neq, bin_peq, bin_pne, bin_beq, bin_bne, bin_leqn, bin_lnen, bin_seq, bin_sne, bin_sge, bin_slt, rdc_cells, mapEs_some, frz_none, Nat.zero_add, Nat.add_zero, List.getElem?_toArray, List.getElem?_cons_zero, List.getElem?_cons_succ, Option.isNone_some, Option.isNone_none, Bool.not_true, Bool.not_false, ite_true, ite_false, Bool.false_eq_true, true_and, and_true, forall_const, false_implies, reduceCtorEq, Bool.true_eq_false, Nat.reduceAdd, Nat.reduceMul, Nat.reduceLT, Nat.reduceSub, Int.reduceEq, Int.reduceLT, decide_true, decide_false, List.setIfInBounds_toArray, List.set_cons_zero, List.set_cons_succ, List.size_toArray, List.length_cons, List.length_nil, frz00, one_int, one_bool, one_ptr, one_str, one_slice, one_map, one_func, one_nil, one_niliface, size_put, size_alloc, put_same, st1_put, bsc_empty, List.nil_append, List.append_nil, List.map_cons, List.map_nil, cells_ptr, cells_str, cells_int, cells_bool, cells_slice, cells_agg, cells_map, fillB_one, fillB_nil, bdc, h0.2]; exact hK) ?_
      refine opS_of (.slice (some ⟨b, o, none⟩) n c) (fun z h0 K hK => by simp only [T.ld_31, T.ln_31, T.ld_3, T.sl_31, bx_eq, mm_eq, nc_eq, cnd_eq, bcond_true, bcond_false, pk_eq, pk_int, ex_eq, ldc_some, un_not, un_neg, mn_eq, mx_eq, bin_add, bin_sub, bin_mul, bin_lss, bin_leq, bin_gtr, bin_geq, bin_eql, bin_neq, bin_peq, bin_pne, bin_beq, bin_bne, bin_leqn, bin_lnen, bin_seq, bin_sne, bin_sge, bin_slt, rdc_cells, mapEs_some, frz_none, Nat.zero_add, Nat.add_zero, List.getElem?_toArray, List.getElem?_cons_zero, List.getElem?_cons_succ, Option.isNone_some, Option.isNone_none, Bool.not_true, Bool.not_false, ite_true, ite_false, Bool.false_eq_true, true_and, and_true, forall_const, false_implies, reduceCtorEq, Bool.true_eq_false, Nat.reduceAdd, Nat.reduceMul, Nat.reduceLT, Nat.reduceSub, Int.reduceEq, Int.reduceLT, decide_true, decide_false, List.setIfInBounds_toArray, List.set_cons_zero, List.set_cons_succ, List.size_toArray, List.length_cons, List.length_nil, frz00, one_int, one_bool, one_ptr, one_str, one_slice, one_map, one_func, one_nil, one_niliface, size_put, size_alloc, put_same, st1_put, bsc_empty, List.nil_append, List.append_nil, List.map_cons, List.map_nil, cells_ptr, cells_str, cells_int, cells_bool, cells_slice, cells_agg, cells_map, fillB_one, fillB_nil, bdc, h0.1]; exact hK) ?_
      have hmin : (if (((n - 32 * k : Nat) : Int)) < 32 then (((n - 32 * k : Nat) : Int)) else 32) = ((min 32 (n - 32 * k) : Nat) : Int) := by split <;> omega
      have hcne : ¬ c = 32 * k := by omega
      refine opS_of (.slice (some ⟨b, o + 32 * k * 1, none⟩) (n - 32 * k) (c - 32 * k)) (fun z h0 K hK => by
        simp only [T.ld_31, T.ln_31, T.ld_3, T.sl_31, slc_from (Nat.le_of_lt hlt), if_neg hcne, Option.map_some, add_mk]; exact hK) ?_
      refine opS_of (.int .i64 ((n - 32 * k : Nat) : Int)) (fun z h0 K hK => by simp only [T.ld_31, T.ln_31, T.ld_3, T.sl_31]; exact hK) ?_
      refine opS_of (.int .i64 ((min 32 (n - 32 * k) : Nat) : Int)) (fun z h0 K hK => by rw [mn_eq, hmin]; exact hK) ?_
      have e1 : IntKind.i64.wrap (((32 * k : Nat) : Int) + ((min 32 (n - 32 * k) : Nat) : Int)) = ((32 * k + min 32 (n - 32 * k) : Nat) : Int) := by rw [IntWalk.i64_in _ (by omega)]; omega
      simp only [T.ld_31, T.ln_31, T.ld_3, T.sl_31, bx_eq, mm_eq, nc_eq, cnd_eq, bcond_true, bcond_false, pk_eq, pk_int, ex_eq, ldc_some, un_not, un_neg, mn_eq, mx_eq, bin_add, bin_sub, bin_mul, bin_lss, bin_leq, bin_gtr, bin_geq, bin_eql, bin_neq, bin_peq, bin_pne, bin_beq, bin_bne, bin_leqn, bin_lnen, bin_seq, bin_sne, bin_sge, bin_slt, rdc_cells, mapEs_some, frz_none, Nat.zero_add, Nat.add_zero, List.getElem?_toArray, List.getElem?_cons_zero, List.getElem?_cons_succ, Option.isNone_some, Option.isNone_none, Bool.not_true, Bool.not_false, ite_true, ite_false, Bool.false_eq_true, true_and, and_true, forall_const, false_implies, reduceCtorEq, Bool.true_eq_false, Nat.reduceAdd, Nat.reduceMul, Nat.reduceLT, Nat.reduceSub, Int.reduceEq, Int.reduceLT, decide_true, decide_false, List.setIfInBounds_toArray, List.set_cons_zero, List.set_cons_succ, List.size_toArray, List.length_cons, List.length_nil, frz00, one_int, one_bool, one_ptr, one_str, one_slice, one_map, one_func, one_nil, one_niliface, size_put, size_alloc, put_same, st1_put, bsc_empty, List.nil_append, List.append_nil, List.map_cons, List.map_nil, cells_ptr, cells_str, cells_int, cells_bool, cells_slice, cells_agg, cells_map, fillB_one, fillB_nil, bdc, drew_heap, h1, e1]
      rw [slc_three (by omega) (Nat.le_refl _) (by omega)]
      rw [if_neg (by omega), Option.map_some, add_mk, Nat.add_sub_cancel_left, Nat.mul_one]
      have hJd : J ((List.finRange ((n + 31) / 32)).take k) u.drew := hJ _ u u.drew none hJk (grownBy_drew _ _) (fun r e => by cases e)
      have hlen : ((List.finRange ((n + 31) / 32)).take k).length = k := by simp; omega
      have htake : (List.finRange ((n + 31) / 32)).take k ++ [⟨k, hkN⟩] = (List.finRange ((n + 31) / 32)).take (k + 1) := by
        rw [List.take_succ_eq_append_getElem (by simpa using hkN)]; simp
      obtain ⟨fn, tm, as1, bd1, hr, hrd⟩ := hY _ ⟨k, hkN⟩ u.drew hJd (by rw [hlen]; exact hkN)
      refine cf_yield (m := 7 - 1) ⟨fn, tm, as1, bd1, hr, hrd.mono ?_⟩
      rintro e w' (⟨rfl, hJ2, hK1, hK2⟩ | ⟨rfl, hJ2⟩)
      · refine ⟨_, rfl, ?_⟩
        have hb1 : w'.heap[bs]? = some (.cells #[.slice (some ⟨b, o, none⟩) n c] 31 (0, 0)) := hK1.trans h1
        have hb2 : w'.heap[bn]? = some (.cells #[.int .i64 32] 3 (0, 0)) := hK2.trans h2
        simp only [T.ld_31, T.ln_31, T.ld_3, T.sl_31, bx_eq, mm_eq, nc_eq, cnd_eq, bcond_true, bcond_false, pk_eq, pk_int, ex_eq, ldc_some, un_not, un_neg, mn_eq, mx_eq, bin_add, bin_sub, bin_mul, bin_lss, bin_leq, bin_gtr, bin_geq, bin_eql, bin_neq, bin_peq, bin_pne, bin_beq, bin_bne, bin_leqn, bin_lnen, bin_seq, bin_sne, bin_sge, bin_slt, rdc_cells, mapEs_some, frz_none, Nat.zero_add, Nat.add_zero, List.getElem?_toArray, List.getElem?_cons_zero, List.getElem?_cons_succ, Option.isNone_some, Option.isNone_none, Bool.not_true, Bool.not_false, ite_true, ite_false, Bool.false_eq_true, true_and, and_true, forall_const, false_implies, reduceCtorEq, Bool.true_eq_false, Nat.reduceAdd, Nat.reduceMul, Nat.reduceLT, Nat.reduceSub, Int.reduceEq, Int.reduceLT, decide_true, decide_false, List.setIfInBounds_toArray, List.set_cons_zero, List.set_cons_succ, List.size_toArray, List.length_cons, List.length_nil, frz00, one_int, one_bool, one_ptr, one_str, one_slice, one_map, one_func, one_nil, one_niliface, size_put, size_alloc, put_same, st1_put, bsc_empty, List.nil_append, List.append_nil, List.map_cons, List.map_nil, cells_ptr, cells_str, cells_int, cells_bool, cells_slice, cells_agg, cells_map, fillB_one, fillB_nil, bdc, hb2]
        have e2 : IntKind.i64.wrap (((32 * k : Nat) : Int) + 32) = ((32 * (k + 1) : Nat) : Int) := by rw [IntWalk.i64_in _ (by omega)]; omega
        rw [e2]
        refine ⟨⟨k + 1, rfl, by omega, hb1, by rw [← htake]; exact hJ2⟩, by omega⟩
      · refine ⟨_, rfl, ?_⟩
        simp only [bx_eq, mm_eq, nc_eq, cnd_eq, bcond_true, bcond_false, pk_eq, pk_int, ex_eq, ldc_some, un_not, un_neg, mn_eq, mx_eq, bin_add, bin_sub, bin_mul, bin_lss, bin_leq, bin_gtr, bin_geq, bin_eql, bin_neq, bin_peq, bin_pne, bin_beq, bin_bne, bin_leqn, bin_lnen, bin_seq, bin_sne, bin_sge, bin_slt, rdc_cells, mapEs_some, frz_none, Nat.zero_add, Nat.add_zero, List.getElem?_toArray, List.getElem?_cons_zero, List.getElem?_cons_succ, Option.isNone_some, Option.isNone_none, Bool.not_true, Bool.not_false, ite_true, ite_false, Bool.false_eq_true, true_and, and_true, forall_const, false_implies, reduceCtorEq, Bool.true_eq_false, Nat.reduceAdd, Nat.reduceMul, Nat.reduceLT, Nat.reduceSub, Int.reduceEq, Int.reduceLT, decide_true, decide_false, List.setIfInBounds_toArray, List.set_cons_zero, List.set_cons_succ, List.size_toArray, List.length_cons, List.length_nil, frz00, one_int, one_bool, one_ptr, one_str, one_slice, one_map, one_func, one_nil, one_niliface, size_put, size_alloc, put_same, st1_put, bsc_empty, List.nil_append, List.append_nil, List.map_cons, List.map_nil, cells_ptr, cells_str, cells_int, cells_bool, cells_slice, cells_agg, cells_map, fillB_one, fillB_nil, bdc]
        exact .inr ⟨_, hJ2⟩
    · have hk2 : k = (n + 31) / 32 := by omega
      subst hk2
      rw [List.take_of_length_le (by simp)] at hJk
      exact .inl ⟨_, rfl, hJk⟩
  refine (callsIn_of_cl main).mono ?_
  rintro e w' ⟨v, rfl, h⟩
  exact ⟨⟨v, rfl⟩, h⟩
end Go.Proofs.YtppefblkmgihoaaDoor
