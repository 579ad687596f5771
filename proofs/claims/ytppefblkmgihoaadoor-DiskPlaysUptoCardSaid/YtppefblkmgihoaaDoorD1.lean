/- The disk: names, and what looks at a disk. -/
import Derived.Test.YtppefblkmgihoaaDoorF0
import Derived.Test.YtppefblkmgihoaaDoorMap
set_option linter.unusedVariables false
set_option linter.unusedSimpArgs false
namespace Go.Proofs.YtppefblkmgihoaaDoor
open Go.Sh

theorem blist {a b : Bool} (h : a = true ↔ b = true) : [Value.bool a] = [Value.bool b] := by rw [Bool.eq_iff_iff.2 h]
def okByte (b : UInt8) : Bool := (decide (97 ≤ b.toNat) && decide (b.toNat ≤ 122)) || (decide (48 ≤ b.toNat) && decide (b.toNat ≤ 57))
/-- Is it a file's name? -/
def isName (s : ByteArray) : Bool := s.data.toList.all okByte && decide (1 ≤ s.size) && decide (s.size ≤ 16)

theorem disk_named (s : ByteArray) (w : World) (hs : s.size < 2 ^ 62) {R : Value → World → Prop} (h : R (.bool (isName s)) w) : cl Tryd.prog 53 #[.string s] w R := by
  refine C.disk_named ?_
  unfold F.disk_named
  simp only [T.ln_9, T.ix_9, bx_eq, mm_eq, nc_eq, cnd_eq, bcond_true, bcond_false, pk_eq, pk_int, ex_eq, ldc_some, un_not, un_neg, mn_eq, mx_eq, bin_add, bin_sub, bin_mul, bin_lss, bin_leq, bin_gtr, bin_geq, bin_eql, bin_neq, bin_peq, bin_pne, bin_beq, bin_bne, bin_leqn, bin_lnen, bin_seq, bin_sne, bin_sge, bin_slt, rdc_cells, mapEs_some, frz_none, Nat.zero_add, Nat.add_zero, List.getElem?_toArray, List.getElem?_cons_zero, List.getElem?_cons_succ, Option.isNone_some, Option.isNone_none, Bool.not_true, Bool.not_false, ite_true, ite_false, Bool.false_eq_true, true_and, and_true, forall_const, false_implies, reduceCtorEq, Bool.true_eq_false, Nat.reduceAdd, Nat.reduceMul, Nat.reduceLT, Nat.reduceSub, Int.reduceEq, Int.reduceLT, decide_true, decide_false, List.setIfInBounds_toArray, List.set_cons_zero, List.set_cons_succ, List.size_toArray, List.length_cons, List.length_nil, frz00, one_int, one_bool, one_ptr, one_str, one_slice, one_map, one_func, one_nil, one_niliface, size_put, size_alloc, put_same, st1_put, bsc_empty, List.nil_append, List.append_nil, List.map_cons, List.map_nil, cells_ptr, cells_str, cells_int, cells_bool, cells_slice, cells_agg, cells_map, fillB_one, fillB_nil, bdc]
  refine ⟨fun l w' => ∃ i : Nat, l = [.int .i64 i] ∧ i ≤ s.size ∧ w' = w ∧ ∀ j (hj : j < s.data.size), j < i → okByte s.data[j] = true, fun l _ => match l with | [.int _ i] => (s.size - i).toNat | _ => 0, ⟨0, rfl, Nat.zero_le _, rfl, fun j _ h => absurd h (Nat.not_lt_zero _)⟩, ?_⟩
  rintro g w' ⟨i, hg, hi, rfl, hok⟩
  simp only [List.map_cons, List.map_nil, List.cons.injEq, and_true] at hg
  simp only [hg, T.ln_9, T.ix_9, bx_eq, mm_eq, nc_eq, cnd_eq, bcond_true, bcond_false, pk_eq, pk_int, ex_eq, ldc_some, un_not, un_neg, mn_eq, mx_eq, bin_add, bin_sub, bin_mul, bin_lss, bin_leq, bin_gtr, bin_geq, bin_eql, bin_neq, bin_peq, bin_pne, bin_beq, bin_bne, bin_leqn, bin_lnen, bin_seq, bin_sne, bin_sge, bin_slt, rdc_cells, mapEs_some, frz_none, Nat.zero_add, Nat.add_zero, List.getElem?_toArray, List.getElem?_cons_zero, List.getElem?_cons_succ, Option.isNone_some, Option.isNone_none, Bool.not_true, Bool.not_false, ite_true, ite_false, Bool.false_eq_true, true_and, and_true, forall_const, false_implies, reduceCtorEq, Bool.true_eq_false, Nat.reduceAdd, Nat.reduceMul, Nat.reduceLT, Nat.reduceSub, Int.reduceEq, Int.reduceLT, decide_true, decide_false, List.setIfInBounds_toArray, List.set_cons_zero, List.set_cons_succ, List.size_toArray, List.length_cons, List.length_nil, frz00, one_int, one_bool, one_ptr, one_str, one_slice, one_map, one_func, one_nil, one_niliface, size_put, size_alloc, put_same, st1_put, bsc_empty, List.nil_append, List.append_nil, List.map_cons, List.map_nil, cells_ptr, cells_str, cells_int, cells_bool, cells_slice, cells_agg, cells_map, fillB_one, fillB_nil, bdc, List.map_cons, List.map_nil]
  rw [bcond_dec]
  refine ⟨fun hlt => ?_, fun hge => ?_⟩
  · have hlt : i < s.size := by omega
    have hlt' : i < s.data.size := hlt
    have hb : s[i]? = some s.data[i] := by rw [getElem?_pos s i hlt]; rfl
    refine ⟨fun l w2 => w2 = w' ∧ l = [.bool !okByte s.data[i]], ?_, ?_⟩
    · have hb2 := (s.data[i]).toNat_lt
      simp only [Int.toNat_natCast, hb, ixs_some, bx_eq, mm_eq, nc_eq, cnd_eq, bcond_true, bcond_false, pk_eq, pk_int, ex_eq, ldc_some, un_not, un_neg, mn_eq, mx_eq, bin_add, bin_sub, bin_mul, bin_lss, bin_leq, bin_gtr, bin_geq, bin_eql, bin_neq, bin_peq, bin_pne, bin_beq, bin_bne, bin_leqn, bin_lnen, bin_seq, bin_sne, bin_sge, bin_slt, rdc_cells, mapEs_some, frz_none, Nat.zero_add, Nat.add_zero, List.getElem?_toArray, List.getElem?_cons_zero, List.getElem?_cons_succ, Option.isNone_some, Option.isNone_none, Bool.not_true, Bool.not_false, ite_true, ite_false, Bool.false_eq_true, true_and, and_true, forall_const, false_implies, reduceCtorEq, Bool.true_eq_false, Nat.reduceAdd, Nat.reduceMul, Nat.reduceLT, Nat.reduceSub, Int.reduceEq, Int.reduceLT, decide_true, decide_false, List.setIfInBounds_toArray, List.set_cons_zero, List.set_cons_succ, List.size_toArray, List.length_cons, List.length_nil, frz00, one_int, one_bool, one_ptr, one_str, one_slice, one_map, one_func, one_nil, one_niliface, size_put, size_alloc, put_same, st1_put, bsc_empty, List.nil_append, List.append_nil, List.map_cons, List.map_nil, cells_ptr, cells_str, cells_int, cells_bool, cells_slice, cells_agg, cells_map, fillB_one, fillB_nil, bdc, bcond_dec, okByte]
      refine ⟨by omega, ?_⟩
      constructor
      · intro h1
        refine ⟨by omega, ?_⟩
        constructor
        · intro h2; refine blist ?_; simp; omega
        · intro h2; refine ⟨by omega, blist ?_⟩; simp; omega
      · intro h1
        refine ⟨by omega, ?_⟩
        constructor
        · intro h2
          refine ⟨by omega, ?_⟩
          constructor
          · intro h2; refine blist ?_; simp; omega
          · intro h2; refine ⟨by omega, blist ?_⟩; simp; omega
        · intro h2; refine blist ?_; simp; omega
    · rintro g2 w2 ⟨rfl, hg2⟩
      simp only [List.map_cons, List.map_nil, List.cons.injEq, and_true] at hg2
      rw [hg2, cnd_eq, bcond_iff]
      refine ⟨fun hbad => ?_, fun hgood => ?_⟩
      · have : isName s = false := by
          simp only [isName, Bool.and_eq_false_iff]
          refine .inl (.inl ?_)
          simp only [List.all_eq_false]
          exact ⟨s.data[i], by simp, by simpa using hbad⟩
        rw [this] at h; exact h
      · rw [IntWalk.i64_in _ (by omega)]
        refine ⟨⟨i + 1, by simp, by omega, rfl, fun j hj hji => ?_⟩, by omega⟩
        by_cases hji2 : j = i
        · subst hji2; simpa using hgood
        · exact hok j hj (by omega)
  · have hi2 : i = s.size := by omega
    have hall : s.data.toList.all okByte = true := by
      simp only [List.all_eq_true]
      intro b hb
      obtain ⟨j, hj, rfl⟩ := List.getElem_of_mem hb
      simp only [Array.length_toList] at hj
      simpa using hok j hj (by rw [hi2]; exact hj)
    rw [bcond_dec]
    refine ⟨fun h1 => ?_, fun h1 => ?_⟩
    · have e : isName s = decide ((s.size : Int) ≤ 16) := by
        simp only [isName, hall]
        rw [decide_eq_true (show 1 ≤ s.size by omega), Bool.true_and, Bool.true_and]
        exact decide_eq_decide.2 (by omega)
      rw [e] at h; exact h
    · have e : isName s = false := by
        simp only [isName, hall]
        rw [decide_eq_false (show ¬ 1 ≤ s.size by omega)]; simp
      rw [e] at h; exact h
end Go.Proofs.YtppefblkmgihoaaDoor
