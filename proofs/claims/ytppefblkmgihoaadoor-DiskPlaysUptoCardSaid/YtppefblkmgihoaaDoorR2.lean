/- The reference of layer 9: find, flags, goes. -/
import Derived.Test.YtppefblkmgihoaaDoorR1
set_option linter.unusedVariables false
set_option linter.unusedSimpArgs false
set_option maxRecDepth 10000
namespace Go.Proofs.YtppefblkmgihoaaDoor
open Go.Sh

theorem FileC.fr {w w' : World} {p : ByteArray × List Sec} {cs : List Value} (h : FileC w p cs) {N : Nat} {S : Nat → Prop} (hf : Fr N S w w') (hB : ∀ b X e f, e = 5 ∨ e = 4 → w.heap[b]? = some (.cells X e f) → b < N ∧ ¬ S b) : FileC w' p cs := by
  obtain ⟨bv, sv, rfl, h1, h2, h3⟩ := h
  exact ⟨bv, sv, rfl, Sl.fr h1 hf fun b X f _ hb => hB b X _ f (.inl rfl) hb, Sl.fr h2 hf fun b X f _ hb => hB b X _ f (.inr rfl) hb, h3⟩
theorem FilesV.fr {B : Nat → Prop} {w w' : World} {l : Files} {v : Value} (h : FilesV B w l v) {N : Nat} {S : Nat → Prop} (hf : Fr N S w w') (hB : ∀ b X e f, e = 5 ∨ e = 4 ∨ e = 96 → w.heap[b]? = some (.cells X e f) → b < N ∧ ¬ S b) : FilesV B w' l v := by
  obtain ⟨rows, h1, h2, h3⟩ := h
  exact ⟨rows, h1.mono fun cs p _ _ hc => hc.fr hf fun b X e f he hb => hB b X e f (he.imp id .inl) hb, h2, h3.fr hf fun b X _ hb => hB b X _ (0, 0) (.inr (.inr rfl)) hb⟩
theorem FilesV.young {B : Nat → Prop} {w w' : World} {l : Files} {v : Value} (h : FilesV B w l v) (hf : Fr w.heap.size No w w') : FilesV B w' l v := h.fr hf fun b X e f _ hb => ⟨lt_at hb, no_not⟩
theorem RkAt.young {N : Nat} {w w' : World} {x : Nat} {X : Rk} {fv : Value} (h : RkAt N w x X fv) (hf : Fr w.heap.size No w w') : RkAt N w' x X fv := ⟨young_at hf h.blk, h.fs.young hf, h.nx⟩
theorem IsRk.young {N : Nat} {w w' : World} {x : Nat} {X : Rk} (h : IsRk N w x X) (hf : Fr w.heap.size No w w') : IsRk N w' x X := by
  obtain ⟨fv, h⟩ := h; exact ⟨fv, h.young hf⟩
/-- The struct's block alone is written. -/
theorem RkAt.put {N : Nat} {w : World} {x : Nat} {X X' : Rk} {fv fv' : Value} (h : RkAt N w x X fv) (hfs : FilesV (fun b => N ≤ b) w X'.fs fv') : RkAt N (w.put x (.cells (X'.cells fv') 52 (0, 0))) x X' fv' := by
  refine ⟨put_same (lt_at h.blk), hfs.fr (N := w.heap.size) (S := fun b => b = x) (Fr.refl.put (.inl rfl)) fun b Y e f he hb => ⟨lt_at hb, ?_⟩, h.nx⟩
  rintro rfl
  rw [h.blk] at hb; injection hb with hb; injection hb with _ hb
  subst hb
  rcases he with he | he | he <;> cases he

theorem RkAt.le {N : Nat} {w : World} {x : Nat} {X : Rk} {fv : Value} (h : RkAt N w x X fv) : N ≤ w.heap.size := Nat.le_trans h.nx (Nat.le_of_lt (lt_at h.blk))
theorem RkAt.fput {N : Nat} {w : World} {x : Nat} {X : Rk} {fv : Value} {cs : Array Value} {B : Nat → Prop} {l : Files} {v : Value} (h : RkAt N w x X fv) (hfs : FilesV B w l v) : FilesV B (w.put x (.cells cs 52 (0, 0))) l v := by
  refine hfs.fr (N := w.heap.size) (S := fun b => b = x) (Fr.refl.put (.inl rfl)) fun b Y e f he hb => ⟨lt_at hb, ?_⟩
  rintro rfl
  rw [h.blk] at hb; injection hb with hb; injection hb with _ hb
  subst hb
  rcases he with he | he | he <;> cases he
theorem FilesV.row {B : Nat → Prop} {w : World} {l : Files} {v : Value} (h : FilesV B w l v) {i : Nat} (hi : i < l.length) :
    ∃ b o c bv sv, v = .slice (some ⟨b, o, none⟩) l.length c ∧ B b ∧ rdn w.heap[b]? (o + i * 3) 3 = some #[.string l[i].1, bv, sv] ∧ BytesV w (Secs.bytes l[i].2) bv ∧ FlagsV w (Secs.flags l[i].2) sv ∧ (∀ s ∈ l[i].2, s.by_.length = 32) := by
  obtain ⟨rows, h1, h2, h3⟩ := h
  obtain ⟨b, o, c, X, rfl, hB, hb, hs, hX⟩ := h3.at hi
  have hlen := h1.length_eq
  have hi' : i < rows.length := by omega
  obtain ⟨bv, sv, e, hbv, hsv, h32⟩ := h1.get hi' hi
  refine ⟨b, o, c, bv, sv, rfl, hB, ?_, hbv, hsv, h32⟩
  rw [rdn_el hb hs hX h3.sl.length hi]
  have := flat_row id rows h2 i hi'
  rw [this]
  simp only [id, e]
theorem FilesV.shape {B : Nat → Prop} {w : World} {l : Files} {v : Value} (h : FilesV B w l v) : ∃ A c, v = .slice A l.length c := by
  obtain ⟨rows, h1, h2, h3⟩ := h
  obtain ⟨A, c, e, _⟩ := h3.shape; exact ⟨A, c, e⟩
theorem FlagsV.shape {w : World} {l : List Bool} {v : Value} (h : FlagsV w l v) : ∃ A c, v = .slice A l.length c := by
  obtain ⟨A, c, e, _⟩ := Sl.shape h; exact ⟨A, c, e⟩
theorem BytesV.shape {w : World} {l : List UInt8} {v : Value} (h : BytesV w l v) : ∃ A c, v = .slice A l.length c := by
  obtain ⟨A, c, e, _⟩ := Sl.shape h; exact ⟨A, c, e⟩
theorem slice_one {e : TypeId} {B : Nat → Prop} {sz : Nat} {w : World} {v : Value} {n : Nat} {cs : List Value} (h : Sl B e sz w v n cs) : v.oneCell' = true := by
  obtain ⟨A, c, rfl, _⟩ := h.shape; rfl
theorem row_one {w : World} {s : ByteArray} {bv sv : Value} {bs : List UInt8} {fl : List Bool} (hb : BytesV w bs bv) (hs : FlagsV w fl sv) : ∀ u ∈ (#[.string s, bv, sv] : Array Value), u.oneCell' = true := by
  intro u hu
  simp only [List.mem_toArray, List.mem_cons, List.not_mem_nil, or_false] at hu
  rcases hu with rfl | rfl | rfl
  · rfl
  · exact slice_one hb
  · exact slice_one hs

theorem ref_find {N : Nat} {w : World} {x : Nat} {X : Rk} {fv : Value} {a : ByteArray} (h : RkAt N w x X fv) (hl : small X.fs.length) {R : Value → World → Prop}
    (h0 : aget X.fs a = none → ∀ w', Fr w.heap.size No w w' → R (.int .i64 (-1)) w')
    (h1 : ∀ i, (hi : i < X.fs.length) → (X.fs[i]).1 = a → aget X.fs a = some (X.fs[i]).2 → ∀ w', Fr w.heap.size No w w' → R (.int .i64 i) w') : cl Tryd.prog 45 #[ptr x, .string a] w R := by
  have hblk := h.blk
  unfold Rk.cells at hblk
  obtain ⟨A, c, rfl⟩ := h.fs.shape
  have hl : X.fs.length < 2 ^ 36 := hl
  refine C.r09_find ?_
  unfold F.r09_find
  simp only [T.fa_52_0, T.ld_50, T.ln_50, T.ia_50, T.ld_96, T.al_96, T.st_96, T.fa_96_0, T.ld_9, bx_eq, mm_eq, nc_eq, cnd_eq, bcond_true, bcond_false, pk_eq, pk_int, ex_eq, ldc_some, un_not, un_neg, mn_eq, mx_eq, bin_add, bin_sub, bin_mul, bin_lss, bin_leq, bin_gtr, bin_geq, bin_eql, bin_neq, bin_peq, bin_pne, bin_beq, bin_bne, bin_leqn, bin_lnen, bin_seq, bin_sne, bin_sge, bin_slt, rdc_cells, mapEs_some, frz_none, Nat.zero_add, Nat.add_zero, List.getElem?_toArray, List.getElem?_cons_zero, List.getElem?_cons_succ, Option.isNone_some, Option.isNone_none, Bool.not_true, Bool.not_false, ite_true, ite_false, Bool.false_eq_true, true_and, and_true, forall_const, false_implies, reduceCtorEq, Bool.true_eq_false, Nat.reduceAdd, Nat.reduceMul, Nat.reduceLT, Nat.reduceSub, Int.reduceEq, Int.reduceLT, decide_true, decide_false, List.setIfInBounds_toArray, List.set_cons_zero, List.set_cons_succ, List.size_toArray, List.length_cons, List.length_nil, frz00, one_int, one_bool, one_ptr, one_str, one_slice, one_map, one_func, one_nil, one_niliface, size_put, size_alloc, put_same, st1_put, bsc_empty, List.nil_append, List.append_nil, List.map_cons, List.map_nil, cells_ptr, cells_str, cells_int, cells_bool, cells_slice, cells_agg, cells_map, fillB_one, fillB_nil, bdc, hblk, ptr]
  refine ⟨fun s u => ∃ i : Nat, s = [.int .i64 i] ∧ i ≤ X.fs.length ∧ Fr w.heap.size No w u ∧ ∀ j, (hj : j < X.fs.length) → j < i → (X.fs[j]).1 ≠ a, fun s _ => match s with | [.int _ i] => (X.fs.length - i).toNat | _ => 0, ⟨0, rfl, Nat.zero_le _, Fr.refl, fun j _ h => absurd h (Nat.not_lt_zero _)⟩, ?_⟩
  rintro g u ⟨i, hg, hi, hf, hno⟩
  simp only [List.map_cons, List.map_nil, List.cons.injEq, and_true] at hg
  simp only [hg, T.fa_52_0, T.ld_50, T.ln_50, T.ia_50, T.ld_96, T.al_96, T.st_96, T.fa_96_0, T.ld_9, bx_eq, mm_eq, nc_eq, cnd_eq, bcond_true, bcond_false, pk_eq, pk_int, ex_eq, ldc_some, un_not, un_neg, mn_eq, mx_eq, bin_add, bin_sub, bin_mul, bin_lss, bin_leq, bin_gtr, bin_geq, bin_eql, bin_neq, bin_peq, bin_pne, bin_beq, bin_bne, bin_leqn, bin_lnen, bin_seq, bin_sne, bin_sge, bin_slt, rdc_cells, mapEs_some, frz_none, Nat.zero_add, Nat.add_zero, List.getElem?_toArray, List.getElem?_cons_zero, List.getElem?_cons_succ, Option.isNone_some, Option.isNone_none, Bool.not_true, Bool.not_false, ite_true, ite_false, Bool.false_eq_true, true_and, and_true, forall_const, false_implies, reduceCtorEq, Bool.true_eq_false, Nat.reduceAdd, Nat.reduceMul, Nat.reduceLT, Nat.reduceSub, Int.reduceEq, Int.reduceLT, decide_true, decide_false, List.setIfInBounds_toArray, List.set_cons_zero, List.set_cons_succ, List.size_toArray, List.length_cons, List.length_nil, frz00, one_int, one_bool, one_ptr, one_str, one_slice, one_map, one_func, one_nil, one_niliface, size_put, size_alloc, put_same, st1_put, bsc_empty, List.nil_append, List.append_nil, List.map_cons, List.map_nil, cells_ptr, cells_str, cells_int, cells_bool, cells_slice, cells_agg, cells_map, fillB_one, fillB_nil, bdc, bcond_dec]
  refine ⟨fun hlt => ?_, fun hge => ?_⟩
  · have hlt : i < X.fs.length := by omega
    obtain ⟨b, o, c', bv, sv, he, _, hrd, hbv, hsv, _⟩ := (h.fs.young hf).row hlt
    injection he with e1 e2 e3
    subst e1
    simp only [T.fa_52_0, T.ld_50, T.ln_50, T.ia_50, T.ld_96, T.al_96, T.st_96, T.fa_96_0, T.ld_9, bx_eq, mm_eq, nc_eq, cnd_eq, bcond_true, bcond_false, pk_eq, pk_int, ex_eq, ldc_some, un_not, un_neg, mn_eq, mx_eq, bin_add, bin_sub, bin_mul, bin_lss, bin_leq, bin_gtr, bin_geq, bin_eql, bin_neq, bin_peq, bin_pne, bin_beq, bin_bne, bin_leqn, bin_lnen, bin_seq, bin_sne, bin_sge, bin_slt, rdc_cells, mapEs_some, frz_none, Nat.zero_add, Nat.add_zero, List.getElem?_toArray, List.getElem?_cons_zero, List.getElem?_cons_succ, Option.isNone_some, Option.isNone_none, Bool.not_true, Bool.not_false, ite_true, ite_false, Bool.false_eq_true, true_and, and_true, forall_const, false_implies, reduceCtorEq, Bool.true_eq_false, Nat.reduceAdd, Nat.reduceMul, Nat.reduceLT, Nat.reduceSub, Int.reduceEq, Int.reduceLT, decide_true, decide_false, List.setIfInBounds_toArray, List.set_cons_zero, List.set_cons_succ, List.size_toArray, List.length_cons, List.length_nil, frz00, one_int, one_bool, one_ptr, one_str, one_slice, one_map, one_func, one_nil, one_niliface, size_put, size_alloc, put_same, st1_put, bsc_empty, List.nil_append, List.append_nil, List.map_cons, List.map_nil, cells_ptr, cells_str, cells_int, cells_bool, cells_slice, cells_agg, cells_map, fillB_one, fillB_nil, bdc, Int.toNat_natCast, hrd, ldn]
    refine ⟨by omega, by omega, ?_⟩
    refine stN_new rfl rfl (row_one hbv hsv) ?_
    have hf2 : Fr w.heap.size No w (u.alloc (.cells #[.string (X.fs[i]).1, bv, sv] 96 (0, 0))) := hf.alloc hf.1
    have ha : (u.alloc (.cells #[.string (X.fs[i]).1, bv, sv] 96 (0, 0))).heap[u.heap.size]? = some (.cells #[.string (X.fs[i]).1, bv, sv] 96 (0, 0)) := alloc_at rfl
    simp only [T.fa_52_0, T.ld_50, T.ln_50, T.ia_50, T.ld_96, T.al_96, T.st_96, T.fa_96_0, T.ld_9, bx_eq, mm_eq, nc_eq, cnd_eq, bcond_true, bcond_false, pk_eq, pk_int, ex_eq, ldc_some, un_not, un_neg, mn_eq, mx_eq, bin_add, bin_sub, bin_mul, bin_lss, bin_leq, bin_gtr, bin_geq, bin_eql, bin_neq, bin_peq, bin_pne, bin_beq, bin_bne, bin_leqn, bin_lnen, bin_seq, bin_sne, bin_sge, bin_slt, rdc_cells, mapEs_some, frz_none, Nat.zero_add, Nat.add_zero, List.getElem?_toArray, List.getElem?_cons_zero, List.getElem?_cons_succ, Option.isNone_some, Option.isNone_none, Bool.not_true, Bool.not_false, ite_true, ite_false, Bool.false_eq_true, true_and, and_true, forall_const, false_implies, reduceCtorEq, Bool.true_eq_false, Nat.reduceAdd, Nat.reduceMul, Nat.reduceLT, Nat.reduceSub, Int.reduceEq, Int.reduceLT, decide_true, decide_false, List.setIfInBounds_toArray, List.set_cons_zero, List.set_cons_succ, List.size_toArray, List.length_cons, List.length_nil, frz00, one_int, one_bool, one_ptr, one_str, one_slice, one_map, one_func, one_nil, one_niliface, size_put, size_alloc, put_same, st1_put, bsc_empty, List.nil_append, List.append_nil, List.map_cons, List.map_nil, cells_ptr, cells_str, cells_int, cells_bool, cells_slice, cells_agg, cells_map, fillB_one, fillB_nil, bdc, ha, bcond_dec]
    refine ⟨fun hk => h1 i hlt hk (aget_first hlt hno hk) _ hf2, fun hk => ?_⟩
    rw [IntWalk.i64_in _ (by omega)]
    refine ⟨⟨i + 1, by simp, by omega, hf2, fun j hj hji => ?_⟩, by omega⟩
    by_cases hji2 : j = i
    · subst hji2; exact hk
    · exact hno j hj (by omega)
  · have : i = X.fs.length := by omega
    subst this
    exact h0 (aget_all fun j hj => hno j hj hj) _ hf

/-- So many flags of a kind, in new memory. -/
theorem ref_flags {w : World} {n : Nat} {t : Bool} (hn : small n) {R : Value → World → Prop} (hR : ∀ v w', Ow w.heap.size 4 1 w' v n ((List.replicate n t).map .bool) → Fr w.heap.size No w w' → R v w') : cl Tryd.prog 47 #[.int .i64 n, .bool t] w R := by
  have hn : n < 2 ^ 36 := hn
  refine C.r09_flags ?_
  unfold F.r09_flags
  simp only [T.mk_32, T.ln_32, T.ia_32, T.st_4, bx_eq, mm_eq, nc_eq, cnd_eq, bcond_true, bcond_false, pk_eq, pk_int, ex_eq, ldc_some, un_not, un_neg, mn_eq, mx_eq, bin_add, bin_sub, bin_mul, bin_lss, bin_leq, bin_gtr, bin_geq, bin_eql, bin_neq, bin_peq, bin_pne, bin_beq, bin_bne, bin_leqn, bin_lnen, bin_seq, bin_sne, bin_sge, bin_slt, rdc_cells, mapEs_some, frz_none, Nat.zero_add, Nat.add_zero, List.getElem?_toArray, List.getElem?_cons_zero, List.getElem?_cons_succ, Option.isNone_some, Option.isNone_none, Bool.not_true, Bool.not_false, ite_true, ite_false, Bool.false_eq_true, true_and, and_true, forall_const, false_implies, reduceCtorEq, Bool.true_eq_false, Nat.reduceAdd, Nat.reduceMul, Nat.reduceLT, Nat.reduceSub, Int.reduceEq, Int.reduceLT, decide_true, decide_false, List.setIfInBounds_toArray, List.set_cons_zero, List.set_cons_succ, List.size_toArray, List.length_cons, List.length_nil, frz00, one_int, one_bool, one_ptr, one_str, one_slice, one_map, one_func, one_nil, one_niliface, size_put, size_alloc, put_same, st1_put, bsc_empty, List.nil_append, List.append_nil, List.map_cons, List.map_nil, cells_ptr, cells_str, cells_int, cells_bool, cells_slice, cells_agg, cells_map, fillB_one, fillB_nil, bdc, Int.toNat_natCast]
  refine ⟨by omega, by omega, by omega, by omega, ?_⟩
  have hz : zeros #[.bool false] n = (List.replicate n false).map Value.bool := by
    rw [zeros_one, List.map_replicate]
  rw [hz]
  let St : List Bool → World → Prop := fun L u => Ow w.heap.size 4 1 u (.slice (some ⟨w.heap.size, 0, none⟩) n n) n (L.flatMap fun b => [Value.bool b])
  have hfm : ∀ L : List Bool, (L.flatMap fun b => [Value.bool b]) = L.map Value.bool := fun L => by
    induction L with
    | nil => rfl
    | cons b r ih => simp only [List.flatMap_cons, List.map_cons, ih]; rfl
  refine ⟨fun s u => ∃ i : Nat, s = [.int .i64 i] ∧ i ≤ n ∧ Fr w.heap.size No w u ∧ St (List.replicate i t ++ List.replicate (n - i) false) u, fun s _ => match s with | [.int _ i] => (n - i).toNat | _ => 0, ⟨0, rfl, Nat.zero_le _, Fr.refl.alloc (Nat.le_refl _), ?_⟩, ?_⟩
  · show Ow _ _ _ _ _ _ _
    rw [hfm]
    refine ⟨_, n, rfl, Nat.le_refl _, by simp, .inr ⟨w.heap.size, 0, _, rfl, Nat.le_refl _, alloc_at rfl, by simp, fun k hk => by simp [Array.getElem?_replicate, List.getElem?_replicate]⟩⟩
  · rintro g u ⟨i, hg, hi, hf, hS⟩
    simp only [List.map_cons, List.map_nil, List.cons.injEq, and_true] at hg
    simp only [hg, T.mk_32, T.ln_32, T.ia_32, T.st_4, bx_eq, mm_eq, nc_eq, cnd_eq, bcond_true, bcond_false, pk_eq, pk_int, ex_eq, ldc_some, un_not, un_neg, mn_eq, mx_eq, bin_add, bin_sub, bin_mul, bin_lss, bin_leq, bin_gtr, bin_geq, bin_eql, bin_neq, bin_peq, bin_pne, bin_beq, bin_bne, bin_leqn, bin_lnen, bin_seq, bin_sne, bin_sge, bin_slt, rdc_cells, mapEs_some, frz_none, Nat.zero_add, Nat.add_zero, List.getElem?_toArray, List.getElem?_cons_zero, List.getElem?_cons_succ, Option.isNone_some, Option.isNone_none, Bool.not_true, Bool.not_false, ite_true, ite_false, Bool.false_eq_true, true_and, and_true, forall_const, false_implies, reduceCtorEq, Bool.true_eq_false, Nat.reduceAdd, Nat.reduceMul, Nat.reduceLT, Nat.reduceSub, Int.reduceEq, Int.reduceLT, decide_true, decide_false, List.setIfInBounds_toArray, List.set_cons_zero, List.set_cons_succ, List.size_toArray, List.length_cons, List.length_nil, frz00, one_int, one_bool, one_ptr, one_str, one_slice, one_map, one_func, one_nil, one_niliface, size_put, size_alloc, put_same, st1_put, bsc_empty, List.nil_append, List.append_nil, List.map_cons, List.map_nil, cells_ptr, cells_str, cells_int, cells_bool, cells_slice, cells_agg, cells_map, fillB_one, fillB_nil, bdc, bcond_dec]
    refine ⟨fun hlt => ?_, fun hge => ?_⟩
    · have hlt : i < n := by omega
      have hlen : n = (List.replicate i t ++ List.replicate (n - i) false).length := by simp; omega
      obtain ⟨b, o, c, he, hst⟩ := Ow.set1 (f := fun b : Bool => [Value.bool b]) hS (fun _ _ => rfl) hlen hlt (k := 0) (by decide) t (.bool t) rfl rfl
      injection he with e1 e2 e3
      injection e1 with e1
      injection e1 with e4 e5
      subst e4; subst e5; subst e3
      simp only [T.mk_32, T.ln_32, T.ia_32, T.st_4, bx_eq, mm_eq, nc_eq, cnd_eq, bcond_true, bcond_false, pk_eq, pk_int, ex_eq, ldc_some, un_not, un_neg, mn_eq, mx_eq, bin_add, bin_sub, bin_mul, bin_lss, bin_leq, bin_gtr, bin_geq, bin_eql, bin_neq, bin_peq, bin_pne, bin_beq, bin_bne, bin_leqn, bin_lnen, bin_seq, bin_sne, bin_sge, bin_slt, rdc_cells, mapEs_some, frz_none, Nat.zero_add, Nat.add_zero, List.getElem?_toArray, List.getElem?_cons_zero, List.getElem?_cons_succ, Option.isNone_some, Option.isNone_none, Bool.not_true, Bool.not_false, ite_true, ite_false, Bool.false_eq_true, true_and, and_true, forall_const, false_implies, reduceCtorEq, Bool.true_eq_false, Nat.reduceAdd, Nat.reduceMul, Nat.reduceLT, Nat.reduceSub, Int.reduceEq, Int.reduceLT, decide_true, decide_false, List.setIfInBounds_toArray, List.set_cons_zero, List.set_cons_succ, List.size_toArray, List.length_cons, List.length_nil, frz00, one_int, one_bool, one_ptr, one_str, one_slice, one_map, one_func, one_nil, one_niliface, size_put, size_alloc, put_same, st1_put, bsc_empty, List.nil_append, List.append_nil, List.map_cons, List.map_nil, cells_ptr, cells_str, cells_int, cells_bool, cells_slice, cells_agg, cells_map, fillB_one, fillB_nil, bdc, Int.toNat_natCast, Nat.mul_one]
      refine ⟨by omega, by omega, ?_⟩
      have hst := hst
      simp only [Nat.mul_one, Nat.zero_add, Nat.add_zero] at hst
      refine hst _ fun w3 hO3 hf3 hs3 => ?_
      rw [IntWalk.i64_in _ (by omega)]
      refine ⟨⟨i + 1, by simp, by omega, hf.trans hf3, ?_⟩, by omega⟩
      have : (List.replicate i t ++ List.replicate (n - i) false).set i t = List.replicate (i + 1) t ++ List.replicate (n - (i + 1)) false := by
        rw [List.set_append_right _ _ (by simp)]
        rw [show n - i = (n - (i + 1)) + 1 by omega, List.replicate_succ, List.replicate_succ']
        simp
      rw [this] at hO3
      exact hO3
    · have : i = n := by omega
      subst this
      have hS' : Ow _ _ _ _ _ _ _ := hS
      rw [Nat.sub_self, List.replicate_zero, List.append_nil, hfm] at hS'
      exact hR _ _ hS' hf

def Rk.count (X : Rk) : Rk := { X with ops := IntKind.i64.wrap (X.ops + 1), armed := X.armed - 1, off := if X.armed = 0 then X.off else decide (X.armed = 1) }
theorem ref_goes {N : Nat} {w : World} {x : Nat} {X : Rk} {fv : Value} (h : RkAt N w x X fv) (hoff : X.off = false) (ha : X.armed < 2 ^ 63) {R : Value → World → Prop}
    (hR : ∀ w', RkAt N w' x X.count fv → Fr w.heap.size (fun b => b = x) w w' → R (.bool (decide (X.armed = 1))) w') : cl Tryd.prog 48 #[ptr x] w R := by
  have hblk := h.blk
  unfold Rk.cells at hblk
  have hx := lt_at h.blk
  refine C.r09_goes ?_
  unfold F.r09_goes
  simp only [T.fa_52_4, T.ld_3, T.st_3, T.fa_52_3, T.fa_52_2, T.st_4, T.ld_4, bx_eq, mm_eq, nc_eq, cnd_eq, bcond_true, bcond_false, pk_eq, pk_int, ex_eq, ldc_some, un_not, un_neg, mn_eq, mx_eq, bin_add, bin_sub, bin_mul, bin_lss, bin_leq, bin_gtr, bin_geq, bin_eql, bin_neq, bin_peq, bin_pne, bin_beq, bin_bne, bin_leqn, bin_lnen, bin_seq, bin_sne, bin_sge, bin_slt, rdc_cells, mapEs_some, frz_none, Nat.zero_add, Nat.add_zero, List.getElem?_toArray, List.getElem?_cons_zero, List.getElem?_cons_succ, Option.isNone_some, Option.isNone_none, Bool.not_true, Bool.not_false, ite_true, ite_false, Bool.false_eq_true, true_and, and_true, forall_const, false_implies, reduceCtorEq, Bool.true_eq_false, Nat.reduceAdd, Nat.reduceMul, Nat.reduceLT, Nat.reduceSub, Int.reduceEq, Int.reduceLT, decide_true, decide_false, List.setIfInBounds_toArray, List.set_cons_zero, List.set_cons_succ, List.size_toArray, List.length_cons, List.length_nil, frz00, one_int, one_bool, one_ptr, one_str, one_slice, one_map, one_func, one_nil, one_niliface, size_put, size_alloc, put_same, st1_put, bsc_empty, List.nil_append, List.append_nil, List.map_cons, List.map_nil, cells_ptr, cells_str, cells_int, cells_bool, cells_slice, cells_agg, cells_map, fillB_one, fillB_nil, bdc, st1_at hblk, hblk, ptr, hx, bcond_dec]
  have e1 : IntKind.i64.wrap ((X.armed : Int) - 1) = (X.armed : Int) - 1 := IntWalk.i64_in _ (by omega)
  refine ⟨fun h0 => ?_, fun h0 => ?_⟩
  · have h0 : X.armed = 0 := by omega
    have := hR _ (h.put (X' := X.count) h.fs) (Fr.refl.put (.inl rfl))
    have e2 : X.count = { X with ops := IntKind.i64.wrap (X.ops + 1) } := by simp [Rk.count, h0]
    rw [e2] at this
    rw [decide_eq_false (by omega)] at this
    exact this
  · have h0 : X.armed ≠ 0 := by omega
    have := hR _ (h.put (X' := X.count) h.fs) (Fr.refl.put (.inl rfl))
    simp only [e1]
    have e3 : decide ((X.armed : Int) - 1 = 0) = decide (X.armed = 1) := decide_eq_decide.2 (by omega)
    have e4 : ((X.armed : Int) - 1) = ((X.armed - 1 : Nat) : Int) := by omega
    rw [e3, e4]
    simp only [Rk.count, if_neg h0, Rk.cells] at this
    exact this
end Go.Proofs.YtppefblkmgihoaaDoor
