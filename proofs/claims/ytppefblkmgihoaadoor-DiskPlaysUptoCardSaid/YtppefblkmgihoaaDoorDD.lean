/- The disk: Restart. -/
import Derived.Test.YtppefblkmgihoaaDoorDC
import Derived.Test.YtppefblkmgihoaaDoorL3
set_option linter.unusedVariables false
set_option linter.unusedSimpArgs false
set_option maxRecDepth 10000
namespace Go.Proofs.YtppefblkmgihoaaDoor
open Go.Sh

theorem zero_cells : (Sec.cells ⟨List.replicate 32 0, false⟩) = List.replicate 32 (Value.int .u8 0) ++ [.bool false] := by simp [Sec.cells]
/-- The files behind a restart, ahead of the loss. -/
def Dk.back (D : Dk) (done : Bool) : Dk := { D with off := false, armed := 0, fs := if done then D.pend.apply D.fs else D.fs }
theorem flag_at {w : World} {fl : List Bool} {v : Value} {B : Nat → Prop} {fe : TypeId} (h : Sl B fe 1 w v fl.length (fl.map .bool)) {i : Nat} (hi : i < fl.length) : ∃ b o c, v = .slice (some ⟨b, o, none⟩) fl.length c ∧ rdc w.heap[b]? (o + i) = some (.bool fl[i]) := by
  obtain ⟨b, o, c, X, f, e, _, hb, hs, hX⟩ := Sl.at h hi
  refine ⟨b, o, c, e, ?_⟩
  rw [hb, rdc_cells, hX i (by omega)]; simp [hi]
theorem FlagsV.fr {w w' : World} {fl : List Bool} {v : Value} {N : Nat} {S : Nat → Prop} (h : FlagsV w fl v) (hf : Fr N S w w') (hB : ∀ b X f, w.heap[b]? = some (.cells X 4 f) → b < N ∧ ¬ S b) : FlagsV w' fl v := Sl.fr h hf fun b X f _ hb => hB b X f hb

theorem sync_at {N : Nat} {w : World} {M : List Sec} {v : Value} (h : OwS N w M v) {j : Nat} (hj : j < M.length) : ∃ b o c, v = .slice (some ⟨b, o, none⟩) M.length c ∧ rdc w.heap[b]? (o + j * 33 + 32) = some (.bool M[j].sy) := by
  obtain ⟨b, o, c, X, f, e, _, hb, hs, hX⟩ := h.2.sl.at hj
  refine ⟨b, o, c, e, ?_⟩
  have h1 : j * 33 + 32 < M.length * 33 := by omega
  rw [hb, rdc_cells, Nat.add_assoc, hX _ h1, flat_get Sec.cells (sec_len h.1) hj (by decide)]
  simp [Sec.cells, h.1 _ (List.getElem_mem hj)]
theorem name_at {w : World} {ys : List ByteArray} {v : Value} (h : NamesV w ys v) {i : Nat} (hi : i < ys.length) : ∃ b o c, v = .slice (some ⟨b, o, none⟩) ys.length c ∧ rdc w.heap[b]? (o + i) = some (.string ys[i]) := by
  obtain ⟨b, o, c, X, f, e, _, hb, hs, hX⟩ := Sl.at h hi
  refine ⟨b, o, c, e, ?_⟩
  rw [hb, rdc_cells, hX i (by omega)]; simp [hi]
theorem own_set {N : Nat} {w : World} {M : List Sec} {v : Value} (h : OwS N w M v) {j : Nat} (hj : j < M.length) : ∃ b o c, v = .slice (some ⟨b, o, none⟩) M.length c ∧
    (∀ K : World → Prop, (∀ w', OwS N w' (M.set j M[j].sync) v → Fr N No w w' → K w') → st1 w b (o + j * 33 + 32) (.bool true) K) ∧
    (∀ K : World → Prop, (∀ w', OwS N w' (M.set j ⟨List.replicate 32 0, false⟩) v → Fr N No w w' → K w') → stN w b (o + j * 33) 33 (.agg (Sec.cells ⟨List.replicate 32 0, false⟩).toArray) K) := by
  obtain ⟨b, o, c, e, h1⟩ := h.2.set1 (sec_len h.1) rfl hj (k := 32) (by decide) (M[j].sync) (.bool true) rfl (sync_cells (h.1 _ (List.getElem_mem _)))
  obtain ⟨b', o', c', e', h2⟩ := h.2.setN (sec_len h.1) rfl hj (by decide) ⟨List.replicate 32 0, false⟩ (by simp [Sec.cells]) (fun u hu => sec_one [⟨List.replicate 32 0, false⟩] u (by simpa using hu))
  rw [e] at e'
  injection e' with e' _ _; injection e' with e'; injection e' with e1 e2
  subst e1; subst e2
  have h32 : ∀ y : Sec, y.by_.length = 32 → ∀ s ∈ M.set j y, s.by_.length = 32 := fun y hy s hs => by
    rcases List.mem_or_eq_of_mem_set hs with hs | rfl
    · exact h.1 s hs
    · exact hy
  refine ⟨b, o, c, e, fun K hK => h1 K fun w' hO hf _ => hK w' ⟨h32 _ (show (M[j].sync).by_.length = 32 from h.1 M[j] (List.getElem_mem hj)), by rw [List.length_set]; exact hO⟩ hf, fun K hK => h2 K fun w' hO hf _ => hK w' ⟨h32 _ (by simp), by rw [List.length_set]; exact hO⟩ hf⟩
theorem mid_set {α : Type} {A : List α} {L : List α} {j : Nat} (hA : A.length = j) (hj : j < L.length) (y : α) : (A ++ List.drop j L).set j y = (A ++ [y]) ++ List.drop (j + 1) L := by
  rw [List.drop_eq_getElem_cons hj, List.set_append_right _ _ (by omega), hA, Nat.sub_self, List.set_cons_zero, List.append_assoc]; rfl
theorem mid_get {α : Type} {A : List α} {L : List α} {j : Nat} (hA : A.length = j) (hj : j < L.length) (h : j < (A ++ List.drop j L).length) : (A ++ List.drop j L)[j] = L[j] := by
  rw [List.getElem_append_right (by omega)]
  simp [hA]
theorem one_set {α : Type} {A B : List α} {x : α} {j : Nat} (hA : A.length = j) (y : α) : (A ++ [x] ++ B).set j y = A ++ [y] ++ B := by
  rw [List.append_assoc, List.set_append_right _ _ (by omega), hA, Nat.sub_self, List.append_assoc]; rfl
theorem one_get {α : Type} {A B : List α} {x : α} {j : Nat} (hA : A.length = j) (h : j < (A ++ [x] ++ B).length) : (A ++ [x] ++ B)[j] = x := by
  simp only [List.append_assoc]
  rw [List.getElem_append_right (by omega)]
  simp [hA]
theorem disk_Restart {w : World} {d : Nat} {D : Dk} {done : Bool} {keep : List Bool} {kv : Value} (h : IsDk w d D) (hg : D.good) (hk : FlagsV w keep kv) (hkl : small keep.length) {R : Value → World → Prop}
    (h0 : D.off = false → ∀ w', IsDk w' d D → Fr w.heap.size (D.own d) w w' → R (.int .i64 14) w')
    (h1 : D.off = true → Files.ok (D.back done).fs ∧ (D.back done).fs.total < 2 ^ 36 ∧ small (D.back done).fs.length ∧ ∃ l : Files, l.Perm (D.back done).fs ∧ l.sorted ∧ ∀ w' fs', fs'.Perm (fateFs keep l).1 → IsDk w' d { D.back done with fs := fs' } → Fr w.heap.size (D.own d) w w' → R (.int .i64 0) w') : cl Tryd.prog 13 #[ptr d, .agg #[.bool done, kv]] w R := by
  obtain ⟨hv, es, c, h⟩ := h
  refine C.disk_Disk_Restart ?_
  unfold F.disk_Disk_Restart
  simp only [bx_eq, cells_agg]
  generalize hw1 : w.alloc (.cells #[.bool done, kv] 44) = w1
  have hf1 : Fr w.heap.size No w w1 := by rw [← hw1]; exact Fr.refl.alloc (Nat.le_refl _)
  have hat1 : w1.heap[w.heap.size]? = some (.cells #[.bool done, kv] 44 (0, 0)) := by rw [← hw1]; exact alloc_at rfl
  have hw1' := h.young hf1
  simp only [T.ty_24, T.fa_49_2, T.ld_4, T.st_4, T.fa_49_3, T.st_3, T.fa_44_0, T.fa_49_5, T.ld_1, T.ln_71, T.ia_71, T.ld_9, T.fa_49_0, T.ld_47, T.lk_47, T.ln_75, T.ia_75, T.fa_82_1, T.fa_44_1, T.ld_32, T.ln_32, T.ia_32, T.bd_82, T.st_82, T.mu_47, bx_eq, mm_eq, nc_eq, cnd_eq, bcond_true, bcond_false, pk_eq, pk_int, ex_eq, ldc_some, un_not, un_neg, mn_eq, mx_eq, bin_add, bin_sub, bin_mul, bin_lss, bin_leq, bin_gtr, bin_geq, bin_eql, bin_neq, bin_peq, bin_pne, bin_beq, bin_bne, bin_leqn, bin_lnen, bin_seq, bin_sne, bin_sge, bin_slt, rdc_cells, mapEs_some, frz_none, Nat.zero_add, Nat.add_zero, List.getElem?_toArray, List.getElem?_cons_zero, List.getElem?_cons_succ, Option.isNone_some, Option.isNone_none, Bool.not_true, Bool.not_false, ite_true, ite_false, Bool.false_eq_true, true_and, and_true, forall_const, false_implies, reduceCtorEq, Bool.true_eq_false, Nat.reduceAdd, Nat.reduceMul, Nat.reduceLT, Nat.reduceSub, Int.reduceEq, Int.reduceLT, decide_true, decide_false, List.setIfInBounds_toArray, List.set_cons_zero, List.set_cons_succ, List.size_toArray, List.length_cons, List.length_nil, frz00, one_int, one_bool, one_ptr, one_str, one_slice, one_map, one_func, one_nil, one_niliface, size_put, size_alloc, put_same, st1_put, bsc_empty, List.nil_append, List.append_nil, List.map_cons, List.map_nil, cells_ptr, cells_str, cells_int, cells_bool, cells_slice, cells_agg, cells_map, fillB_one, fillB_nil, bdc, hw1'.blk, ptr, st1_at hw1'.blk]
  rw [bcond_iff]
  refine ⟨fun ho => ?_, fun ho => ?_⟩
  · exact h0 (by simpa using ho) w1 ⟨_, _, _, hw1'⟩ (hf1.no (Nat.le_refl _))
  have ho : D.off = true := by simpa using ho
  obtain ⟨hok, htot, hlen, l, hlp, hls, hR⟩ := h1 ho
  have hd1 := hw1'.lt
  simp only [T.ty_24, T.fa_49_2, T.ld_4, T.st_4, T.fa_49_3, T.st_3, T.fa_44_0, T.fa_49_5, T.ld_1, T.ln_71, T.ia_71, T.ld_9, T.fa_49_0, T.ld_47, T.lk_47, T.ln_75, T.ia_75, T.fa_82_1, T.fa_44_1, T.ld_32, T.ln_32, T.ia_32, T.bd_82, T.st_82, T.mu_47, bx_eq, mm_eq, nc_eq, cnd_eq, bcond_true, bcond_false, pk_eq, pk_int, ex_eq, ldc_some, un_not, un_neg, mn_eq, mx_eq, bin_add, bin_sub, bin_mul, bin_lss, bin_leq, bin_gtr, bin_geq, bin_eql, bin_neq, bin_peq, bin_pne, bin_beq, bin_bne, bin_leqn, bin_lnen, bin_seq, bin_sne, bin_sge, bin_slt, rdc_cells, mapEs_some, frz_none, Nat.zero_add, Nat.add_zero, List.getElem?_toArray, List.getElem?_cons_zero, List.getElem?_cons_succ, Option.isNone_some, Option.isNone_none, Bool.not_true, Bool.not_false, ite_true, ite_false, Bool.false_eq_true, true_and, and_true, forall_const, false_implies, reduceCtorEq, Bool.true_eq_false, Nat.reduceAdd, Nat.reduceMul, Nat.reduceLT, Nat.reduceSub, Int.reduceEq, Int.reduceLT, decide_true, decide_false, List.setIfInBounds_toArray, List.set_cons_zero, List.set_cons_succ, List.size_toArray, List.length_cons, List.length_nil, frz00, one_int, one_bool, one_ptr, one_str, one_slice, one_map, one_func, one_nil, one_niliface, size_put, size_alloc, put_same, st1_put, bsc_empty, List.nil_append, List.append_nil, List.map_cons, List.map_nil, cells_ptr, cells_str, cells_int, cells_bool, cells_slice, cells_agg, cells_map, fillB_one, fillB_nil, bdc, st1_put hd1, hd1]
  have hp1 := hw1'.put (D' := { D with off := false, armed := 0 }) rfl rfl (fun h => by cases h) (hv' := hv)
  have hhg := hw1'.hg ho
  generalize hw2 : w1.put d (.cells #[.map (some D.m), .int .i64 D.room, .bool false, .int .i64 ((0 : Nat) : Int), .int .i64 D.ops, hv] 49 (0, 0)) = w2 at hp1
  have hfp : Fr w1.heap.size (D.own d) w1 w2 := by rw [← hw2]; exact Fr.refl.put (.inl (.inl rfl))
  have hnf := hw1'.sec hat1 (by decide)
  have hat2 : w2.heap[w.heap.size]? = some (.cells #[.bool done, kv] 44 (0, 0)) := hfp.at hat1 (lt_at hat1) hnf
  have hfw2 : Fr w.heap.size (D.own d) w w2 := (hf1.no (Nat.le_refl _)).then hfp hf1.1 fun _ _ h => h
  have hflag : ∀ z, Fr w.heap.size (D.own d) w z → FlagsV z keep kv := fun z hz => FlagsV.fr hk hz fun b X f hb => ⟨lt_at hb, h.sec hb (by decide)⟩
  refine ⟨fun _ z => Fr w.heap.size (D.own d) w z ∧ z.heap[w.heap.size]? = some (.cells #[.bool done, kv] 44 (0, 0)) ∧ IsDk z d (D.back done), ?_, ?_⟩
  · simp only [hat2, bx_eq, mm_eq, nc_eq, cnd_eq, bcond_true, bcond_false, pk_eq, pk_int, ex_eq, ldc_some, un_not, un_neg, mn_eq, mx_eq, bin_add, bin_sub, bin_mul, bin_lss, bin_leq, bin_gtr, bin_geq, bin_eql, bin_neq, bin_peq, bin_pne, bin_beq, bin_bne, bin_leqn, bin_lnen, bin_seq, bin_sne, bin_sge, bin_slt, rdc_cells, mapEs_some, frz_none, Nat.zero_add, Nat.add_zero, List.getElem?_toArray, List.getElem?_cons_zero, List.getElem?_cons_succ, Option.isNone_some, Option.isNone_none, Bool.not_true, Bool.not_false, ite_true, ite_false, Bool.false_eq_true, true_and, and_true, forall_const, false_implies, reduceCtorEq, Bool.true_eq_false, Nat.reduceAdd, Nat.reduceMul, Nat.reduceLT, Nat.reduceSub, Int.reduceEq, Int.reduceLT, decide_true, decide_false, List.setIfInBounds_toArray, List.set_cons_zero, List.set_cons_succ, List.size_toArray, List.length_cons, List.length_nil, frz00, one_int, one_bool, one_ptr, one_str, one_slice, one_map, one_func, one_nil, one_niliface, size_put, size_alloc, put_same, st1_put, bsc_empty, List.nil_append, List.append_nil, List.map_cons, List.map_nil, cells_ptr, cells_str, cells_int, cells_bool, cells_slice, cells_agg, cells_map, fillB_one, fillB_nil, bdc, bcond_iff]
    refine ⟨fun hdn => ?_, fun hdn => ?_⟩
    · subst hdn
      have hg2 : Hg w2 d D.pend hv := hhg.fr hfp fun b x e he hb => ⟨lt_at hb, hw1'.sec hb he⟩
      refine hang_apply hp1 hg2 hg.ok fun w3 es3 c3 h3 hf3 => ?_
      exact ⟨hfw2.then hf3 hfw2.1 fun _ _ h => h, hf3.at hat2 (lt_at hat2) hnf, ⟨_, _, _, h3⟩⟩
    · subst hdn
      exact ⟨hfw2, ⟨_, _, _, hp1⟩⟩
  rintro g1 z ⟨hfz, hatz, hz⟩
  refine disk_Names hz hlen (fun h => by cases h) fun _ wN v ys hys hyo hO hfN => ?_
  have hyl : ys = l.map (·.1) := by
    refine order_uniq hyo ?_ (hys.trans (hlp.map _).symm)
    unfold inOrder; rw [List.pairwise_map]; exact hls
  have hNv : NamesV wN ys v := hO.sl.mono fun _ _ _ => trivial
  have hylen : ys.length = l.length := by rw [hyl, List.length_map]
  have hllen : l.length = (D.back done).fs.length := hlp.length_eq
  have hlen : (D.back done).fs.length < 2 ^ 36 := hlen
  have hltot : l.total < 2 ^ 36 := by rw [total_perm hlp]; exact htot
  obtain ⟨Av, cv, rfl⟩ := hNv.shape
  have hfwN : Fr w.heap.size (D.own d) w wN := hfz.then hfN hfz.1 fun _ _ h => h.elim
  have hatN := young_at hfN hatz
  obtain ⟨hvN, esN, cN, hN⟩ := hz.young hfN
  have hnod : (l.map (·.1)).Nodup := hls.nodup
  simp only [T.ty_24, T.fa_49_2, T.ld_4, T.st_4, T.fa_49_3, T.st_3, T.fa_44_0, T.fa_49_5, T.ld_1, T.ln_71, T.ia_71, T.ld_9, T.fa_49_0, T.ld_47, T.lk_47, T.ln_75, T.ia_75, T.fa_82_1, T.fa_44_1, T.ld_32, T.ln_32, T.ia_32, T.bd_82, T.st_82, T.mu_47, bx_eq, mm_eq, nc_eq, cnd_eq, bcond_true, bcond_false, pk_eq, pk_int, ex_eq, ldc_some, un_not, un_neg, mn_eq, mx_eq, bin_add, bin_sub, bin_mul, bin_lss, bin_leq, bin_gtr, bin_geq, bin_eql, bin_neq, bin_peq, bin_pne, bin_beq, bin_bne, bin_leqn, bin_lnen, bin_seq, bin_sne, bin_sge, bin_slt, rdc_cells, mapEs_some, frz_none, Nat.zero_add, Nat.add_zero, List.getElem?_toArray, List.getElem?_cons_zero, List.getElem?_cons_succ, Option.isNone_some, Option.isNone_none, Bool.not_true, Bool.not_false, ite_true, ite_false, Bool.false_eq_true, true_and, and_true, forall_const, false_implies, reduceCtorEq, Bool.true_eq_false, Nat.reduceAdd, Nat.reduceMul, Nat.reduceLT, Nat.reduceSub, Int.reduceEq, Int.reduceLT, decide_true, decide_false, List.setIfInBounds_toArray, List.set_cons_zero, List.set_cons_succ, List.size_toArray, List.length_cons, List.length_nil, frz00, one_int, one_bool, one_ptr, one_str, one_slice, one_map, one_func, one_nil, one_niliface, size_put, size_alloc, put_same, st1_put, bsc_empty, List.nil_append, List.append_nil, List.map_cons, List.map_nil, cells_ptr, cells_str, cells_int, cells_bool, cells_slice, cells_agg, cells_map, fillB_one, fillB_nil, bdc]
  refine ⟨fun s u => ∃ k : Nat, s = [.int .i64 ((fateFs keep (l.take k)).2 : Nat), .int .i64 k] ∧ k ≤ l.length ∧ Fr wN.heap.size (D.own d) wN u ∧ ∃ fs' hv es c, DkAt u d { D.back done with fs := fs' } hv es c ∧ fs'.Perm ((fateFs keep (l.take k)).1 ++ List.drop k l), fun s _ => match s with | [_, .int _ i] => (l.length - i).toNat | _ => 0, ⟨0, rfl, Nat.zero_le _, Fr.refl, (D.back done).fs, _, _, _, hN, by simpa [fateFs] using hlp.symm⟩, ?_⟩
  rintro g2 u ⟨k, hg2, hk2, hfu, fs', hvu, esu, cu, hu, hpu⟩
  simp only [List.map_cons, List.map_nil, List.cons.injEq, and_true] at hg2
  obtain ⟨hg2, hg3⟩ := hg2
  simp only [hg2, hg3, T.ty_24, T.fa_49_2, T.ld_4, T.st_4, T.fa_49_3, T.st_3, T.fa_44_0, T.fa_49_5, T.ld_1, T.ln_71, T.ia_71, T.ld_9, T.fa_49_0, T.ld_47, T.lk_47, T.ln_75, T.ia_75, T.fa_82_1, T.fa_44_1, T.ld_32, T.ln_32, T.ia_32, T.bd_82, T.st_82, T.mu_47, bx_eq, mm_eq, nc_eq, cnd_eq, bcond_true, bcond_false, pk_eq, pk_int, ex_eq, ldc_some, un_not, un_neg, mn_eq, mx_eq, bin_add, bin_sub, bin_mul, bin_lss, bin_leq, bin_gtr, bin_geq, bin_eql, bin_neq, bin_peq, bin_pne, bin_beq, bin_bne, bin_leqn, bin_lnen, bin_seq, bin_sne, bin_sge, bin_slt, rdc_cells, mapEs_some, frz_none, Nat.zero_add, Nat.add_zero, List.getElem?_toArray, List.getElem?_cons_zero, List.getElem?_cons_succ, Option.isNone_some, Option.isNone_none, Bool.not_true, Bool.not_false, ite_true, ite_false, Bool.false_eq_true, true_and, and_true, forall_const, false_implies, reduceCtorEq, Bool.true_eq_false, Nat.reduceAdd, Nat.reduceMul, Nat.reduceLT, Nat.reduceSub, Int.reduceEq, Int.reduceLT, decide_true, decide_false, List.setIfInBounds_toArray, List.set_cons_zero, List.set_cons_succ, List.size_toArray, List.length_cons, List.length_nil, frz00, one_int, one_bool, one_ptr, one_str, one_slice, one_map, one_func, one_nil, one_niliface, size_put, size_alloc, put_same, st1_put, bsc_empty, List.nil_append, List.append_nil, List.map_cons, List.map_nil, cells_ptr, cells_str, cells_int, cells_bool, cells_slice, cells_agg, cells_map, fillB_one, fillB_nil, bdc]
  rw [bcond_dec]
  have hownN : Dk.own d (D.back done) = D.own d := rfl
  have hatu : u.heap[w.heap.size]? = some (.cells #[.bool done, kv] 44 (0, 0)) := hfu.at hatN (lt_at hatN) (hN.sec hatN (by decide))
  have hfwu : Fr w.heap.size (D.own d) w u := hfwN.then hfu hfwN.1 fun _ _ h => h
  refine ⟨fun hlt => ?_, fun hge => ?_⟩
  · have hlt : k < l.length := by omega
    have hNu : NamesV u ys (.slice Av ys.length cv) := Sl.fr hNv hfu fun b X f _ hb => ⟨lt_at hb, hN.sec hb (by decide)⟩
    obtain ⟨b, o, c', he, hrd⟩ := name_at hNu (i := k) (by omega)
    injection he with e1 e2 e3
    subst e1
    have hname : ys[k]'(by omega) = (l[k]).1 := by simp [hyl]
    simp only [T.ty_24, T.fa_49_2, T.ld_4, T.st_4, T.fa_49_3, T.st_3, T.fa_44_0, T.fa_49_5, T.ld_1, T.ln_71, T.ia_71, T.ld_9, T.fa_49_0, T.ld_47, T.lk_47, T.ln_75, T.ia_75, T.fa_82_1, T.fa_44_1, T.ld_32, T.ln_32, T.ia_32, T.bd_82, T.st_82, T.mu_47, bx_eq, mm_eq, nc_eq, cnd_eq, bcond_true, bcond_false, pk_eq, pk_int, ex_eq, ldc_some, un_not, un_neg, mn_eq, mx_eq, bin_add, bin_sub, bin_mul, bin_lss, bin_leq, bin_gtr, bin_geq, bin_eql, bin_neq, bin_peq, bin_pne, bin_beq, bin_bne, bin_leqn, bin_lnen, bin_seq, bin_sne, bin_sge, bin_slt, rdc_cells, mapEs_some, frz_none, Nat.zero_add, Nat.add_zero, List.getElem?_toArray, List.getElem?_cons_zero, List.getElem?_cons_succ, Option.isNone_some, Option.isNone_none, Bool.not_true, Bool.not_false, ite_true, ite_false, Bool.false_eq_true, true_and, and_true, forall_const, false_implies, reduceCtorEq, Bool.true_eq_false, Nat.reduceAdd, Nat.reduceMul, Nat.reduceLT, Nat.reduceSub, Int.reduceEq, Int.reduceLT, decide_true, decide_false, List.setIfInBounds_toArray, List.set_cons_zero, List.set_cons_succ, List.size_toArray, List.length_cons, List.length_nil, frz00, one_int, one_bool, one_ptr, one_str, one_slice, one_map, one_func, one_nil, one_niliface, size_put, size_alloc, put_same, st1_put, bsc_empty, List.nil_append, List.append_nil, List.map_cons, List.map_nil, cells_ptr, cells_str, cells_int, cells_bool, cells_slice, cells_agg, cells_map, fillB_one, fillB_nil, bdc, Int.toNat_natCast, Nat.mul_one, hrd, hname, hu.blk, hu.map]
    refine ⟨by omega, by omega, ?_⟩
    obtain ⟨hfat, hfset⟩ := fate_aset hlt hnod hpu (keep := keep)
    obtain ⟨vl, hvl1, hvl2⟩ := hu.look (l[k]).1
    refine hvl2 _ ?_
    simp only at hvl1
    rw [hfat] at hvl1
    have hLtot := total_take l k hlt
    have hi0 := fateFs_num keep (l.take k)
    generalize hL : (l[k]).2 = L at hvl1 hLtot hfset
    generalize hi : (fateFs keep (l.take k)).2 = i0 at hi0 hfset
    refine clone_sectors hvl1 (by unfold small; omega) fun v2 u2 ho2 hf2 => ?_
    obtain ⟨A2, c2, rfl, _⟩ := ho2.2.sl.shape
    simp only [T.ty_24, T.fa_49_2, T.ld_4, T.st_4, T.fa_49_3, T.st_3, T.fa_44_0, T.fa_49_5, T.ld_1, T.ln_71, T.ia_71, T.ld_9, T.fa_49_0, T.ld_47, T.lk_47, T.ln_75, T.ia_75, T.fa_82_1, T.fa_44_1, T.ld_32, T.ln_32, T.ia_32, T.bd_82, T.st_82, T.mu_47, bx_eq, mm_eq, nc_eq, cnd_eq, bcond_true, bcond_false, pk_eq, pk_int, ex_eq, ldc_some, un_not, un_neg, mn_eq, mx_eq, bin_add, bin_sub, bin_mul, bin_lss, bin_leq, bin_gtr, bin_geq, bin_eql, bin_neq, bin_peq, bin_pne, bin_beq, bin_bne, bin_leqn, bin_lnen, bin_seq, bin_sne, bin_sge, bin_slt, rdc_cells, mapEs_some, frz_none, Nat.zero_add, Nat.add_zero, List.getElem?_toArray, List.getElem?_cons_zero, List.getElem?_cons_succ, Option.isNone_some, Option.isNone_none, Bool.not_true, Bool.not_false, ite_true, ite_false, Bool.false_eq_true, true_and, and_true, forall_const, false_implies, reduceCtorEq, Bool.true_eq_false, Nat.reduceAdd, Nat.reduceMul, Nat.reduceLT, Nat.reduceSub, Int.reduceEq, Int.reduceLT, decide_true, decide_false, List.setIfInBounds_toArray, List.set_cons_zero, List.set_cons_succ, List.size_toArray, List.length_cons, List.length_nil, frz00, one_int, one_bool, one_ptr, one_str, one_slice, one_map, one_func, one_nil, one_niliface, size_put, size_alloc, put_same, st1_put, bsc_empty, List.nil_append, List.append_nil, List.map_cons, List.map_nil, cells_ptr, cells_str, cells_int, cells_bool, cells_slice, cells_agg, cells_map, fillB_one, fillB_nil, bdc]
    refine ⟨fun s z => ∃ j : Nat, s = [.int .i64 ((fateRun keep i0 (L.take j)).2 : Nat), .int .i64 j] ∧ j ≤ L.length ∧ Fr u.heap.size No u z ∧ OwS u.heap.size z ((fateRun keep i0 (L.take j)).1 ++ List.drop j L) (.slice A2 L.length c2), fun s _ => match s with | [_, .int _ i] => (L.length - i).toNat | _ => 0, ⟨0, rfl, Nat.zero_le _, hf2, by simpa [fateRun] using ho2⟩, ?_⟩
    rintro g3 z3 ⟨j, hg4, hj, hfz3, hO3⟩
    simp only [List.map_cons, List.map_nil, List.cons.injEq, and_true] at hg4
    obtain ⟨hg4, hg5⟩ := hg4
    simp only [hg4, hg5, T.ty_24, T.fa_49_2, T.ld_4, T.st_4, T.fa_49_3, T.st_3, T.fa_44_0, T.fa_49_5, T.ld_1, T.ln_71, T.ia_71, T.ld_9, T.fa_49_0, T.ld_47, T.lk_47, T.ln_75, T.ia_75, T.fa_82_1, T.fa_44_1, T.ld_32, T.ln_32, T.ia_32, T.bd_82, T.st_82, T.mu_47, bx_eq, mm_eq, nc_eq, cnd_eq, bcond_true, bcond_false, pk_eq, pk_int, ex_eq, ldc_some, un_not, un_neg, mn_eq, mx_eq, bin_add, bin_sub, bin_mul, bin_lss, bin_leq, bin_gtr, bin_geq, bin_eql, bin_neq, bin_peq, bin_pne, bin_beq, bin_bne, bin_leqn, bin_lnen, bin_seq, bin_sne, bin_sge, bin_slt, rdc_cells, mapEs_some, frz_none, Nat.zero_add, Nat.add_zero, List.getElem?_toArray, List.getElem?_cons_zero, List.getElem?_cons_succ, Option.isNone_some, Option.isNone_none, Bool.not_true, Bool.not_false, ite_true, ite_false, Bool.false_eq_true, true_and, and_true, forall_const, false_implies, reduceCtorEq, Bool.true_eq_false, Nat.reduceAdd, Nat.reduceMul, Nat.reduceLT, Nat.reduceSub, Int.reduceEq, Int.reduceLT, decide_true, decide_false, List.setIfInBounds_toArray, List.set_cons_zero, List.set_cons_succ, List.size_toArray, List.length_cons, List.length_nil, frz00, one_int, one_bool, one_ptr, one_str, one_slice, one_map, one_func, one_nil, one_niliface, size_put, size_alloc, put_same, st1_put, bsc_empty, List.nil_append, List.append_nil, List.map_cons, List.map_nil, cells_ptr, cells_str, cells_int, cells_bool, cells_slice, cells_agg, cells_map, fillB_one, fillB_nil, bdc]
    rw [bcond_dec]
    have hnum := fateRun_num keep i0 (L.take j)
    have hruns := fateRun_len keep i0 (L.take j)
    have hmlen : ((fateRun keep i0 (L.take j)).1 ++ List.drop j L).length = L.length := by rw [List.length_append, hruns, List.length_take, List.length_drop]; omega
    rw [List.length_take] at hnum hruns
    refine ⟨fun hjl => ?_, fun hjge => ?_⟩
    · have hjl : j < L.length := by omega
      obtain ⟨b3, o3, c3', he3, hrd3⟩ := sync_at hO3 (by rw [hmlen]; exact hjl)
      rw [hmlen] at he3
      injection he3 with e1 e2 e3
      subst e1; subst e3
      have hruns : (fateRun keep i0 (L.take j)).1.length = j := by omega
      have hget := mid_get hruns hjl (by rw [hmlen]; exact hjl)
      rw [hget] at hrd3
      simp only [T.ty_24, T.fa_49_2, T.ld_4, T.st_4, T.fa_49_3, T.st_3, T.fa_44_0, T.fa_49_5, T.ld_1, T.ln_71, T.ia_71, T.ld_9, T.fa_49_0, T.ld_47, T.lk_47, T.ln_75, T.ia_75, T.fa_82_1, T.fa_44_1, T.ld_32, T.ln_32, T.ia_32, T.bd_82, T.st_82, T.mu_47, bx_eq, mm_eq, nc_eq, cnd_eq, bcond_true, bcond_false, pk_eq, pk_int, ex_eq, ldc_some, un_not, un_neg, mn_eq, mx_eq, bin_add, bin_sub, bin_mul, bin_lss, bin_leq, bin_gtr, bin_geq, bin_eql, bin_neq, bin_peq, bin_pne, bin_beq, bin_bne, bin_leqn, bin_lnen, bin_seq, bin_sne, bin_sge, bin_slt, rdc_cells, mapEs_some, frz_none, Nat.zero_add, Nat.add_zero, List.getElem?_toArray, List.getElem?_cons_zero, List.getElem?_cons_succ, Option.isNone_some, Option.isNone_none, Bool.not_true, Bool.not_false, ite_true, ite_false, Bool.false_eq_true, true_and, and_true, forall_const, false_implies, reduceCtorEq, Bool.true_eq_false, Nat.reduceAdd, Nat.reduceMul, Nat.reduceLT, Nat.reduceSub, Int.reduceEq, Int.reduceLT, decide_true, decide_false, List.setIfInBounds_toArray, List.set_cons_zero, List.set_cons_succ, List.size_toArray, List.length_cons, List.length_nil, frz00, one_int, one_bool, one_ptr, one_str, one_slice, one_map, one_func, one_nil, one_niliface, size_put, size_alloc, put_same, st1_put, bsc_empty, List.nil_append, List.append_nil, List.map_cons, List.map_nil, cells_ptr, cells_str, cells_int, cells_bool, cells_slice, cells_agg, cells_map, fillB_one, fillB_nil, bdc, Int.toNat_natCast, hrd3]
      refine ⟨fun s z' => s = [.int .i64 ((fateRun keep i0 (L.take (j + 1))).2 : Nat)] ∧ Fr u.heap.size No u z' ∧ OwS u.heap.size z' ((fateRun keep i0 (L.take (j + 1))).1 ++ List.drop (j + 1) L) (.slice (some ⟨b3, o3, none⟩) L.length c2), ⟨by omega, by omega, ?_⟩, ?_⟩
      · rw [bcond_iff]
        have hstep : fateRun keep i0 (L.take (j + 1)) = fateStep keep (fateRun keep i0 (L.take j)) L[j] := fateRun_succ hjl
        have hatz : z3.heap[w.heap.size]? = some (.cells #[.bool done, kv] 44 (0, 0)) := young_at hfz3 hatu
        refine ⟨fun hsy => ?_, fun hsy => ?_⟩
        · have hsy : L[j].sy = false := by simpa using hsy
          have hnum2 : (fateRun keep i0 (L.take j)).2 < 2 ^ 37 := by omega
          clear hget hrd3
          generalize fateRun keep i0 (L.take j) = q at hO3 hruns hstep hnum2 hmlen hnum hg4 ⊢
          refine ⟨fun _ z' => Fr u.heap.size No u z' ∧ OwS u.heap.size z' (q.1 ++ [⟨if keep.getD q.2 false then L[j].by_ else List.replicate 32 0, false⟩] ++ List.drop (j + 1) L) (.slice (some ⟨b3, o3, none⟩) L.length c2), ?_, ?_⟩
          · have hfl := hflag z3 (hfwu.then hfz3 hfwu.1 fun _ _ h => h.elim)
            obtain ⟨KA, kc, rfl⟩ := hfl.shape
            obtain ⟨b4, o4, c4, he4, hst1, hst2⟩ := own_set hO3 (by rw [hmlen]; exact hjl)
            rw [hmlen] at he4
            injection he4 with he4 _ _; injection he4 with he4; injection he4 with e1 e2
            subst e1; subst e2
            have hlose : keep.getD q.2 false = false → 0 ≤ (j : Int) ∧ (j : Int) < L.length ∧ stN z3 b3 (o3 + j * 33) 33 (.agg #[.int .u8 0, .int .u8 0, .int .u8 0, .int .u8 0, .int .u8 0, .int .u8 0, .int .u8 0, .int .u8 0, .int .u8 0, .int .u8 0, .int .u8 0, .int .u8 0, .int .u8 0, .int .u8 0, .int .u8 0, .int .u8 0, .int .u8 0, .int .u8 0, .int .u8 0, .int .u8 0, .int .u8 0, .int .u8 0, .int .u8 0, .int .u8 0, .int .u8 0, .int .u8 0, .int .u8 0, .int .u8 0, .int .u8 0, .int .u8 0, .int .u8 0, .int .u8 0, .bool false]) fun w => Fr u.heap.size No u w ∧ OwS u.heap.size w (q.1 ++ [⟨if keep.getD q.2 false then L[j].by_ else List.replicate 32 0, false⟩] ++ List.drop (j + 1) L) (.slice (some ⟨b3, o3, none⟩) L.length c2) := fun hk => by
              refine ⟨by omega, by omega, ?_⟩
              refine hst2 _ fun w' hO5 hf5 => ⟨hfz3.trans hf5, ?_⟩
              rw [mid_set hruns hjl] at hO5
              rw [hk]; exact hO5
            simp only [hatz, T.ty_24, T.fa_49_2, T.ld_4, T.st_4, T.fa_49_3, T.st_3, T.fa_44_0, T.fa_49_5, T.ld_1, T.ln_71, T.ia_71, T.ld_9, T.fa_49_0, T.ld_47, T.lk_47, T.ln_75, T.ia_75, T.fa_82_1, T.fa_44_1, T.ld_32, T.ln_32, T.ia_32, T.bd_82, T.st_82, T.mu_47, bx_eq, mm_eq, nc_eq, cnd_eq, bcond_true, bcond_false, pk_eq, pk_int, ex_eq, ldc_some, un_not, un_neg, mn_eq, mx_eq, bin_add, bin_sub, bin_mul, bin_lss, bin_leq, bin_gtr, bin_geq, bin_eql, bin_neq, bin_peq, bin_pne, bin_beq, bin_bne, bin_leqn, bin_lnen, bin_seq, bin_sne, bin_sge, bin_slt, rdc_cells, mapEs_some, frz_none, Nat.zero_add, Nat.add_zero, List.getElem?_toArray, List.getElem?_cons_zero, List.getElem?_cons_succ, Option.isNone_some, Option.isNone_none, Bool.not_true, Bool.not_false, ite_true, ite_false, Bool.false_eq_true, true_and, and_true, forall_const, false_implies, reduceCtorEq, Bool.true_eq_false, Nat.reduceAdd, Nat.reduceMul, Nat.reduceLT, Nat.reduceSub, Int.reduceEq, Int.reduceLT, decide_true, decide_false, List.setIfInBounds_toArray, List.set_cons_zero, List.set_cons_succ, List.size_toArray, List.length_cons, List.length_nil, frz00, one_int, one_bool, one_ptr, one_str, one_slice, one_map, one_func, one_nil, one_niliface, size_put, size_alloc, put_same, st1_put, bsc_empty, List.nil_append, List.append_nil, List.map_cons, List.map_nil, cells_ptr, cells_str, cells_int, cells_bool, cells_slice, cells_agg, cells_map, fillB_one, fillB_nil, bdc]
            rw [bcond_dec]
            refine ⟨fun hge => ?_, fun hlt2 => ?_⟩
            · have hk : keep.getD q.2 false = false := by rw [List.getD_eq_getElem?_getD, List.getElem?_eq_none (by omega)]; rfl
              simpa using hlose hk
            · have hq2 : q.2 < keep.length := by omega
              obtain ⟨b5, o5, c5, he5, hrd5⟩ := flag_at hfl hq2
              injection he5 with e1 e2 e3
              subst e1
              simp only [T.ty_24, T.fa_49_2, T.ld_4, T.st_4, T.fa_49_3, T.st_3, T.fa_44_0, T.fa_49_5, T.ld_1, T.ln_71, T.ia_71, T.ld_9, T.fa_49_0, T.ld_47, T.lk_47, T.ln_75, T.ia_75, T.fa_82_1, T.fa_44_1, T.ld_32, T.ln_32, T.ia_32, T.bd_82, T.st_82, T.mu_47, bx_eq, mm_eq, nc_eq, cnd_eq, bcond_true, bcond_false, pk_eq, pk_int, ex_eq, ldc_some, un_not, un_neg, mn_eq, mx_eq, bin_add, bin_sub, bin_mul, bin_lss, bin_leq, bin_gtr, bin_geq, bin_eql, bin_neq, bin_peq, bin_pne, bin_beq, bin_bne, bin_leqn, bin_lnen, bin_seq, bin_sne, bin_sge, bin_slt, rdc_cells, mapEs_some, frz_none, Nat.zero_add, Nat.add_zero, List.getElem?_toArray, List.getElem?_cons_zero, List.getElem?_cons_succ, Option.isNone_some, Option.isNone_none, Bool.not_true, Bool.not_false, ite_true, ite_false, Bool.false_eq_true, true_and, and_true, forall_const, false_implies, reduceCtorEq, Bool.true_eq_false, Nat.reduceAdd, Nat.reduceMul, Nat.reduceLT, Nat.reduceSub, Int.reduceEq, Int.reduceLT, decide_true, decide_false, List.setIfInBounds_toArray, List.set_cons_zero, List.set_cons_succ, List.size_toArray, List.length_cons, List.length_nil, frz00, one_int, one_bool, one_ptr, one_str, one_slice, one_map, one_func, one_nil, one_niliface, size_put, size_alloc, put_same, st1_put, bsc_empty, List.nil_append, List.append_nil, List.map_cons, List.map_nil, cells_ptr, cells_str, cells_int, cells_bool, cells_slice, cells_agg, cells_map, fillB_one, fillB_nil, bdc, Int.toNat_natCast, Nat.mul_one, hrd5]
              refine ⟨by omega, by omega, ?_⟩
              rw [bcond_iff]
              have hkv : keep.getD q.2 false = keep[q.2] := by rw [List.getD_eq_getElem?_getD, List.getElem?_eq_getElem hq2]; rfl
              refine ⟨fun hk => ?_, fun hk => ?_⟩
              · simpa using hlose (by rw [hkv]; simpa using hk)
              · have hk : keep[q.2] = true := by simpa using hk
                refine ⟨hfz3, ?_⟩
                rw [hkv, hk, if_pos rfl]
                have : (⟨L[j].by_, false⟩ : Sec) = L[j] := by rw [← hsy]
                rw [this, List.append_assoc, List.singleton_append, ← List.drop_eq_getElem_cons hjl]
                exact hO3
          · rintro g5 z5 ⟨hfz5, hO5⟩
            have hmlen5 : (q.1 ++ [(⟨if keep.getD q.2 false then L[j].by_ else List.replicate 32 0, false⟩ : Sec)] ++ List.drop (j + 1) L).length = L.length := by simp [hruns]; omega
            obtain ⟨b6, o6, c6, he6, hst1, _⟩ := own_set hO5 (j := j) (by rw [hmlen5]; exact hjl)
            rw [hmlen5] at he6
            injection he6 with he6 _ _; injection he6 with he6; injection he6 with e1 e2
            subst e1; subst e2
            have hw1q : IntKind.i64.wrap ((q.2 : Int) + 1) = ((q.2 + 1 : Nat) : Int) := by rw [IntWalk.i64_in _ (by omega)]; omega
            simp only [T.ty_24, T.fa_49_2, T.ld_4, T.st_4, T.fa_49_3, T.st_3, T.fa_44_0, T.fa_49_5, T.ld_1, T.ln_71, T.ia_71, T.ld_9, T.fa_49_0, T.ld_47, T.lk_47, T.ln_75, T.ia_75, T.fa_82_1, T.fa_44_1, T.ld_32, T.ln_32, T.ia_32, T.bd_82, T.st_82, T.mu_47, bx_eq, mm_eq, nc_eq, cnd_eq, bcond_true, bcond_false, pk_eq, pk_int, ex_eq, ldc_some, un_not, un_neg, mn_eq, mx_eq, bin_add, bin_sub, bin_mul, bin_lss, bin_leq, bin_gtr, bin_geq, bin_eql, bin_neq, bin_peq, bin_pne, bin_beq, bin_bne, bin_leqn, bin_lnen, bin_seq, bin_sne, bin_sge, bin_slt, rdc_cells, mapEs_some, frz_none, Nat.zero_add, Nat.add_zero, List.getElem?_toArray, List.getElem?_cons_zero, List.getElem?_cons_succ, Option.isNone_some, Option.isNone_none, Bool.not_true, Bool.not_false, ite_true, ite_false, Bool.false_eq_true, true_and, and_true, forall_const, false_implies, reduceCtorEq, Bool.true_eq_false, Nat.reduceAdd, Nat.reduceMul, Nat.reduceLT, Nat.reduceSub, Int.reduceEq, Int.reduceLT, decide_true, decide_false, List.setIfInBounds_toArray, List.set_cons_zero, List.set_cons_succ, List.size_toArray, List.length_cons, List.length_nil, frz00, one_int, one_bool, one_ptr, one_str, one_slice, one_map, one_func, one_nil, one_niliface, size_put, size_alloc, put_same, st1_put, bsc_empty, List.nil_append, List.append_nil, List.map_cons, List.map_nil, cells_ptr, cells_str, cells_int, cells_bool, cells_slice, cells_agg, cells_map, fillB_one, fillB_nil, bdc, Int.toNat_natCast, hw1q]
            refine ⟨by omega, by omega, ?_⟩
            refine hst1 _ fun w' hO6 hf6 => ?_
            rw [one_get hruns, one_set hruns] at hO6
            rw [hstep]
            unfold fateStep
            rw [hsy]
            exact ⟨rfl, hfz5.trans hf6, hO6⟩
        · have hsy : L[j].sy = true := by simpa using hsy
          obtain ⟨b6, o6, c6, he6, hst1, _⟩ := own_set hO3 (j := j) (by rw [hmlen]; exact hjl)
          rw [hmlen] at he6
          injection he6 with he6 _ _; injection he6 with he6; injection he6 with e1 e2
          subst e1; subst e2
          refine ⟨by omega, by omega, ?_⟩
          refine hst1 _ fun w' hO6 hf6 => ?_
          rw [mid_set hruns hjl, hget] at hO6
          have : L[j].sync = L[j] := by unfold Sec.sync; rw [← hsy]
          rw [this] at hO6
          rw [hstep]
          unfold fateStep
          rw [hsy]
          exact ⟨rfl, hfz3.trans hf6, hO6⟩
      · rintro g4 z4 ⟨hg6, hfz4, hO4⟩
        simp only [List.map_cons, List.map_nil, List.cons.injEq, and_true] at hg6
        have hw1j : IntKind.i64.wrap ((j : Int) + 1) = ((j + 1 : Nat) : Int) := by rw [IntWalk.i64_in _ (by omega)]; omega
        simp only [hg6, bx_eq, mm_eq, nc_eq, cnd_eq, bcond_true, bcond_false, pk_eq, pk_int, ex_eq, ldc_some, un_not, un_neg, mn_eq, mx_eq, bin_add, bin_sub, bin_mul, bin_lss, bin_leq, bin_gtr, bin_geq, bin_eql, bin_neq, bin_peq, bin_pne, bin_beq, bin_bne, bin_leqn, bin_lnen, bin_seq, bin_sne, bin_sge, bin_slt, rdc_cells, mapEs_some, frz_none, Nat.zero_add, Nat.add_zero, List.getElem?_toArray, List.getElem?_cons_zero, List.getElem?_cons_succ, Option.isNone_some, Option.isNone_none, Bool.not_true, Bool.not_false, ite_true, ite_false, Bool.false_eq_true, true_and, and_true, forall_const, false_implies, reduceCtorEq, Bool.true_eq_false, Nat.reduceAdd, Nat.reduceMul, Nat.reduceLT, Nat.reduceSub, Int.reduceEq, Int.reduceLT, decide_true, decide_false, List.setIfInBounds_toArray, List.set_cons_zero, List.set_cons_succ, List.size_toArray, List.length_cons, List.length_nil, frz00, one_int, one_bool, one_ptr, one_str, one_slice, one_map, one_func, one_nil, one_niliface, size_put, size_alloc, put_same, st1_put, bsc_empty, List.nil_append, List.append_nil, List.map_cons, List.map_nil, cells_ptr, cells_str, cells_int, cells_bool, cells_slice, cells_agg, cells_map, fillB_one, fillB_nil, bdc, hw1j]
        exact ⟨⟨j + 1, rfl, by omega, hfz4, hO4⟩, by omega⟩
    · have hjL : j = L.length := by omega
      subst hjL
      rw [List.take_length, List.drop_length, List.append_nil] at hO3
      rw [List.take_length]
      have hd3 := hu.young hfz3
      simp only [hd3.blk, T.ty_24, T.fa_49_2, T.ld_4, T.st_4, T.fa_49_3, T.st_3, T.fa_44_0, T.fa_49_5, T.ld_1, T.ln_71, T.ia_71, T.ld_9, T.fa_49_0, T.ld_47, T.lk_47, T.ln_75, T.ia_75, T.fa_82_1, T.fa_44_1, T.ld_32, T.ln_32, T.ia_32, T.bd_82, T.st_82, T.mu_47, bx_eq, mm_eq, nc_eq, cnd_eq, bcond_true, bcond_false, pk_eq, pk_int, ex_eq, ldc_some, un_not, un_neg, mn_eq, mx_eq, bin_add, bin_sub, bin_mul, bin_lss, bin_leq, bin_gtr, bin_geq, bin_eql, bin_neq, bin_peq, bin_pne, bin_beq, bin_bne, bin_leqn, bin_lnen, bin_seq, bin_sne, bin_sge, bin_slt, rdc_cells, mapEs_some, frz_none, Nat.zero_add, Nat.add_zero, List.getElem?_toArray, List.getElem?_cons_zero, List.getElem?_cons_succ, Option.isNone_some, Option.isNone_none, Bool.not_true, Bool.not_false, ite_true, ite_false, Bool.false_eq_true, true_and, and_true, forall_const, false_implies, reduceCtorEq, Bool.true_eq_false, Nat.reduceAdd, Nat.reduceMul, Nat.reduceLT, Nat.reduceSub, Int.reduceEq, Int.reduceLT, decide_true, decide_false, List.setIfInBounds_toArray, List.set_cons_zero, List.set_cons_succ, List.size_toArray, List.length_cons, List.length_nil, frz00, one_int, one_bool, one_ptr, one_str, one_slice, one_map, one_func, one_nil, one_niliface, size_put, size_alloc, put_same, st1_put, bsc_empty, List.nil_append, List.append_nil, List.map_cons, List.map_nil, cells_ptr, cells_str, cells_int, cells_bool, cells_slice, cells_agg, cells_map, fillB_one, fillB_nil, bdc]
      refine mu_mp hd3.mp hd3.map (l[k]).1 (fateRun keep i0 L).1 _ hO3.v _ fun es' c' hm => ?_
      have hw1k : IntKind.i64.wrap ((k : Int) + 1) = ((k + 1 : Nat) : Int) := by rw [IntWalk.i64_in _ (by omega)]; omega
      simp only [hw1k]
      have hfz3' : Fr wN.heap.size (D.own d) wN z3 := hfu.then hfz3 hfu.1 fun _ _ h => h.elim
      refine ⟨⟨k + 1, ?_, by omega, hfz3'.put (.inl (.inr rfl)), aset fs' (l[k]).1 (fateRun keep i0 L).1, _, _, _, hd3.putMap (D' := { D.back done with fs := aset fs' (l[k]).1 (fateRun keep i0 L).1 }) rfl hm, hfset⟩, by omega⟩
      have : (fateFs keep (l.take (k + 1))).2 = (fateRun keep i0 L).2 := by rw [fateFs_succ hlt]; simp only [fateFsStep, hi, hL]
      rw [this]
  · have : k = l.length := by omega
    subst this
    rw [List.take_length, List.drop_length, List.append_nil] at hpu
    exact hR u fs' hpu ⟨_, _, _, hu⟩ hfwu
theorem disk_Restart_nil {w : World} {done : Bool} {kv : Value} {R : Value → World → Prop} (hR : ∀ w', Fr w.heap.size No w w' → R (.int .i64 7) w') : cl Tryd.prog 13 #[.pointer none, .agg #[.bool done, kv]] w R := by
  refine C.disk_Disk_Restart ?_
  unfold F.disk_Disk_Restart
  simp only [bx_eq, T.ty_24, T.fa_49_2, T.ld_4, T.st_4, T.fa_49_3, T.st_3, T.fa_44_0, T.fa_49_5, T.ld_1, T.ln_71, T.ia_71, T.ld_9, T.fa_49_0, T.ld_47, T.lk_47, T.ln_75, T.ia_75, T.fa_82_1, T.fa_44_1, T.ld_32, T.ln_32, T.ia_32, T.bd_82, T.st_82, T.mu_47, bx_eq, mm_eq, nc_eq, cnd_eq, bcond_true, bcond_false, pk_eq, pk_int, ex_eq, ldc_some, un_not, un_neg, mn_eq, mx_eq, bin_add, bin_sub, bin_mul, bin_lss, bin_leq, bin_gtr, bin_geq, bin_eql, bin_neq, bin_peq, bin_pne, bin_beq, bin_bne, bin_leqn, bin_lnen, bin_seq, bin_sne, bin_sge, bin_slt, rdc_cells, mapEs_some, frz_none, Nat.zero_add, Nat.add_zero, List.getElem?_toArray, List.getElem?_cons_zero, List.getElem?_cons_succ, Option.isNone_some, Option.isNone_none, Bool.not_true, Bool.not_false, ite_true, ite_false, Bool.false_eq_true, true_and, and_true, forall_const, false_implies, reduceCtorEq, Bool.true_eq_false, Nat.reduceAdd, Nat.reduceMul, Nat.reduceLT, Nat.reduceSub, Int.reduceEq, Int.reduceLT, decide_true, decide_false, List.setIfInBounds_toArray, List.set_cons_zero, List.set_cons_succ, List.size_toArray, List.length_cons, List.length_nil, frz00, one_int, one_bool, one_ptr, one_str, one_slice, one_map, one_func, one_nil, one_niliface, size_put, size_alloc, put_same, st1_put, bsc_empty, List.nil_append, List.append_nil, List.map_cons, List.map_nil, cells_ptr, cells_str, cells_int, cells_bool, cells_slice, cells_agg, cells_map, fillB_one, fillB_nil, bdc]
  exact hR _ (Fr.refl.alloc (Nat.le_refl _))
end Go.Proofs.YtppefblkmgihoaaDoor
