/- The disk: Names. -/
import Derived.Test.YtppefblkmgihoaaDoorDA
set_option linter.unusedVariables false
set_option linter.unusedSimpArgs false
set_option maxRecDepth 10000
namespace Go.Proofs.YtppefblkmgihoaaDoor
open Go.Sh Go.Sort

/-- The keys of a map, one by one, in some order. -/
theorem keys_seq {w : World} {bm m : Nat} {V : List Sec → Value → Prop} {es : Array MapEntry} {c : Nat} {l : Files} (hm : Mp strK V es c l) (h1 : w.heap[bm]? = some (.cells #[.map (some m)] 47 (0, 0))) (h2 : w.heap[m]? = some (.map es c)) :
    SeqStopsK (Wd none) 7 Tryd.prog 65 #[ptr bm] (fun s : ByteArray => #[.string s]) KeepsWalks (fun ys => ys.Perm (l.map (·.1))) (fun _ => True) l.length w := by
  intro lp J Jx W hW hJ hJx hY h0
  have h1 := (hW.block bm (lt_at h1)).trans h1
  have h2 := (hW.block m (lt_at h2)).trans h2
  have hml := lt_at h2
  have main : cl Tryd.prog 65 #[.func (.yield lp) #[] #[], ptr bm] W (fun v W' => (∃ xs : List ByteArray, xs.Perm (l.map (·.1)) ∧ J xs W') ∨ (∃ pre, Jx pre W')) := by
    refine C.maps_Keys_mapstring_disk_sector_string_disk_sector_1 ?_
    unfold F.maps_Keys_mapstring_disk_sector_string_disk_sector_1
    simp only [T.ld_47, T.rg_47, bx_eq, mm_eq, nc_eq, cnd_eq, bcond_true, bcond_false, pk_eq, pk_int, ex_eq, ldc_some, un_not, un_neg, mn_eq, mx_eq, bin_add, bin_sub, bin_mul, bin_lss, bin_leq, bin_gtr, bin_geq, bin_eql, bin_neq, bin_peq, bin_pne, bin_beq, bin_bne, bin_leqn, bin_lnen, bin_seq, bin_sne, bin_sge, bin_slt, rdc_cells, mapEs_some, frz_none, Nat.zero_add, Nat.add_zero, List.getElem?_toArray, List.getElem?_cons_zero, List.getElem?_cons_succ, Option.isNone_some, Option.isNone_none, Bool.not_true, Bool.not_false, ite_true, ite_false, Bool.false_eq_true, true_and, and_true, forall_const, false_implies, reduceCtorEq, Bool.true_eq_false, Nat.reduceAdd, Nat.reduceMul, Nat.reduceLT, Nat.reduceSub, Int.reduceEq, Int.reduceLT, decide_true, decide_false, List.setIfInBounds_toArray, List.set_cons_zero, List.set_cons_succ, List.size_toArray, List.length_cons, List.length_nil, frz00, one_int, one_bool, one_ptr, one_str, one_slice, one_map, one_func, one_nil, one_niliface, size_put, size_alloc, put_same, st1_put, bsc_empty, List.nil_append, List.append_nil, List.map_cons, List.map_nil, cells_ptr, cells_str, cells_int, cells_bool, cells_slice, cells_agg, cells_map, fillB_one, fillB_nil, bdc, h1, h2, ptr, rgc]
    refine ⟨fun s u => ∃ done rest seen, (done ++ rest).Perm l ∧ u.heap[W.heap.size]? = some (.mapIter (some m) c seen c) ∧ It strK V es seen done rest ∧ u.heap[m]? = some (.map es c) ∧ J (done.map (·.1)) u, fun s u => match u.heap[W.heap.size]? with | some (.mapIter _ _ seen _) => es.size - seen.size | _ => 0, ⟨[], l, #[], by simp, alloc_at rfl, It.init hm, by rw [alloc_lt hml]; exact h2, hJ _ W _ none h0 (World.grownBy_alloc W _ none) (fun r e => by cases e)⟩, ?_⟩
    rintro g u ⟨done, rest, seen, hp, hs, hit, hmu, hJu⟩
    refine nx_mp hm hit hs hmu (fun hr u' hu' => ?_) (fun p rest' v seen' u' hpp hv hit' hu' hcur => ?_)
    · simp only [bx_eq, mm_eq, nc_eq, cnd_eq, bcond_true, bcond_false, pk_eq, pk_int, ex_eq, ldc_some, un_not, un_neg, mn_eq, mx_eq, bin_add, bin_sub, bin_mul, bin_lss, bin_leq, bin_gtr, bin_geq, bin_eql, bin_neq, bin_peq, bin_pne, bin_beq, bin_bne, bin_leqn, bin_lnen, bin_seq, bin_sne, bin_sge, bin_slt, rdc_cells, mapEs_some, frz_none, Nat.zero_add, Nat.add_zero, List.getElem?_toArray, List.getElem?_cons_zero, List.getElem?_cons_succ, Option.isNone_some, Option.isNone_none, Bool.not_true, Bool.not_false, ite_true, ite_false, Bool.false_eq_true, true_and, and_true, forall_const, false_implies, reduceCtorEq, Bool.true_eq_false, Nat.reduceAdd, Nat.reduceMul, Nat.reduceLT, Nat.reduceSub, Int.reduceEq, Int.reduceLT, decide_true, decide_false, List.setIfInBounds_toArray, List.set_cons_zero, List.set_cons_succ, List.size_toArray, List.length_cons, List.length_nil, frz00, one_int, one_bool, one_ptr, one_str, one_slice, one_map, one_func, one_nil, one_niliface, size_put, size_alloc, put_same, st1_put, bsc_empty, List.nil_append, List.append_nil, List.map_cons, List.map_nil, cells_ptr, cells_str, cells_int, cells_bool, cells_slice, cells_agg, cells_map, fillB_one, fillB_nil, bdc]
      subst hr
      rw [List.append_nil] at hp
      refine .inl ⟨_, hp.map _, ?_⟩
      rcases hu' with rfl | rfl
      · exact hJu
      · exact hJ _ u u.drew none hJu (grownBy_drew _ _) (fun r e => by cases e)
    · have hJu' : J (done.map (·.1)) u' := by
        rcases hu' with rfl | rfl
        · exact hJu
        · exact hJ _ u u.drew none hJu (grownBy_drew _ _) (fun r e => by cases e)
      have hh : u'.heap = u.heap := by rcases hu' with rfl | rfl <;> rfl
      have hs' : u'.heap[W.heap.size]? = some (.mapIter (some m) c seen c) := by rw [hh]; exact hs
      have hmu' : u'.heap[m]? = some (.map es c) := by rw [hh]; exact hmu
      have hlt := lt_at hs'
      have hne : W.heap.size ≠ m := Nat.ne_of_gt hml
      generalize hu2 : u'.put W.heap.size (.mapIter (some m) c seen' c) = u2
      have hs2 : u2.heap[W.heap.size]? = some (.mapIter (some m) c seen' c) := by rw [← hu2]; exact put_same hlt
      have hm2 : u2.heap[m]? = some (.map es c) := by rw [← hu2, put_ne hne]; exact hmu'
      have hJ2 : J (done.map (·.1)) u2 := by
        rw [← hu2]
        exact hJ _ u' (u'.putObj W.heap.size (.mapIter (some m) c seen' c)) (some W.heap.size) hJu' (grownBy_putObj' _ _ _) (fun r e => by cases e; exact ⟨Nat.le_refl _, _, hs', rfl⟩)
      have hp2 : ((done ++ [p]) ++ rest').Perm l := by
        refine List.Perm.trans ?_ hp
        rw [List.append_assoc]
        exact List.Perm.append_left _ hpp
      have hlen : done.length < l.length := by have := hp2.length_eq; simp at this; omega
      simp only [bx_eq, mm_eq, nc_eq, cnd_eq, bcond_true, bcond_false, pk_eq, pk_int, ex_eq, ldc_some, un_not, un_neg, mn_eq, mx_eq, bin_add, bin_sub, bin_mul, bin_lss, bin_leq, bin_gtr, bin_geq, bin_eql, bin_neq, bin_peq, bin_pne, bin_beq, bin_bne, bin_leqn, bin_lnen, bin_seq, bin_sne, bin_sge, bin_slt, rdc_cells, mapEs_some, frz_none, Nat.zero_add, Nat.add_zero, List.getElem?_toArray, List.getElem?_cons_zero, List.getElem?_cons_succ, Option.isNone_some, Option.isNone_none, Bool.not_true, Bool.not_false, ite_true, ite_false, Bool.false_eq_true, true_and, and_true, forall_const, false_implies, reduceCtorEq, Bool.true_eq_false, Nat.reduceAdd, Nat.reduceMul, Nat.reduceLT, Nat.reduceSub, Int.reduceEq, Int.reduceLT, decide_true, decide_false, List.setIfInBounds_toArray, List.set_cons_zero, List.set_cons_succ, List.size_toArray, List.length_cons, List.length_nil, frz00, one_int, one_bool, one_ptr, one_str, one_slice, one_map, one_func, one_nil, one_niliface, size_put, size_alloc, put_same, st1_put, bsc_empty, List.nil_append, List.append_nil, List.map_cons, List.map_nil, cells_ptr, cells_str, cells_int, cells_bool, cells_slice, cells_agg, cells_map, fillB_one, fillB_nil, bdc]
      refine en_mp hs2 hm2 hcur ?_
      simp only [bx_eq, mm_eq, nc_eq, cnd_eq, bcond_true, bcond_false, pk_eq, pk_int, ex_eq, ldc_some, un_not, un_neg, mn_eq, mx_eq, bin_add, bin_sub, bin_mul, bin_lss, bin_leq, bin_gtr, bin_geq, bin_eql, bin_neq, bin_peq, bin_pne, bin_beq, bin_bne, bin_leqn, bin_lnen, bin_seq, bin_sne, bin_sge, bin_slt, rdc_cells, mapEs_some, frz_none, Nat.zero_add, Nat.add_zero, List.getElem?_toArray, List.getElem?_cons_zero, List.getElem?_cons_succ, Option.isNone_some, Option.isNone_none, Bool.not_true, Bool.not_false, ite_true, ite_false, Bool.false_eq_true, true_and, and_true, forall_const, false_implies, reduceCtorEq, Bool.true_eq_false, Nat.reduceAdd, Nat.reduceMul, Nat.reduceLT, Nat.reduceSub, Int.reduceEq, Int.reduceLT, decide_true, decide_false, List.setIfInBounds_toArray, List.set_cons_zero, List.set_cons_succ, List.size_toArray, List.length_cons, List.length_nil, frz00, one_int, one_bool, one_ptr, one_str, one_slice, one_map, one_func, one_nil, one_niliface, size_put, size_alloc, put_same, st1_put, bsc_empty, List.nil_append, List.append_nil, List.map_cons, List.map_nil, cells_ptr, cells_str, cells_int, cells_bool, cells_slice, cells_agg, cells_map, fillB_one, fillB_nil, bdc]
      obtain ⟨fn, tm, as1, bd1, hr, hrd⟩ := hY (done.map (·.1)) p.1 u2 hJ2 (by simpa using hlen)
      refine cf_yield (m := 7 - 1) ⟨fn, tm, as1, bd1, hr, hrd.mono ?_⟩
      rintro e w' (⟨rfl, hJ3, hK⟩ | ⟨rfl, hJ3⟩)
      · refine ⟨_, rfl, ?_⟩
        simp only [bx_eq, mm_eq, nc_eq, cnd_eq, bcond_true, bcond_false, pk_eq, pk_int, ex_eq, ldc_some, un_not, un_neg, mn_eq, mx_eq, bin_add, bin_sub, bin_mul, bin_lss, bin_leq, bin_gtr, bin_geq, bin_eql, bin_neq, bin_peq, bin_pne, bin_beq, bin_bne, bin_leqn, bin_lnen, bin_seq, bin_sne, bin_sge, bin_slt, rdc_cells, mapEs_some, frz_none, Nat.zero_add, Nat.add_zero, List.getElem?_toArray, List.getElem?_cons_zero, List.getElem?_cons_succ, Option.isNone_some, Option.isNone_none, Bool.not_true, Bool.not_false, ite_true, ite_false, Bool.false_eq_true, true_and, and_true, forall_const, false_implies, reduceCtorEq, Bool.true_eq_false, Nat.reduceAdd, Nat.reduceMul, Nat.reduceLT, Nat.reduceSub, Int.reduceEq, Int.reduceLT, decide_true, decide_false, List.setIfInBounds_toArray, List.set_cons_zero, List.set_cons_succ, List.size_toArray, List.length_cons, List.length_nil, frz00, one_int, one_bool, one_ptr, one_str, one_slice, one_map, one_func, one_nil, one_niliface, size_put, size_alloc, put_same, st1_put, bsc_empty, List.nil_append, List.append_nil, List.map_cons, List.map_nil, cells_ptr, cells_str, cells_int, cells_bool, cells_slice, cells_agg, cells_map, fillB_one, fillB_nil, bdc]
        have hs3 := hK.same _ _ hs2 rfl
        refine ⟨⟨done ++ [p], rest', seen', hp2, hs3, hit', hK.same _ _ hm2 rfl, by rw [List.map_append]; exact hJ3⟩, ?_⟩
        simp only [hs3, hs]
        obtain ⟨de, re, e1, e2, e3, e4⟩ := hit
        obtain ⟨de', re', e1', e2', e3', e4'⟩ := hit'
        have a1 : seen.size = done.length := by
          have := congrArg List.length e2; simp at this; rw [this, e3.length_eq]
        have a2 : seen'.size = done.length + 1 := by
          have := congrArg List.length e2'; simp at this; rw [this, e3'.length_eq]; simp
        have a3 : es.size = l.length := hm.size
        omega
      · refine ⟨_, rfl, ?_⟩
        simp only [bx_eq, mm_eq, nc_eq, cnd_eq, bcond_true, bcond_false, pk_eq, pk_int, ex_eq, ldc_some, un_not, un_neg, mn_eq, mx_eq, bin_add, bin_sub, bin_mul, bin_lss, bin_leq, bin_gtr, bin_geq, bin_eql, bin_neq, bin_peq, bin_pne, bin_beq, bin_bne, bin_leqn, bin_lnen, bin_seq, bin_sne, bin_sge, bin_slt, rdc_cells, mapEs_some, frz_none, Nat.zero_add, Nat.add_zero, List.getElem?_toArray, List.getElem?_cons_zero, List.getElem?_cons_succ, Option.isNone_some, Option.isNone_none, Bool.not_true, Bool.not_false, ite_true, ite_false, Bool.false_eq_true, true_and, and_true, forall_const, false_implies, reduceCtorEq, Bool.true_eq_false, Nat.reduceAdd, Nat.reduceMul, Nat.reduceLT, Nat.reduceSub, Int.reduceEq, Int.reduceLT, decide_true, decide_false, List.setIfInBounds_toArray, List.set_cons_zero, List.set_cons_succ, List.size_toArray, List.length_cons, List.length_nil, frz00, one_int, one_bool, one_ptr, one_str, one_slice, one_map, one_func, one_nil, one_niliface, size_put, size_alloc, put_same, st1_put, bsc_empty, List.nil_append, List.append_nil, List.map_cons, List.map_nil, cells_ptr, cells_str, cells_int, cells_bool, cells_slice, cells_agg, cells_map, fillB_one, fillB_nil, bdc]
        exact .inr ⟨_, hJ3⟩
  refine (callsIn_of_cl main).mono ?_
  rintro e w' ⟨v, rfl, h⟩
  refine ⟨⟨v, rfl⟩, ?_⟩
  rcases h with h | ⟨pre, h⟩
  · exact .inl h
  · exact .inr ⟨pre, trivial, h⟩

def OwN (N : Nat) (w : World) (l : List ByteArray) (v : Value) : Prop := Ow N 9 1 w v l.length (l.map .string)
theorem collect_keys {w : World} {bm m : Nat} {V : List Sec → Value → Prop} {es : Array MapEntry} {c : Nat} {l : Files} (hm : Mp strK V es c l) (h1 : w.heap[bm]? = some (.cells #[.map (some m)] 47 (0, 0))) (h2 : w.heap[m]? = some (.map es c)) (hl : small l.length) {R : Value → World → Prop}
    (hR : ∀ w' v xs, xs.Perm (l.map (·.1)) → OwN w.heap.size w' xs v → Fr w.heap.size No w w' → R v w') : cl Tryd.prog 69 #[.slice none 0 0, .func (.func 65) #[] #[ptr bm]] w R := by
  have hl : l.length < 2 ^ 36 := hl
  refine C.slices_AppendSeq_string_string ?_
  unfold F.slices_AppendSeq_string_string
  simp only [bx_eq, cells_slice]
  generalize hwr : w.alloc (.cells #[.slice none 0 0] 71) = wr
  have hfr : Fr w.heap.size No w wr := by rw [← hwr]; exact Fr.refl.alloc (Nat.le_refl _)
  have hszr : wr.heap.size = w.heap.size + 1 := by rw [← hwr, size_alloc]
  have hbl : wr.heap[w.heap.size]? = some (.cells #[.slice none 0 0] 71 (0, 0)) := by rw [← hwr]; exact alloc_at rfl
  refine ⟨ByteArray, 65, #[ptr bm], .string, KeepsWalks, fun ys => ys.Perm (l.map (·.1)), fun _ => True, l.length,
    fun pre W => Fr wr.heap.size (fun b => b = w.heap.size) wr W ∧ ∃ v, W.heap[w.heap.size]? = some (.cells #[v] 71 (0, 0)) ∧ OwN wr.heap.size W pre v, fun _ _ => False, ?_⟩
  refine { hg := rfl, ok := by kernel_rfl, seq := keys_seq hm (young_at hfr h1) (young_at hfr h2), trans := fun h k => h.trans k, book := fun W l o o' _ h _ hw => KeepsWalks.putObj _ h hw, own := ?_, ownx := fun _ _ _ _ h _ _ => h, start := ⟨Fr.refl, _, hbl, Ow.nil ..⟩, body := ?_, done := ?_, stop := fun _ _ _ _ _ h => h.elim }
  · rintro s W W' row ⟨hfW, v, hv, hO⟩ hgr hrow
    have hg2 := grown_fr hgr
    have hne : ∀ (b : Nat) (X : Array Value) (e : TypeId) (f : Nat × Nat), W.heap[b]? = some (.cells X e f) → ¬ row = some b := fun b X e f hb hr => by
      obtain ⟨_, o, ho, hc⟩ := hrow b hr
      rw [hb] at ho; cases ho; cases hc
    exact ⟨hfW.trans (hg2.mono hfW.1 fun b hb hr => by have := (hrow b hr).1; omega), v, hg2.at hv (lt_at hv) (hne _ _ _ _ hv), Ow.fr hO hg2 fun b X _ hb => hne _ _ _ _ hb⟩
  · rintro lp pre x W ⟨hfW, v, hv, hO⟩ hlen
    simp only [T.ld_71, T.bs_71_1, T.ap_71_71, T.st_71, bx_eq, mm_eq, nc_eq, cnd_eq, bcond_true, bcond_false, pk_eq, pk_int, ex_eq, ldc_some, un_not, un_neg, mn_eq, mx_eq, bin_add, bin_sub, bin_mul, bin_lss, bin_leq, bin_gtr, bin_geq, bin_eql, bin_neq, bin_peq, bin_pne, bin_beq, bin_bne, bin_leqn, bin_lnen, bin_seq, bin_sne, bin_sge, bin_slt, rdc_cells, mapEs_some, frz_none, Nat.zero_add, Nat.add_zero, List.getElem?_toArray, List.getElem?_cons_zero, List.getElem?_cons_succ, Option.isNone_some, Option.isNone_none, Bool.not_true, Bool.not_false, ite_true, ite_false, Bool.false_eq_true, true_and, and_true, forall_const, false_implies, reduceCtorEq, Bool.true_eq_false, Nat.reduceAdd, Nat.reduceMul, Nat.reduceLT, Nat.reduceSub, Int.reduceEq, Int.reduceLT, decide_true, decide_false, List.setIfInBounds_toArray, List.set_cons_zero, List.set_cons_succ, List.size_toArray, List.length_cons, List.length_nil, frz00, one_int, one_bool, one_ptr, one_str, one_slice, one_map, one_func, one_nil, one_niliface, size_put, size_alloc, put_same, st1_put, bsc_empty, List.nil_append, List.append_nil, List.map_cons, List.map_nil, cells_ptr, cells_str, cells_int, cells_bool, cells_slice, cells_agg, cells_map, fillB_one, fillB_nil, bdc, hv]
    rw [bsc_one (v := .string x) (sz := 1) (z := #[.string ⟨#[]⟩]) rfl rfl]
    simp only [cells_str]
    generalize hW3 : W.alloc (.cells #[.string x] 9 (0, 0)) = W3
    have hf3W : Fr W.heap.size No W W3 := by rw [← hW3]; exact Fr.refl.alloc (Nat.le_refl _)
    have hat3 : W3.heap[W.heap.size]? = some (.cells #[.string x] 9 (0, 0)) := by rw [← hW3]; exact alloc_at rfl
    have hO3 : Ow wr.heap.size 9 1 W3 v _ _ := Ow.fr hO hf3W fun _ _ _ _ => no_not
    obtain ⟨A3, c3, rfl, _⟩ := hO3.sl.shape
    have hs3 : Sl (fun _ => True) 9 1 W3 (.slice (some ⟨W.heap.size, 0, none⟩) 1 1) 1 [.string x] := ⟨_, 1, rfl, Nat.le_refl _, rfl, .inr ⟨W.heap.size, 0, _, (0, 0), rfl, trivial, hat3, by simp, fun k hk => by simp⟩⟩
    simp only [T.ld_71, T.bs_71_1, T.ap_71_71, T.st_71]
    rw [src_sl hs3]
    have hWs := hfW.1
    refine ap_own hO3 rfl (by decide) rfl (by intro q hq; simp only [List.mem_singleton] at hq; subst hq; rfl) (by have := hf3W.1; omega) (by omega) (by omega) fun A4 c4 W4 hO4 hof4 => ?_
    have hblk3 : W3.heap[w.heap.size]? = some (.cells #[.slice A3 pre.length c3] 71 (0, 0)) := young_at hf3W hv
    have hblk4 : W4.heap[w.heap.size]? = some (.cells #[.slice A3 pre.length c3] 71 (0, 0)) := hof4.at hblk3 (lt_at hblk3) fun hx => by have := hx.1; omega
    have hk34 := keepsO hof4 fun b hb => by obtain ⟨_, ⟨X, hX⟩, _⟩ := hb; exact ⟨X, _, _, hX⟩
    have hkW3 : KeepsOthers W W3 := keepsO hf3W fun _ h => h.elim
    rw [st1_at hblk4]
    have hf34 : Fr wr.heap.size No W3 W4 := hof4.fr (by have := hf3W.1; omega)
    have hfp : Fr W4.heap.size (fun b => b = w.heap.size) W4 (W4.put w.heap.size (.cells ((#[Value.slice A3 pre.length c3] : Array Value).setIfInBounds 0 (.slice A4 (pre.length + 1) c4)) 71 (0, 0))) := Fr.refl.put (.inl rfl)
    have hk4p : KeepsOthers W4 _ := keepsO hfp fun b hb => by subst hb; exact ⟨_, _, _, hblk4⟩
    have hf14 : Fr wr.heap.size No W W4 := (hf3W.no hWs).trans hf34
    have hk : KeepsOthers W _ := (hkW3.trans hk34).trans hk4p
    refine ⟨rfl, by simp, frz00 _ _, hk, hk.walks, ?_, ?_⟩
    · exact (hfW.trans (hf14.no (Nat.le_refl _))).trans (hfp.mono (by have := hf14.1; omega) fun _ _ h => h)
    · refine ⟨_, put_same (lt_at hblk4), ?_⟩
      have hO5 := Ow.fr hO4 hfp fun b X hNb hb => by omega
      show Ow _ _ _ _ _ _ _
      rw [List.length_append, List.map_append]
      exact hO5
  · rintro Db xs W hDb hperm ⟨hfW, v, hv, hO⟩ hD
    simp only [T.ld_71, T.bs_71_1, T.ap_71_71, T.st_71, bx_eq, mm_eq, nc_eq, cnd_eq, bcond_true, bcond_false, pk_eq, pk_int, ex_eq, ldc_some, un_not, un_neg, mn_eq, mx_eq, bin_add, bin_sub, bin_mul, bin_lss, bin_leq, bin_gtr, bin_geq, bin_eql, bin_neq, bin_peq, bin_pne, bin_beq, bin_bne, bin_leqn, bin_lnen, bin_seq, bin_sne, bin_sge, bin_slt, rdc_cells, mapEs_some, frz_none, Nat.zero_add, Nat.add_zero, List.getElem?_toArray, List.getElem?_cons_zero, List.getElem?_cons_succ, Option.isNone_some, Option.isNone_none, Bool.not_true, Bool.not_false, ite_true, ite_false, Bool.false_eq_true, true_and, and_true, forall_const, false_implies, reduceCtorEq, Bool.true_eq_false, Nat.reduceAdd, Nat.reduceMul, Nat.reduceLT, Nat.reduceSub, Int.reduceEq, Int.reduceLT, decide_true, decide_false, List.setIfInBounds_toArray, List.set_cons_zero, List.set_cons_succ, List.size_toArray, List.length_cons, List.length_nil, frz00, one_int, one_bool, one_ptr, one_str, one_slice, one_map, one_func, one_nil, one_niliface, size_put, size_alloc, put_same, st1_put, bsc_empty, List.nil_append, List.append_nil, List.map_cons, List.map_nil, cells_ptr, cells_str, cells_int, cells_bool, cells_slice, cells_agg, cells_map, fillB_one, fillB_nil, bdc, hv]
    refine ⟨hD, hR _ v xs hperm ?_ ?_⟩
    · refine Ow.fr (Ow.mono hO (by omega)) (Fr.refl.put (.inl rfl) : Fr W.heap.size (fun b => b = Db) W _) fun b X _ hb hbd => ?_
      subst hbd; rw [hD] at hb; cases hb
    · have h1 : Fr w.heap.size No w W := hfr.trans (hfW.mono hfr.1 fun b hb e => by omega)
      exact h1.put (.inr (by omega))

theorem le_less (x y : List UInt8) : decide (x ≤ y) = !Op.bytesLess y x := by
  rw [bytesLess_eq]
  by_cases h : y < x
  · rw [decide_eq_true h, decide_eq_false (List.not_le.2 h)]; rfl
  · rw [decide_eq_false h, decide_eq_true (List.not_lt.1 h)]; rfl
theorem le_tr (x y z : List UInt8) (h1 : decide (x ≤ y) = true) (h2 : decide (y ≤ z) = true) : decide (x ≤ z) = true := by
  rw [le_less] at *
  have h1 : Op.bytesLess y x = false := by simpa using h1
  have h2 : Op.bytesLess z y = false := by simpa using h2
  cases h3 : Op.bytesLess z x with
  | false => rfl
  | true =>
    exfalso
    cases h4 : Op.bytesLess y z with
    | true => have := less_trans _ _ _ h4 h3; rw [h1] at this; cases this
    | false => have := less_total _ _ h4 h2; subst this; rw [h1] at h3; cases h3
theorem le_tot (x y : List UInt8) : (decide (x ≤ y) || decide (y ≤ x)) = true := by
  rw [le_less, le_less]
  cases h1 : Op.bytesLess y x with
  | false => rfl
  | true =>
    cases h2 : Op.bytesLess x y with
    | false => rfl
    | true => have := less_trans _ _ _ h1 h2; rw [less_irrefl] at this; cases this
theorem grown_put {w : World} {α : Type} [Inhabited α] {enc : α → Value} {n blk off : Nat} {d : Array α} {os : Array Obj} : Fr w.heap.size (fun b => b = blk) w (grow (putRow enc (Sort.ahead w n) blk off d) os) := by
  have hs : (putRow enc (Sort.ahead w n) blk off d).heap.size = w.heap.size := size_putRow _ _ _ _ _
  refine ⟨by show w.heap.size ≤ ((putRow enc (Sort.ahead w n) blk off d).heap ++ os).size; rw [Array.size_append, hs]; omega, fun b hb hne => ?_, rfl, rfl, rfl⟩
  show ((putRow enc (Sort.ahead w n) blk off d).heap ++ os)[b]? = _
  rw [Array.getElem?_append_left (by rw [hs]; exact hb)]
  show (w.heap.modify blk _)[b]? = _
  rw [Array.getElem?_modify, if_neg (fun e => hne e.symm)]
theorem grown_at {w : World} {α : Type} [Inhabited α] {enc : α → Value} {n blk off : Nat} {d : Array α} {os : Array Obj} {X : Array Value} {e : TypeId} {f : Nat × Nat} (h : w.heap[blk]? = some (.cells X e f)) : (grow (putRow enc (Sort.ahead w n) blk off d) os).heap[blk]? = some (.cells (putCells enc off d X) e f) := by
  have hs : (putRow enc (Sort.ahead w n) blk off d).heap.size = w.heap.size := size_putRow _ _ _ _ _
  show ((putRow enc (Sort.ahead w n) blk off d).heap ++ os)[blk]? = _
  rw [Array.getElem?_append_left (by rw [hs]; exact lt_at h)]
  show (w.heap.modify blk _)[blk]? = _
  rw [Array.getElem?_modify, if_pos rfl, h]
  rfl

/-- A list of names that is one's own is put in order. -/
theorem sort_names {N : Nat} {w : World} {v : Value} {xs : List ByteArray} (h : OwN N w xs v) (hl : small xs.length) {R : Value → World → Prop}
    (hR : ∀ w' ys, ys.Perm xs → ys.Pairwise (fun a b => slt b a = false) → OwN N w' ys v → (N ≤ w.heap.size → Fr N No w w') → R (.tuple #[]) w') : cl Tryd.prog 64 #[v] w R := by
  have hl : xs.length < 2 ^ 36 := hl
  have h' := h
  obtain ⟨A, c, rfl, hn, hlen, hx⟩ := h
  rcases Nat.eq_zero_or_pos xs.length with h0 | h0
  · have hnil : xs = [] := List.eq_nil_of_length_eq_zero h0
    subst hnil
    refine Calls.mono (Tryd.slices_Sort_string_none A c w) ?_
    rintro e w' ⟨rfl, rfl⟩
    exact ⟨_, rfl, hR _ [] (List.Perm.refl _) List.Pairwise.nil h' fun _ => Fr.refl⟩
  rcases hx with ⟨rfl, rfl⟩ | ⟨b, o, X, rfl, hN, hb, hs, hX⟩
  · omega
  let ss : List (List UInt8) := xs.map fun x => x.data.toList
  have hsl : ss.length = xs.length := by simp [ss]
  have henc : ∀ x : ByteArray, encStr x.data.toList = .string x := fun x => by simp [encStr]
  have hH : Holds encStr w b o ss.toArray := by
    intro j hj
    have hj : j < xs.length := by simpa [ss] using hj
    have hXj := hX j (by omega)
    refine ⟨?_, ?_⟩
    · rw [cell_rdc, hb, rdc_cells, hXj]
      rw [getElem!_pos _ j (by simpa [ss] using hj)]
      simp [ss, henc, hj]
    · simp [World.frozen?, hb]
  have hcall := Tryd.slices_Sort_string b o c ss w hH (lt_at hb) (by rw [hsl]; omega)
  rw [hsl] at hcall
  refine Calls.mono hcall ?_
  rintro e w' ⟨rfl, n, os, rfl⟩
  refine ⟨_, rfl, ?_⟩
  have hst1 : (ss.mergeSort fun x y => decide (x ≤ y)).Perm ss := List.mergeSort_perm _ _
  have hst2 := List.pairwise_mergeSort (le := fun x y : List UInt8 => decide (x ≤ y)) le_tr le_tot ss
  generalize (ss.mergeSort fun x y => decide (x ≤ y)) = st at hst1 hst2 ⊢
  have hstl : st.length = xs.length := by rw [hst1.length_eq, hsl]
  let ys : List ByteArray := st.map fun l => ⟨l.toArray⟩
  have hyl : ys.length = xs.length := by simp [ys, hstl]
  have hperm : ys.Perm xs := by
    have h2 := hst1.map fun l : List UInt8 => (⟨l.toArray⟩ : ByteArray)
    refine h2.trans (List.Perm.of_eq ?_)
    simp [ss, Function.comp_def]
  have hpw : ys.Pairwise fun a b => slt b a = false := by
    show (st.map _).Pairwise _
    rw [List.pairwise_map]
    refine hst2.imp fun {x y} h => ?_
    rw [le_less] at h
    simpa [slt] using h
  refine hR _ ys hperm hpw ?_ ?_
  · refine ⟨_, c, by rw [hyl], by rw [hyl]; exact hn, by simp, .inr ⟨b, o, _, rfl, hN, grown_at hb, ?_, ?_⟩⟩
    · simp [putCells]; omega
    · intro k hk
      rw [hyl] at hk
      have hk' : k < st.length := by omega
      simp only [putCells, Array.getElem?_mapIdx]
      rw [Array.getElem?_eq_getElem (by omega)]
      simp only [Option.map_some, List.size_toArray]
      rw [if_pos (by omega), Nat.add_sub_cancel_left, getElem!_pos _ k (by simpa using hk')]
      simp [ys, encStr, hk']
  · intro hNw
    exact grown_put.mono hNw fun b' hb' e => by omega
end Go.Proofs.YtppefblkmgihoaaDoor
