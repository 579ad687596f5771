/- The reference of layer 9: names, places. -/
import Derived.Test.YtppefblkmgihoaaDoorD7
set_option linter.unusedVariables false
set_option linter.unusedSimpArgs false
set_option maxRecDepth 10000
namespace Go.Proofs.YtppefblkmgihoaaDoor
open Go.Sh

theorem ref_Name (s : ByteArray) (w : World) (hs : s.size < 2 ^ 62) {R : Value → World → Prop} (h : ∀ w', Fr w.heap.size No w w' → R (.bool (isName s)) w') : cl Tryd.prog 44 #[.string s] w R := by
  refine C.r09_Name ?_
  unfold F.r09_Name
  simp only [T.ln_9, T.ix_9, bx_eq, mm_eq, nc_eq, cnd_eq, bcond_true, bcond_false, pk_eq, pk_int, ex_eq, ldc_some, un_not, un_neg, mn_eq, mx_eq, bin_add, bin_sub, bin_mul, bin_lss, bin_leq, bin_gtr, bin_geq, bin_eql, bin_neq, bin_peq, bin_pne, bin_beq, bin_bne, bin_leqn, bin_lnen, bin_seq, bin_sne, bin_sge, bin_slt, rdc_cells, mapEs_some, frz_none, Nat.zero_add, Nat.add_zero, List.getElem?_toArray, List.getElem?_cons_zero, List.getElem?_cons_succ, Option.isNone_some, Option.isNone_none, Bool.not_true, Bool.not_false, ite_true, ite_false, Bool.false_eq_true, true_and, and_true, forall_const, false_implies, reduceCtorEq, Bool.true_eq_false, Nat.reduceAdd, Nat.reduceMul, Nat.reduceLT, Nat.reduceSub, Int.reduceEq, Int.reduceLT, decide_true, decide_false, List.setIfInBounds_toArray, List.set_cons_zero, List.set_cons_succ, List.size_toArray, List.length_cons, List.length_nil, frz00, one_int, one_bool, one_ptr, one_str, one_slice, one_map, one_func, one_nil, one_niliface, size_put, size_alloc, put_same, st1_put, bsc_empty, List.nil_append, List.append_nil, List.map_cons, List.map_nil, cells_ptr, cells_str, cells_int, cells_bool, cells_slice, cells_agg, cells_map, fillB_one, fillB_nil, bdc, bcond_dec]
  refine ⟨fun _ u => u = w ∧ 1 ≤ s.size ∧ s.size ≤ 16, ⟨fun h1 => ?_, fun h1 => ⟨fun h2 => ?_, fun h2 => ⟨rfl, by omega, by omega⟩⟩⟩, ?_⟩
  · have e : isName s = false := by simp only [isName]; rw [decide_eq_false (show ¬ 1 ≤ s.size by omega)]; simp
    have := h w Fr.refl; rw [e] at this; exact this
  · have e : isName s = false := by simp only [isName]; rw [decide_eq_false (show ¬ s.size ≤ 16 by omega)]; simp
    have := h w Fr.refl; rw [e] at this; exact this
  rintro g u ⟨rfl, h1, h2⟩
  refine ⟨fun l w' => ∃ i : Nat, l = [.int .i64 i] ∧ i ≤ s.size ∧ Fr u.heap.size No u w' ∧ ∀ j (hj : j < s.data.size), j < i → okByte s.data[j] = true, fun l _ => match l with | [.int _ i] => (s.size - i).toNat | _ => 0, ⟨0, rfl, Nat.zero_le _, Fr.refl, fun j _ h => absurd h (Nat.not_lt_zero _)⟩, ?_⟩
  rintro g w' ⟨i, hg, hi, hf, hok⟩
  simp only [List.map_cons, List.map_nil, List.cons.injEq, and_true] at hg
  simp only [hg, T.ln_9, T.ix_9, bx_eq, mm_eq, nc_eq, cnd_eq, bcond_true, bcond_false, pk_eq, pk_int, ex_eq, ldc_some, un_not, un_neg, mn_eq, mx_eq, bin_add, bin_sub, bin_mul, bin_lss, bin_leq, bin_gtr, bin_geq, bin_eql, bin_neq, bin_peq, bin_pne, bin_beq, bin_bne, bin_leqn, bin_lnen, bin_seq, bin_sne, bin_sge, bin_slt, rdc_cells, mapEs_some, frz_none, Nat.zero_add, Nat.add_zero, List.getElem?_toArray, List.getElem?_cons_zero, List.getElem?_cons_succ, Option.isNone_some, Option.isNone_none, Bool.not_true, Bool.not_false, ite_true, ite_false, Bool.false_eq_true, true_and, and_true, forall_const, false_implies, reduceCtorEq, Bool.true_eq_false, Nat.reduceAdd, Nat.reduceMul, Nat.reduceLT, Nat.reduceSub, Int.reduceEq, Int.reduceLT, decide_true, decide_false, List.setIfInBounds_toArray, List.set_cons_zero, List.set_cons_succ, List.size_toArray, List.length_cons, List.length_nil, frz00, one_int, one_bool, one_ptr, one_str, one_slice, one_map, one_func, one_nil, one_niliface, size_put, size_alloc, put_same, st1_put, bsc_empty, List.nil_append, List.append_nil, List.map_cons, List.map_nil, cells_ptr, cells_str, cells_int, cells_bool, cells_slice, cells_agg, cells_map, fillB_one, fillB_nil, bdc]
  rw [bcond_dec]
  refine ⟨fun hlt => ?_, fun hge => ?_⟩
  · have hlt : i < s.size := by omega
    have hlt' : i < s.data.size := hlt
    have hb : s[i]? = some s.data[i] := by rw [getElem?_pos s i hlt]; rfl
    generalize hbb : s.data[i] = b at hb
    have hb2 := b.toNat_lt
    have hix : ∀ (u : World) (K : Value → World → Prop), K (.int .u8 b.toNat) u → ix Tryd.prog 9 (.string s) (.int .i64 i) u K := fun u K hK => by
      simp only [T.ln_9, T.ix_9, Int.toNat_natCast, hb, ixs_some]; exact ⟨by omega, hK⟩
    have eb : okByte b = ((decide ((97 : Int) ≤ (b.toNat : Int)) && decide ((b.toNat : Int) ≤ 122)) || (decide ((48 : Int) ≤ (b.toNat : Int)) && decide ((b.toNat : Int) ≤ 57))) := by
      unfold okByte
      congr 1 <;> congr 1 <;> exact decide_eq_decide.2 (by omega)
    refine ⟨fun _ w2 => Fr u.heap.size No u w2 ∧ okByte b = true, ⟨fun l w2 => w2 = w'.drew ∧ l = [.bool (decide ((97 : Int) ≤ (b.toNat : Int)) && decide ((b.toNat : Int) ≤ 122)), .bool (decide ((48 : Int) ≤ (b.toNat : Int)) && decide ((b.toNat : Int) ≤ 57))], ⟨fun _ => True, trivial, ?_⟩, ?_⟩, ?_⟩
    · refine opS_of (.int .u8 b.toNat) (fun u _ K hK => hix u _ hK) (opS_of (.bool (decide ((97 : Int) ≤ (b.toNat : Int)))) (fun u _ K hK => by rw [bin_geq]; exact hK) ?_)
      rw [cnd_eq, bcond_dec]
      refine ⟨fun c1 => ?_, fun c1 => ?_⟩
      · refine opS_of (.int .u8 b.toNat) (fun u _ K hK => hix u _ hK) (opS_of (.bool (decide ((b.toNat : Int) ≤ 122))) (fun u _ K hK => by rw [bin_leq]; exact hK) ?_)
        refine opS_of (.int .u8 b.toNat) (fun u _ K hK => hix u _ hK) (opS_of (.bool (decide ((48 : Int) ≤ (b.toNat : Int)))) (fun u _ K hK => by rw [bin_geq]; exact hK) ?_)
        rw [cnd_eq, bcond_dec]
        refine ⟨fun c2 => ?_, fun c2 => ?_⟩
        · refine opS_of (.int .u8 b.toNat) (fun u _ K hK => hix u _ hK) (opS_of (.bool (decide ((b.toNat : Int) ≤ 57))) (fun u _ K hK => by rw [bin_leq]; exact hK) ?_)
          exact ⟨rfl, by simp [c1, c2]⟩
        · exact ⟨rfl, by simp [c1, c2]⟩
      · refine opS_of (.int .u8 b.toNat) (fun u _ K hK => hix u _ hK) (opS_of (.bool (decide ((48 : Int) ≤ (b.toNat : Int)))) (fun u _ K hK => by rw [bin_geq]; exact hK) ?_)
        rw [cnd_eq, bcond_dec]
        refine ⟨fun c2 => ?_, fun c2 => ?_⟩
        · refine opS_of (.int .u8 b.toNat) (fun u _ K hK => hix u _ hK) (opS_of (.bool (decide ((b.toNat : Int) ≤ 57))) (fun u _ K hK => by rw [bin_leq]; exact hK) ?_)
          exact ⟨rfl, by simp [c1, c2]⟩
        · exact ⟨rfl, by simp [c1, c2]⟩
    · rintro g2 w2 ⟨rfl, hg2⟩
      simp only [List.map_cons, List.map_nil, List.cons.injEq, and_true] at hg2
      simp only [hg2.1, hg2.2, un_not, cnd_eq, bcond_iff]
      have hbad : okByte b = false → R (.bool false) w'.drew := fun hbad => by
        have : isName s = false := by
          simp only [isName, Bool.and_eq_false_iff]
          refine .inl (.inl ?_)
          simp only [List.all_eq_false]
          exact ⟨s.data[i], by simp, by rw [hbb]; simpa using hbad⟩
        have h3 := h _ hf.drew; rw [this] at h3; exact h3
      refine ⟨fun c1 => ⟨fun c2 => hbad ?_, fun c2 => ⟨hf.drew, ?_⟩⟩, fun c1 => ⟨hf.drew, ?_⟩⟩
      · rw [eb]; simp only [Bool.not_eq_true'] at c1 c2; rw [c1, c2]; rfl
      · rw [eb]; simp only [Bool.not_eq_false'] at c2; rw [c2, Bool.or_true]
      · rw [eb]; simp only [Bool.not_eq_false'] at c1; rw [c1, Bool.true_or]
    · rintro g2 w2 ⟨hf2, hgood⟩
      rw [IntWalk.i64_in _ (by omega)]
      refine ⟨⟨i + 1, by simp, by omega, hf2, fun j hj hji => ?_⟩, by omega⟩
      by_cases hji2 : j = i
      · subst hji2; rw [hbb]; exact hgood
      · exact hok j hj (by omega)
  · have hi2 : i = s.size := by omega
    have hall : s.data.toList.all okByte = true := by
      simp only [List.all_eq_true]
      intro b hb
      obtain ⟨j, hj, rfl⟩ := List.getElem_of_mem hb
      simp only [Array.length_toList] at hj
      simpa using hok j hj (by rw [hi2]; exact hj)
    have e : isName s = true := by simp only [isName, hall, decide_eq_true h1, decide_eq_true h2]; rfl
    have h3 := h _ hf; rw [e] at h3; exact h3

/-! ### The reference's files -/
def BytesV (w : World) (bs : List UInt8) (v : Value) : Prop := Sl (fun _ => True) 5 1 w v bs.length (bs.map fun b => .int .u8 b.toNat)
def FlagsV (w : World) (fl : List Bool) (v : Value) : Prop := Sl (fun _ => True) 4 1 w v fl.length (fl.map .bool)
/-- Bytes, flags in whatever block: what a caller hands. -/
def BytesA (S : Nat → Prop) (w : World) (bs : List UInt8) (v : Value) : Prop := ∃ e, Sl (fun b => ¬ S b) e 1 w v bs.length (bs.map fun b => .int .u8 b.toNat)
def FlagsA (S : Nat → Prop) (w : World) (fl : List Bool) (v : Value) : Prop := ∃ e, Sl (fun b => ¬ S b) e 1 w v fl.length (fl.map .bool)
theorem BytesV.a {w : World} {bs : List UInt8} {v : Value} (h : BytesV w bs v) : BytesA No w bs v := ⟨_, Sl.mono h fun _ _ _ => no_not⟩
theorem FlagsV.a {w : World} {fl : List Bool} {v : Value} (h : FlagsV w fl v) : FlagsA No w fl v := ⟨_, Sl.mono h fun _ _ _ => no_not⟩
def Secs.bytes (l : List Sec) : List UInt8 := l.flatMap Sec.by_
def Secs.flags (l : List Sec) : List Bool := l.map Sec.sy
/-- The cells of a file. -/
def FileC (w : World) (p : ByteArray × List Sec) (cs : List Value) : Prop := ∃ bv sv, cs = [.string p.1, bv, sv] ∧ BytesV w (Secs.bytes p.2) bv ∧ FlagsV w (Secs.flags p.2) sv ∧ (∀ s ∈ p.2, s.by_.length = 32)
/-- A list of files. -/
def FilesV (B : Nat → Prop) (w : World) (l : Files) (v : Value) : Prop := ∃ rows : List (List Value), F2 (fun cs p => FileC w p cs) rows l ∧ (∀ r ∈ rows, r.length = 3) ∧ Sl0 B 96 3 w v l.length (rows.flatMap id)
structure Rk where
  fs : Files
  room : Int
  off : Bool
  armed : Nat
  ops : Int
  last : Int
  a : ByteArray
  b : ByteArray
  n : Int
def Rk.cells (X : Rk) (fv : Value) : Array Value := #[fv, .int .i64 X.room, .bool X.off, .int .i64 X.armed, .int .i64 X.ops, .int .i64 X.last, .string X.a, .string X.b, .int .i64 X.n]
structure RkAt (N : Nat) (w : World) (x : Nat) (X : Rk) (fv : Value) : Prop where
  blk : w.heap[x]? = some (.cells (X.cells fv) 52 (0, 0))
  fs : FilesV (fun b => N ≤ b) w X.fs fv
  nx : N ≤ x
def IsRk (N : Nat) (w : World) (x : Nat) (X : Rk) : Prop := ∃ fv, RkAt N w x X fv
end Go.Proofs.YtppefblkmgihoaaDoor
