/- The disk's state in memory, and the functions that look at it. -/
import Derived.Test.YtppefblkmgihoaaDoorD1
set_option linter.unusedVariables false
set_option linter.unusedSimpArgs false
namespace Go.Proofs.YtppefblkmgihoaaDoor
open Go.Sh

theorem cf_func {P : Program} {md : Md} {f : FuncId} {first args cap : Array Value} {w : World} {K : Value → World → Prop} (hok : callOk P f = true) (h : cl P f (first ++ args ++ cap) w K) : cf P md (.func (.func f) first cap) args w K := by
  unfold cf
  have he : (do let d ← Deferred.ofValue (.func (.func f) first cap) args; invoke d.target d.args : Sem Next) = callFunc f (first ++ args ++ cap) := rfl
  rw [he, run_callFunc hok]
  exact h

structure Sec where
  by_ : List UInt8
  sy : Bool
def Sec.cells (s : Sec) : List Value := s.by_.map (fun b => Value.int .u8 b.toNat) ++ [.bool s.sy]
/-- A value that is a list of sectors. -/
def SecV (w : World) (l : List Sec) (v : Value) : Prop := (∀ s ∈ l, s.by_.length = 32) ∧ Sl (fun _ => True) 82 33 w v l.length (l.flatMap Sec.cells)
theorem sec_len {l : List Sec} (h : ∀ s ∈ l, s.by_.length = 32) : ∀ s ∈ l, s.cells.length = 33 := fun s hs => by simp [Sec.cells, h s hs]
theorem SecV.fr {w w' : World} {l : List Sec} {v : Value} {N : Nat} {S : Nat → Prop} (h : SecV w l v) (hf : Fr N S w w') (hB : ∀ b X f, w.heap[b]? = some (.cells X 82 f) → b < N ∧ ¬ S b) : SecV w' l v := ⟨h.1, h.2.fr hf fun b X f _ hb => hB b X f hb⟩

abbrev ptr (d : Nat) : Value := .pointer (some ⟨d, 0, none⟩)
abbrev Files := List (ByteArray × List Sec)
/-- The operation at which the power went. -/
inductive Pend
  | nothing
  | sync (a : ByteArray)
  | trunc (a : ByteArray) (n : Nat)
  | ren (a b : ByteArray)
  | rem (a : ByteArray)
/-- The disk, as it stands at the block d: m is its map's block. -/
structure Dk where
  m : Nat
  fs : Files
  room : Int
  off : Bool
  armed : Nat
  ops : Int
  pend : Pend
def boxed (w : World) (v x : Value) (e : TypeId) : Prop := ∃ b, v = ptr b ∧ w.heap[b]? = some (.cells #[x] e (0, 0))
/-- A function value that does an operation. -/
def Hg (w : World) (d : Nat) : Pend → Value → Prop
  | .nothing, hv => hv = .func (.func 39) #[] #[]
  | .sync a, hv => ∃ x y, hv = .func (.func 49) #[] #[x, y] ∧ boxed w x (ptr d) 24 ∧ boxed w y (.string a) 9
  | .trunc a n, hv => ∃ x y z, hv = .func (.func 52) #[] #[x, y, z] ∧ boxed w x (ptr d) 24 ∧ boxed w y (.string a) 9 ∧ boxed w z (.int .i64 n) 3
  | .ren a b, hv => ∃ x y z, hv = .func (.func 54) #[] #[x, y, z] ∧ boxed w x (ptr d) 24 ∧ boxed w y (.string a) 9 ∧ boxed w z (.string b) 9
  | .rem a, hv => ∃ x y, hv = .func (.func 55) #[] #[x, y] ∧ boxed w x (ptr d) 24 ∧ boxed w y (.string a) 9
structure DkAt (w : World) (d : Nat) (D : Dk) (hv : Value) (es : Array MapEntry) (c : Nat) : Prop where
  blk : w.heap[d]? = some (.cells #[.map (some D.m), .int .i64 D.room, .bool D.off, .int .i64 D.armed, .int .i64 D.ops, hv] 49 (0, 0))
  map : w.heap[D.m]? = some (.map es c)
  mp : Mp strK (SecV w) es c D.fs
  hg : D.off = true → Hg w d D.pend hv
def IsDk (w : World) (d : Nat) (D : Dk) : Prop := ∃ hv es c, DkAt w d D hv es c
/-- The disk's own blocks. -/
def Dk.own (d : Nat) (D : Dk) : Nat → Prop := fun b => b = d ∨ b = D.m

theorem aget_files {l : Files} {s : ByteArray} : aget l s = none ∨ ∃ x, aget l s = some x := by cases aget l s <;> simp

def Dk.check (D : Dk) (s : ByteArray) (t : Bool) : Int := if isName s = false then 1 else if t && (aget D.fs s).isNone then 7 else if D.off then 18 else 0
theorem disk_check {w : World} {d : Nat} {D : Dk} {s : ByteArray} {t : Bool} (h : IsDk w d D) (hs : s.size < 2 ^ 62) {R : Value → World → Prop} (hR : R (.int .i64 (D.check s t)) w) : cl Tryd.prog 35 #[ptr d, .string s, .bool t] w R := by
  obtain ⟨hv, es, c, h⟩ := h
  refine C.disk_Disk_check ?_
  unfold F.disk_Disk_check
  refine disk_named s w hs ?_
  simp only [T.ty_24, T.fa_49_0, T.ld_47, T.lk_47, T.fa_49_2, T.ld_4, bx_eq, mm_eq, nc_eq, cnd_eq, bcond_true, bcond_false, pk_eq, pk_int, ex_eq, ldc_some, un_not, un_neg, mn_eq, mx_eq, bin_add, bin_sub, bin_mul, bin_lss, bin_leq, bin_gtr, bin_geq, bin_eql, bin_neq, bin_peq, bin_pne, bin_beq, bin_bne, bin_leqn, bin_lnen, bin_seq, bin_sne, bin_sge, bin_slt, rdc_cells, mapEs_some, frz_none, Nat.zero_add, Nat.add_zero, List.getElem?_toArray, List.getElem?_cons_zero, List.getElem?_cons_succ, Option.isNone_some, Option.isNone_none, Bool.not_true, Bool.not_false, ite_true, ite_false, Bool.false_eq_true, true_and, and_true, forall_const, false_implies, reduceCtorEq, Bool.true_eq_false, Nat.reduceAdd, Nat.reduceMul, Nat.reduceLT, Nat.reduceSub, Int.reduceEq, Int.reduceLT, decide_true, decide_false, List.setIfInBounds_toArray, List.set_cons_zero, List.set_cons_succ, List.size_toArray, List.length_cons, List.length_nil, frz00, one_int, one_bool, one_ptr, one_str, one_slice, one_map, one_func, one_nil, one_niliface, size_put, size_alloc, put_same, st1_put, bsc_empty, List.nil_append, List.append_nil, List.map_cons, List.map_nil, cells_ptr, cells_str, cells_int, cells_bool, cells_slice, cells_agg, cells_map, fillB_one, fillB_nil, bdc, bcond_iff, h.blk, ptr]
  unfold Dk.check at hR
  refine ⟨fun hn => ?_, fun hn => ?_⟩
  · have hn : isName s = false := by simpa using hn
    rw [if_pos hn] at hR; exact hR
  have hn : isName s = true := by simpa using hn
  rw [if_neg (by simp [hn])] at hR
  simp only [h.map]
  refine lk_mp_ok h.mp s _ _ (fun hg => ?_) (fun y v hg hv => ?_)
  · simp only [T.ty_24, T.fa_49_0, T.ld_47, T.lk_47, T.fa_49_2, T.ld_4, bx_eq, mm_eq, nc_eq, cnd_eq, bcond_true, bcond_false, pk_eq, pk_int, ex_eq, ldc_some, un_not, un_neg, mn_eq, mx_eq, bin_add, bin_sub, bin_mul, bin_lss, bin_leq, bin_gtr, bin_geq, bin_eql, bin_neq, bin_peq, bin_pne, bin_beq, bin_bne, bin_leqn, bin_lnen, bin_seq, bin_sne, bin_sge, bin_slt, rdc_cells, mapEs_some, frz_none, Nat.zero_add, Nat.add_zero, List.getElem?_toArray, List.getElem?_cons_zero, List.getElem?_cons_succ, Option.isNone_some, Option.isNone_none, Bool.not_true, Bool.not_false, ite_true, ite_false, Bool.false_eq_true, true_and, and_true, forall_const, false_implies, reduceCtorEq, Bool.true_eq_false, Nat.reduceAdd, Nat.reduceMul, Nat.reduceLT, Nat.reduceSub, Int.reduceEq, Int.reduceLT, decide_true, decide_false, List.setIfInBounds_toArray, List.set_cons_zero, List.set_cons_succ, List.size_toArray, List.length_cons, List.length_nil, frz00, one_int, one_bool, one_ptr, one_str, one_slice, one_map, one_func, one_nil, one_niliface, size_put, size_alloc, put_same, st1_put, bsc_empty, List.nil_append, List.append_nil, List.map_cons, List.map_nil, cells_ptr, cells_str, cells_int, cells_bool, cells_slice, cells_agg, cells_map, fillB_one, fillB_nil, bdc, bcond_iff, h.blk, hg] at hR ⊢
    refine ⟨fun ht => ?_, fun ht => ⟨fun ho => ?_, fun ho => ?_⟩⟩
    · simpa [ht] using hR
    · simpa [ht, ho] using hR
    · simpa [ht, ho] using hR
  · simp only [T.ty_24, T.fa_49_0, T.ld_47, T.lk_47, T.fa_49_2, T.ld_4, bx_eq, mm_eq, nc_eq, cnd_eq, bcond_true, bcond_false, pk_eq, pk_int, ex_eq, ldc_some, un_not, un_neg, mn_eq, mx_eq, bin_add, bin_sub, bin_mul, bin_lss, bin_leq, bin_gtr, bin_geq, bin_eql, bin_neq, bin_peq, bin_pne, bin_beq, bin_bne, bin_leqn, bin_lnen, bin_seq, bin_sne, bin_sge, bin_slt, rdc_cells, mapEs_some, frz_none, Nat.zero_add, Nat.add_zero, List.getElem?_toArray, List.getElem?_cons_zero, List.getElem?_cons_succ, Option.isNone_some, Option.isNone_none, Bool.not_true, Bool.not_false, ite_true, ite_false, Bool.false_eq_true, true_and, and_true, forall_const, false_implies, reduceCtorEq, Bool.true_eq_false, Nat.reduceAdd, Nat.reduceMul, Nat.reduceLT, Nat.reduceSub, Int.reduceEq, Int.reduceLT, decide_true, decide_false, List.setIfInBounds_toArray, List.set_cons_zero, List.set_cons_succ, List.size_toArray, List.length_cons, List.length_nil, frz00, one_int, one_bool, one_ptr, one_str, one_slice, one_map, one_func, one_nil, one_niliface, size_put, size_alloc, put_same, st1_put, bsc_empty, List.nil_append, List.append_nil, List.map_cons, List.map_nil, cells_ptr, cells_str, cells_int, cells_bool, cells_slice, cells_agg, cells_map, fillB_one, fillB_nil, bdc, bcond_iff, h.blk, hg] at hR ⊢
    refine ⟨fun ht => ⟨fun ho => ?_, fun ho => ?_⟩, fun ht => ⟨fun ho => ?_, fun ho => ?_⟩⟩
    · simpa [ht, ho] using hR
    · simpa [ht, ho] using hR
    · simpa [ht, ho] using hR
    · simpa [ht, ho] using hR
end Go.Proofs.YtppefblkmgihoaaDoor
