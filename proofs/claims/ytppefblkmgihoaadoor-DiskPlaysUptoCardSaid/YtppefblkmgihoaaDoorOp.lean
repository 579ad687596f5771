/- What single operations come to, as formulas over values and blocks of memory that can be reckoned: each suffices for the model's own operation. -/
import Derived.RangeFuncCalls
import Derived.OwnWalkIn
import Derived.Deep.Draws
import Derived.Orders
import Derived.OrdersHeld
import Derived.Laws.AppendOwn
import Derived.Laws.StructEq
namespace Go.Sh
open Go

section
variable (P : Program)
/-- A reckoning that yields a value. -/
def opv (s : Sem Value) (w : World) (K : Value → World → Prop) : Prop :=
  match s.run P w with
  | .ok v w' => K v w'
  | .halt _ _ => False
/-- A reckoning that yields nothing. -/
def opu (s : Sem Unit) (w : World) (K : World → Prop) : Prop :=
  match s.run P w with
  | .ok _ w' => K w'
  | .halt _ _ => False

/-! ### The tables -/
def aggO (t : TypeId) : Option Bool := (P.underlying t).map fun | .struct _ => true | .array _ _ => true | _ => false
def szO (t : TypeId) : Option Nat := (P.info? t).map (·.size)
def zeroO (t : TypeId) : Option Value := (P.info? t).bind (·.zero)
def fOff (t : TypeId) (k : Nat) : Option Nat :=
  match P.underlying t with
  | some (.struct fs) => (fs[k]?).bind fun f => match szO P f.type with | some (_ + 1) => some f.offset | _ => none
  | _ => none
def fTy (t : TypeId) (k : Nat) : Option TypeId :=
  match P.underlying t with
  | some (.struct fs) => (fs[k]?).map (·.type)
  | _ => none
end

/-! ### Memory -/
/-- A block is replaced. -/
def _root_.Go.World.put (w : World) (b : Nat) (o : Obj) : World := { w with heap := w.heap.setIfInBounds b o }
theorem size_put (w : World) (b : Nat) (o : Obj) : (w.put b o).heap.size = w.heap.size := by simp [World.put]
theorem put_same {w : World} {b : Nat} {o : Obj} (h : b < w.heap.size) : (w.put b o).heap[b]? = some o := by simp [World.put, h]
theorem put_ne {w : World} {b c : Nat} {o : Obj} (h : b ≠ c) : (w.put b o).heap[c]? = w.heap[c]? := by simp [World.put, h]
theorem alloc_at {w : World} {o : Obj} {n : Nat} (h : n = w.heap.size) : (w.alloc o).heap[n]? = some o := by subst h; exact heap_alloc_new w o
theorem alloc_lt {w : World} {o : Obj} {n : Nat} (h : n < w.heap.size) : (w.alloc o).heap[n]? = w.heap[n]? := by
  simp only [World.alloc]; rw [Array.getElem?_push, if_neg (by omega)]
theorem drew_heap (w : World) : w.drew.heap = w.heap := rfl

def rdc (o : Option Obj) (i : Nat) : Option Value := match o with | some (.cells cs _ _) => cs[i]? | _ => none
def rdn (o : Option Obj) (i n : Nat) : Option (Array Value) :=
  match o with
  | some (.cells cs _ _) => if i + n ≤ cs.size then some (cs.extract i (i + n)) else none
  | _ => none
theorem cell_rdc (w : World) (b i : Nat) : w.cell? ⟨b, i, none⟩ = rdc w.heap[b]? i := by
  unfold World.cell? rdc
  cases w.heap[b]? with
  | none => rfl
  | some o => cases o <;> rfl

def splice (cs : Array Value) (i : Nat) (xs : Array Value) : Array Value := (cs.toList.take i ++ xs.toList ++ cs.toList.drop (i + xs.size)).toArray
def frz (f : Nat × Nat) (i n : Nat) : Bool := decide (f.1 < i + n) && decide (i < f.2)

section
variable (P : Program)

def ld (t : TypeId) (v : Value) (w : World) (K : Value → World → Prop) : Prop :=
  match v with
  | .pointer (some ⟨b, i, none⟩) =>
    match aggO P t with
    | some false => match rdc w.heap[b]? i with | some u => K u w | none => False
    | some true =>
      match szO P t with
      | some n => match rdn w.heap[b]? i n with | some cs => K (.agg cs) w | none => False
      | none => False
    | none => False
  | _ => False

def st (t : TypeId) (v x : Value) (w : World) (K : World → Prop) : Prop :=
  match v with
  | .pointer (some ⟨b, i, none⟩) =>
    match w.heap[b]? with
    | some (.cells cs e f) =>
      match aggO P t with
      | some false =>
        match szO P t with
        | some 1 => x.oneCell' = true ∧ i < cs.size ∧ frz f i 1 = false ∧ K (w.put b (.cells (cs.setIfInBounds i x) e f))
        | _ => False
      | some true =>
        match szO P t with
        | some n =>
          match x with
          | .agg xs => xs.size = n ∧ (∀ u ∈ xs, u.oneCell' = true) ∧ i + xs.size ≤ cs.size ∧ frz f i xs.size = false ∧ K (w.put b (.cells (splice cs i xs) e f))
          | _ => False
        | none => False
      | none => False
    | _ => False
  | _ => False

def fa (t : TypeId) (v : Value) (k : Nat) (w : World) (K : Value → World → Prop) : Prop :=
  match v with
  | .pointer (some ⟨b, i, none⟩) => match fOff P t k with | some o => K (.pointer (some ⟨b, i + o, none⟩)) w | none => False
  | _ => False

def ia (t : TypeId) (x j : Value) (w : World) (K : Value → World → Prop) : Prop :=
  match j with
  | .int _ i =>
    match P.underlying t with
    | some (.slice e) =>
      match x with
      | .slice (some ⟨b, o, none⟩) n _ => match szO P e with | some sz => 0 ≤ i ∧ i < n ∧ K (.pointer (some ⟨b, o + i.toNat * sz, none⟩)) w | none => False
      | _ => False
    | some (.array n e) =>
      match x with
      | .pointer (some ⟨b, o, none⟩) => match szO P e with | some sz => 0 ≤ i ∧ i < n ∧ K (.pointer (some ⟨b, o + i.toNat * sz, none⟩)) w | none => False
      | _ => False
    | _ => False
  | _ => False

/-- A part of an aggregate. -/
def prt (t : TypeId) (cs : Array Value) (off : Nat) : Option Value :=
  match aggO P t with
  | some true => match szO P t with | some n => some (.agg (cs.extract off (off + n))) | none => none
  | some false => cs[off]?
  | none => none

def ix (t : TypeId) (x j : Value) (w : World) (K : Value → World → Prop) : Prop :=
  match j with
  | .int _ i =>
    match P.underlying t, x with
    | some .string, .string s => 0 ≤ i ∧ match s[i.toNat]? with | some b => K (.int .u8 b.toNat) w | none => False
    | some (.array n e), .agg cs => match szO P e with | some sz => 0 ≤ i ∧ i < n ∧ (match prt P e cs (i.toNat * sz) with | some v => K v w | none => False) | none => False
    | _, _ => False
  | _ => False

def fd (t : TypeId) (x : Value) (k : Nat) (w : World) (K : Value → World → Prop) : Prop :=
  match P.underlying t, x with
  | some (.struct fs), .agg cs => match fs[k]? with | some f => (match prt P f.type cs f.offset with | some v => K v w | none => False) | none => False
  | _, _ => False
end

/-! ### Each suffices -/
section
variable {P : Program} {w : World} {K : Value → World → Prop}

theorem add_mk (b i n : Nat) : (⟨b, i, none⟩ : Addr).add n = ⟨b, i + n, none⟩ := by
  unfold Addr.add
  split
  · rename_i h; subst h; rfl
  · rfl
theorem run_isAgg {t : TypeId} {a : Bool} (h : aggO P t = some a) : (isAgg t).run P w = .ok a w := by
  unfold aggO at h
  cases hu : P.underlying t with
  | none => rw [hu] at h; cases h
  | some d =>
    rw [hu] at h
    simp only [isAgg, Sem.run_bind, run_underlying hu, Result.andThen_ok]
    cases d <;> simp_all <;> rfl
theorem run_sizeOf {t : TypeId} {n : Nat} (h : szO P t = some n) : (sizeOf t).run P w = .ok n w := by
  unfold szO at h
  cases hu : P.info? t with
  | none => rw [hu] at h; cases h
  | some i =>
    rw [hu] at h
    simp only [Option.map_some, Option.some.injEq] at h
    simp [sizeOf, typeInfo, hu, h]
theorem run_zeroValue {t : TypeId} {z : Value} (h : zeroO P t = some z) : (zeroValue t).run P w = .ok z w := by
  unfold zeroO at h
  cases hu : P.info? t with
  | none => rw [hu] at h; cases h
  | some i =>
    rw [hu] at h
    simp only [Option.bind_some] at h
    simp [zeroValue, typeInfo, hu, h]

theorem run_loadFrom {a : Addr} : ∀ (n i : Nat) (acc : Array Value) (f : Nat → Value), (∀ j, j < n → w.cell? (a.add (i + j)) = some (f j)) →
    (loadCellsFrom a i n acc).run P w = .ok (acc ++ ((List.range n).map f).toArray) w := by
  intro n
  induction n with
  | zero => intro i acc f _; simp [loadCellsFrom]
  | succ n ih =>
    intro i acc f h
    simp only [loadCellsFrom, load, Sem.run_bind, Sem.run]
    have h0 := h 0 (by omega)
    rw [Nat.add_zero] at h0
    rw [h0]
    simp only [Result.andThen_ok]
    rw [ih (i + 1) _ (fun j => f (j + 1)) (fun j hj => by have := h (j + 1) (by omega); rwa [Nat.add_assoc, Nat.add_comm 1 j])]
    congr 1
    rw [List.range_succ_eq_map]
    simp [Function.comp_def]

theorem ld_opv {t : TypeId} {v : Value} (h : ld P t v w K) : opv P (Instr.loadAt t v) w K := by
  unfold ld at h
  split at h
  case h_2 => exact h.elim
  case h_1 b i =>
    split at h
    case h_3 => exact h.elim
    case h_1 hagg =>
      split at h
      case h_2 => exact h.elim
      case h_1 u hu =>
        unfold opv Instr.loadAt Instr.sureAddr loadVar
        rw [← cell_rdc] at hu
        simp [run_isAgg hagg, load, Sem.run, hu, h]
    case h_2 hagg =>
      split at h
      case h_2 => exact h.elim
      case h_1 n hn =>
        split at h
        case h_2 => exact h.elim
        case h_1 cs hcs =>
          unfold rdn at hcs
          split at hcs
          case h_2 => cases hcs
          case h_1 cs' e f hb =>
            split at hcs
            case isFalse => cases hcs
            case isTrue hle =>
              simp only [Option.some.injEq] at hcs
              have hl := run_loadFrom (P := P) (w := w) (a := ⟨b, i, none⟩) n 0 #[] (fun j => cs'[i + j]?.getD undef) (fun j hj => by
                rw [add_mk, cell_rdc, hb, Nat.zero_add]
                simp only [rdc]
                rw [Array.getElem?_eq_getElem (by omega)]
                rfl)
              unfold opv Instr.loadAt Instr.sureAddr loadVar
              simp only [Sem.run_bind, Sem.run_pure, Result.andThen_ok, run_isAgg hagg, if_true, run_sizeOf hn, loadCells, hl]
              have he : (#[] ++ ((List.range n).map fun j => cs'[i + j]?.getD undef).toArray : Array Value) = cs := by
                rw [← hcs]
                apply Array.ext'
                apply List.ext_getElem?
                intro j
                simp only [Array.empty_append, List.getElem?_map, Array.toList_extract, List.extract_eq_take_drop]
                rw [List.getElem?_take, Nat.add_sub_cancel_left]
                by_cases hj : j < n
                · rw [if_pos hj, List.getElem?_drop, List.getElem?_range hj, Option.map_some, Array.getElem?_eq_getElem (by omega)]
                  simp [Array.getElem?_toList, Array.getElem?_eq_getElem (show i + j < cs'.size by omega)]
                · rw [if_neg hj, List.getElem?_eq_none (by simpa using hj)]; rfl
              rw [he]
              exact h

theorem frozen_frz (w : World) (b i : Nat) {cs : Array Value} {e : TypeId} {f : Nat × Nat} (hb : w.heap[b]? = some (.cells cs e f)) (h : frz f i 1 = false) : w.frozen? ⟨b, i, none⟩ = false := by
  obtain ⟨lo, hi⟩ := f
  unfold World.frozen?
  rw [hb]
  simp only [frz, Bool.and_eq_false_iff, decide_eq_false_iff_not] at h ⊢
  omega

theorem setCell_put {w : World} {b i : Nat} {x : Value} {cs : Array Value} {e : TypeId} {f : Nat × Nat} (hb : w.heap[b]? = some (.cells cs e f)) :
    w.setCell ⟨b, i, none⟩ x = w.put b (.cells (cs.setIfInBounds i x) e f) := by
  unfold World.setCell World.put
  congr 1
  apply Array.ext_getElem?
  intro k
  rw [Array.getElem?_modify, Array.getElem?_setIfInBounds]
  by_cases hk : b = k
  · subst hk
    have hlt : b < w.heap.size := (Array.getElem?_eq_some_iff.1 hb).1
    rw [if_pos rfl, if_pos rfl, if_pos hlt, hb]
    rfl
  · rw [if_neg hk, if_neg hk]

theorem run_store1 {b i : Nat} {x : Value} {cs : Array Value} {e : TypeId} {f : Nat × Nat} (hb : w.heap[b]? = some (.cells cs e f)) (hx : x.oneCell' = true) (hi : i < cs.size) (hf : frz f i 1 = false) :
    (store ⟨b, i, none⟩ x).run P w = .ok () (w.put b (.cells (cs.setIfInBounds i x) e f)) := by
  have hc : w.cell? ⟨b, i, none⟩ = some cs[i] := by rw [cell_rdc, hb]; exact Array.getElem?_eq_getElem hi
  rw [← setCell_put hb]
  unfold store
  cases x <;> simp [Value.oneCell'] at hx <;> simp [Sem.run, hc, frozen_frz w b i hb hf]

theorem put_put (w : World) (b : Nat) (o o' : Obj) : (w.put b o).put b o' = w.put b o' := by simp [World.put]

theorem splice_nil (cs : Array Value) (i : Nat) : splice cs i #[] = cs := by
  apply Array.ext'
  simp [splice]
theorem splice_cons {cs : Array Value} {i : Nat} {x : Value} {xs : List Value} (h : i + (xs.length + 1) ≤ cs.size) : splice (cs.setIfInBounds i x) (i + 1) xs.toArray = splice cs i (x :: xs).toArray := by
  have hi : i < cs.toList.length := by simp; omega
  apply Array.ext'
  simp only [splice, Array.toList_setIfInBounds, List.size_toArray, List.length_cons]
  apply List.ext_getElem?
  intro k
  simp only [List.append_assoc, List.getElem?_append, List.length_take, List.length_set, List.getElem?_take, List.getElem?_drop, List.getElem?_set, List.length_cons, List.getElem?_cons]
  have hl : cs.toList.length = cs.size := by simp
  by_cases h1 : k < i
  · have a1 : k < min (i + 1) cs.toList.length := by omega
    have a2 : k < min i cs.toList.length := by omega
    rw [if_pos a1, if_pos a2, if_pos (by omega), if_neg (by omega), if_pos h1]
  · by_cases h2 : k = i
    · subst h2
      have a1 : k < min (k + 1) cs.toList.length := by omega
      have a2 : ¬ k < min k cs.toList.length := by omega
      have a3 : k - min k cs.toList.length < xs.length + 1 := by omega
      have a4 : k - min k cs.toList.length = 0 := by omega
      rw [if_pos a1, if_neg a2, if_pos (by omega), if_pos rfl, if_pos hi, if_pos a3, if_pos a4]
    · have a1 : ¬ k < min (i + 1) cs.toList.length := by omega
      have a2 : ¬ k < min i cs.toList.length := by omega
      rw [if_neg a1, if_neg a2]
      by_cases h3 : k < i + 1 + xs.length
      · rw [if_pos (by omega), if_pos (by omega), if_neg (by omega)]
        congr 1
        omega
      · rw [if_neg (by omega), if_neg (by omega), if_neg (by omega)]
        congr 1
        omega

theorem run_storeN {e : TypeId} {f : Nat × Nat} {b : Nat} : ∀ (xs : List Value) (j : Nat) (w : World) (i : Nat) (cs : Array Value), w.heap[b]? = some (.cells cs e f) → (∀ u ∈ xs, u.oneCell' = true) → i + j + xs.length ≤ cs.size →
    frz f (i + j) xs.length = false → (storeCells ⟨b, i, none⟩ xs j).run P w = .ok () (w.put b (.cells (splice cs (i + j) xs.toArray) e f)) := by
  intro xs
  induction xs with
  | nil =>
    intro j w i cs hb _ _ _
    have : splice cs (i + j) (List.toArray []) = cs := splice_nil cs (i + j)
    rw [this]
    have hp : w.put b (.cells cs e f) = w := by
      unfold World.put
      congr 1
      apply Array.ext_getElem?
      intro k
      rw [Array.getElem?_setIfInBounds]
      split
      · rename_i h; subst h; rw [if_pos (Array.getElem?_eq_some_iff.1 hb).1, hb]
      · rfl
    rw [hp]
    rfl
  | cons x xs ih =>
    intro j w i cs hb h1 hle hf
    simp only [storeCells, Sem.run_bind, add_mk]
    simp only [List.length_cons] at hle hf
    have hf1 : frz f (i + j) 1 = false := by
      simp only [frz, Bool.and_eq_false_iff, decide_eq_false_iff_not] at hf ⊢
      omega
    rw [run_store1 hb (h1 x (by simp)) (by omega) hf1]
    simp only [Result.andThen_ok]
    have hlt : b < w.heap.size := (Array.getElem?_eq_some_iff.1 hb).1
    have hf2 : frz f (i + (j + 1)) xs.length = false := by
      simp only [frz, Bool.and_eq_false_iff, decide_eq_false_iff_not] at hf ⊢
      omega
    rw [ih (j + 1) _ i _ (put_same hlt) (fun u hu => h1 u (by simp [hu])) (by simp; omega) hf2, put_put]
    rw [show i + (j + 1) = i + j + 1 from by omega, splice_cons (by omega)]

theorem st_opu {t : TypeId} {v x : Value} {K : World → Prop} (h : st P t v x w K) : opu P (Instr.storeAt t v x) w K := by
  unfold st at h
  split at h
  case h_2 => exact h.elim
  case h_1 b i =>
    split at h
    case h_2 => exact h.elim
    case h_1 cs e f hb =>
      split at h
      case h_3 => exact h.elim
      case h_1 hagg =>
        split at h
        case h_2 => exact h.elim
        rename_i hs
        obtain ⟨hx, hi, hf, hk⟩ := h
        have hcs : x.cells = #[x] := by cases x <;> first | rfl | simp [Value.oneCell'] at hx
        unfold opu Instr.storeAt Instr.sureAddr storeVar
        simp only [Sem.run_bind, Sem.run_pure, Result.andThen_ok, run_sizeOf hs, hcs]
        have := run_storeN (P := P) [x] 0 w i cs hb (by simpa using hx) (by simp; omega) (by simpa using hf)
        simp [this]
        have hsp : splice cs i #[x] = cs.setIfInBounds i x := by
          have := splice_cons (cs := cs) (i := i) (x := x) (xs := []) (by simp; omega)
          rw [← this]
          exact splice_nil _ _
        rw [hsp]
        exact hk
      case h_2 hagg =>
        split at h
        case h_2 => exact h.elim
        rename_i n hs
        split at h
        case h_2 => exact h.elim
        case h_1 xs =>
          obtain ⟨rfl, hx, hi, hf, hk⟩ := h
          unfold opu Instr.storeAt Instr.sureAddr storeVar
          simp only [Sem.run_bind, Sem.run_pure, Result.andThen_ok, run_sizeOf hs, Value.cells]
          have := run_storeN (P := P) xs.toList 0 w i cs hb (by simpa using hx) (by simpa using hi) (by simpa using hf)
          simp only [Nat.add_zero, Array.toArray_toList] at this
          simp only [ne_eq, not_true_eq_false, if_false, this]
          exact hk

theorem fa_opv {t : TypeId} {v : Value} {k : Nat} (h : fa P t v k w K) : opv P (Instr.fieldAt t v k) w K := by
  unfold fa at h
  split at h
  case h_2 => exact h.elim
  case h_1 b i =>
    split at h
    case h_2 => exact h.elim
    case h_1 o ho =>
      unfold fOff at ho
      split at ho
      case h_2 => cases ho
      case h_1 fs hu =>
        cases hf : fs[k]? with
        | none => rw [hf] at ho; cases ho
        | some f =>
          rw [hf] at ho
          simp only [Option.bind_some] at ho
          cases hz : szO P f.type with
          | none => rw [hz] at ho; cases ho
          | some n =>
            rw [hz] at ho
            cases n with
            | zero => cases ho
            | succ n =>
              simp only [Option.some.injEq] at ho
              subst ho
              unfold opv Instr.fieldAt Instr.sureAddr fieldPlace
              simp [run_underlying hu, hf, run_sizeOf hz, add_mk, h]

theorem ia_opv {t : TypeId} {x j : Value} (h : ia P t x j w K) : opv P (Instr.indexAt t x j) w K := by
  unfold ia at h
  split at h
  case h_2 => exact h.elim
  case h_1 k i =>
    split at h
    case h_3 => exact h.elim
    case h_1 e hu =>
      split at h
      case h_2 => exact h.elim
      case h_1 b o n c =>
        split at h
        case h_2 => exact h.elim
        case h_1 sz hs =>
          obtain ⟨h0, h1, hk⟩ := h
          unfold opv Instr.indexAt
          simp [asIntOf, run_underlying hu, run_sizeOf hs, h0, h1, add_mk, hk]
    case h_2 n e hu =>
      split at h
      case h_2 => exact h.elim
      case h_1 b o =>
        split at h
        case h_2 => exact h.elim
        case h_1 sz hs =>
          obtain ⟨h0, h1, hk⟩ := h
          unfold opv Instr.indexAt Instr.sureAddr
          simp [asIntOf, run_underlying hu, run_sizeOf hs, h0, h1, add_mk, hk]

theorem run_part {t : TypeId} {cs : Array Value} {off : Nat} {v : Value} (h : prt P t cs off = some v) : (part t cs off).run P w = .ok v w := by
  unfold prt at h
  split at h
  case h_1 ha =>
    split at h
    case h_2 => cases h
    case h_1 n hn =>
      simp only [Option.some.injEq] at h
      subst h
      unfold part
      simp [run_isAgg ha, run_sizeOf hn]
  case h_2 ha =>
    unfold part
    simp [run_isAgg ha, h]
  case h_3 => cases h

theorem ix_opv {t : TypeId} {x j : Value} (h : ix P t x j w K) : opv P (Instr.index t x j) w K := by
  unfold ix at h
  split at h
  case h_2 => exact h.elim
  case h_1 k i =>
    split at h
    case h_3 => exact h.elim
    case h_1 s hu =>
      obtain ⟨h0, h⟩ := h
      split at h
      case h_2 => exact h.elim
      case h_1 b hb =>
        unfold opv Instr.index
        simp [asIntOf, run_underlying hu, h0, hb, h]
    case h_2 n e cs hu =>
      split at h
      case h_2 => exact h.elim
      case h_1 sz hs =>
        obtain ⟨h0, h1, h⟩ := h
        split at h
        case h_2 => exact h.elim
        case h_1 v hv =>
          unfold opv Instr.index
          simp [asIntOf, run_underlying hu, run_sizeOf hs, h0, h1, run_part hv, h]

theorem fd_opv {t : TypeId} {x : Value} {k : Nat} (h : fd P t x k w K) : opv P (Instr.field t x k) w K := by
  unfold fd at h
  split at h
  case h_2 => exact h.elim
  case h_1 fs cs hu =>
    split at h
    case h_2 => exact h.elim
    case h_1 f hf =>
      split at h
      case h_2 => exact h.elim
      case h_1 v hv =>
        unfold opv Instr.field
        simp [run_underlying hu, hf, asAgg, run_part hv, h]
end

/-! ### More operations -/
section
variable (P : Program)

def ex (v : Value) (k : Nat) (w : World) (K : Value → World → Prop) : Prop :=
  match v with
  | .tuple vs => match vs[k]? with | some u => K u w | none => False
  | _ => False

def un (op : UnOp) (v : Value) (w : World) (K : Value → World → Prop) : Prop :=
  match op, v with
  | .not, .bool b => K (.bool !b) w
  | .neg, .int k n => K (.int k (k.wrap (0 - n))) w
  | .xor, .int .u64 n => K (.int .u64 (IntKind.u64.wrap (BitVec.ofInt 64 IntKind.u64.max ^^^ BitVec.ofInt 64 n).toNat)) w
  | .xor, .int .u32 n => K (.int .u32 (IntKind.u32.wrap (BitVec.ofInt 32 IntKind.u32.max ^^^ BitVec.ofInt 32 n).toNat)) w
  | .xor, .int .u8 n => K (.int .u8 (IntKind.u8.wrap (BitVec.ofInt 8 IntKind.u8.max ^^^ BitVec.ofInt 8 n).toNat)) w
  | _, _ => False

def cv (s d : TypeId) (v : Value) (w : World) (K : Value → World → Prop) : Prop :=
  match v with
  | .int _ n => match P.underlying s, P.underlying d with | some _, some (.int k) => K (.int k (k.wrap n)) w | _, _ => False
  | v => opv P (convert s d v) w K

/-- Where a slice expression's bounds lie. -/
def bnd (n c : Nat) (lo hi mx : Option Value) : Option (Nat × Nat × Nat) :=
  match mx with
  | none =>
    match (match hi with | none => some n | some (.int _ i) => if 0 ≤ i ∧ i ≤ c then some i.toNat else none | some _ => none) with
    | none => none
    | some h =>
      match (match lo with | none => some 0 | some (.int _ i) => if 0 ≤ i ∧ i ≤ h then some i.toNat else none | some _ => none) with
      | none => none
      | some l => some (l, h, c)
  | some (.int _ m) =>
    if 0 ≤ m ∧ m ≤ c then
      match hi with
      | some (.int _ i) =>
        if 0 ≤ i ∧ i ≤ m then
          match (match lo with | none => some 0 | some (.int _ j) => if 0 ≤ j ∧ j ≤ i then some j.toNat else none | some _ => none) with
          | none => none
          | some l => some (l, i.toNat, m.toNat)
        else none
      | _ => none
    else none
  | some _ => none

def sl (t : TypeId) (x : Value) (lo hi mx : Option Value) (w : World) (K : Value → World → Prop) : Prop :=
  match P.underlying t, x with
  | some .string, .string s => mx = none ∧ match bnd s.size s.size lo hi none with | some (l, h, _) => K (.string (s.extract l h)) w | none => False
  | some (.slice e), .slice A n c =>
    match szO P e with
    | some sz => (match bnd n c lo hi mx with | some (l, h, m) => K (.slice (if m = l then A else A.map (·.add (l * sz))) (h - l) (m - l)) w | none => False)
    | none => False
  | some (.array n e), .pointer (some a) =>
    match szO P e with
    | some sz => (match bnd n n lo hi mx with | some (l, h, m) => K (.slice (some (if m = l then a else a.add (l * sz))) (h - l) (m - l)) w | none => False)
    | none => False
  | _, _ => False

def al (t : TypeId) (w : World) (K : Value → World → Prop) : Prop :=
  match zeroO P t with
  | some z => K (.pointer (some ⟨w.heap.size, 0, none⟩)) (w.alloc (.cells z.cells t))
  | none => False
def bx (t : TypeId) (v : Value) (w : World) (K : Value → World → Prop) : Prop := K (.pointer (some ⟨w.heap.size, 0, none⟩)) (w.alloc (.cells v.cells t))

/-- The places of a literal's parts. -/
def fillS (fs : Array Field) : List (Nat × Value) → Array Value → Option (Array Value)
  | [], cs => some cs
  | (i, v) :: r, cs =>
    match fs[i]? with
    | some f => if szO P f.type = some v.cells.size ∧ f.offset + v.cells.size ≤ cs.size then fillS fs r (splice cs f.offset v.cells) else none
    | none => none
def fillA (sz : Nat) : List (Nat × Value) → Array Value → Option (Array Value)
  | [], cs => some cs
  | (i, v) :: r, cs => if v.cells.size = sz ∧ i * sz + sz ≤ cs.size then fillA sz r (splice cs (i * sz) v.cells) else none

def bd (t : TypeId) (parts : Array (Nat × Value)) (w : World) (K : Value → World → Prop) : Prop :=
  match zeroO P t with
  | some z =>
    match P.underlying t with
    | some (.struct fs) => match fs.toList.all (fun f => (szO P f.type).isSome), fillS P fs parts.toList z.cells with | true, some cs => K (.agg cs) w | _, _ => False
    | some (.array _ e) => match szO P e with | some sz => (match fillA sz parts.toList z.cells with | some cs => K (.agg cs) w | none => False) | none => False
    | _ => False
  | none => False

/-- So many zero elements, cell by cell. -/
def zeros (z : Array Value) : Nat → List Value
  | 0 => []
  | n + 1 => z.toList ++ zeros z n

def bs (t : TypeId) (n : Nat) (parts : Array (Nat × Value)) (w : World) (K : Value → World → Prop) : Prop :=
  match P.underlying t with
  | some (.slice e) =>
    match szO P e, zeroO P e with
    | some sz, some z =>
      match decide (n * sz ≤ 16777216), decide (z.cells.size = sz) with
      | true, true => match fillA sz parts.toList (zeros z.cells n).toArray with
        | some cs => K (.slice (some ⟨w.heap.size, 0, none⟩) n n) (w.alloc (.cells cs e))
        | none => False
      | _, _ => False
    | _, _ => False
  | _ => False

def ln (t : TypeId) (x : Value) (w : World) (K : Value → World → Prop) : Prop :=
  match P.underlying t, x with
  | some .string, .string s => K (.int .i64 s.size) w
  | some (.array n _), _ => K (.int .i64 n) w
  | some (.slice _), .slice _ n _ => K (.int .i64 n) w
  | some (.map _ _), .map none => K (.int .i64 0) w
  | some (.map _ _), .map (some r) => match w.heap[r]? with | some (.map es _) => K (.int .i64 es.size) w | _ => False
  | _, _ => False
end

theorem run_bound {P : Program} {w : World} {k : IntKind} {i : Int} {y : Nat} {code : BoundsCode} (h : 0 ≤ i ∧ i ≤ y) : (Instr.sliceBound (.int k i) y code).run P w = .ok i.toNat w := by
  unfold Instr.sliceBound
  simp [asIntOf, h]

theorem bound_of {y : Nat} {v : Value} {r : Nat} (h : (match v with | .int _ i => if 0 ≤ i ∧ i ≤ (y : Int) then some i.toNat else none | _ => none) = some r) (P : Program) (w : World) (code : BoundsCode) :
    (Instr.sliceBound v y code).run P w = .ok r w := by
  cases v <;> simp only at h <;> try cases h
  case int k i =>
    split at h
    · rename_i hb
      simp only [Option.some.injEq] at h
      subst h
      exact run_bound hb
    · cases h

theorem run_bounds {P : Program} {w : World} {isSlice : Bool} {n c : Nat} {lo hi mx : Option Value} {r : Nat × Nat × Nat} (h : bnd n c lo hi mx = some r) :
    (Instr.sliceBounds isSlice n c lo hi mx).run P w = .ok r w := by
  unfold bnd at h
  unfold Instr.sliceBounds
  cases mx with
  | none =>
    try simp only at h
    cases hi with
    | none =>
      try simp only at h
      cases lo with
      | none => simp only [Option.some.injEq] at h; subst h; rfl
      | some v =>
        try simp only at h
        split at h
        case h_1 => cases h
        case h_2 l hl =>
          simp only [Option.some.injEq] at h
          subst h
          simp [bound_of (y := n) (v := v) (by cases v <;> first | exact hl | cases hl)]
    | some u =>
      try simp only at h
      split at h
      case h_1 => cases h
      case h_2 h' hh =>
        have hu := fun code => bound_of (y := c) (v := u) (r := h') (by cases u <;> first | exact hh | cases hh) P w code
        cases lo with
        | none => simp only [Option.some.injEq] at h; subst h; simp [hu]
        | some v =>
          try simp only at h
          split at h
          case h_1 => cases h
          case h_2 l hl =>
            simp only [Option.some.injEq] at h
            subst h
            simp [hu, bound_of (y := h') (v := v) (by cases v <;> first | exact hl | cases hl)]
  | some mv =>
    cases mv <;> simp only at h <;> try cases h
    case int km m =>
      split at h
      case isFalse => cases h
      case isTrue hm =>
        cases hi with
        | none => cases h
        | some hv =>
          cases hv <;> simp only at h <;> try cases h
          case int kh i =>
            split at h
            case isFalse => cases h
            case isTrue hi' =>
              have hib : 0 ≤ i ∧ i ≤ (m.toNat : Int) := by omega
              cases lo with
              | none =>
                simp only [Option.some.injEq] at h
                subst h
                simp [run_bound hm, run_bound hib]
              | some v =>
                try simp only at h
                split at h
                case h_1 => cases h
                case h_2 l hl =>
                  simp only [Option.some.injEq] at h
                  subst h
                  have hv := fun code => bound_of (y := i.toNat) (v := v) (r := l) (by
                    cases v <;> simp only at hl ⊢ <;> try cases hl
                    case int k j =>
                      rw [show ((i.toNat : Nat) : Int) = i from by omega]
                      exact hl) P w code
                  simp [run_bound hm, run_bound hib, hv]

section
variable {P : Program} {w : World} {K : Value → World → Prop}

theorem ex_opv {v : Value} {k : Nat} (h : ex v k w K) : opv P (Instr.extract v k) w K := by
  unfold ex at h
  split at h
  case h_2 => exact h.elim
  case h_1 vs =>
    split at h
    case h_2 => exact h.elim
    case h_1 u hu =>
      unfold opv Instr.extract
      simp [hu, h]

theorem un_opv {op : UnOp} {v : Value} (h : un op v w K) : opv P (Op.unary op v) w K := by
  unfold un at h
  split at h <;> first | exact h | exact h.elim

theorem cv_opv {s d : TypeId} {v : Value} (h : cv P s d v w K) : opv P (convert s d v) w K := by
  unfold cv at h
  split at h
  case h_2 => exact h
  case h_1 k n =>
    split at h
    case h_2 => exact h.elim
    case h_1 ds k' hs hk =>
      unfold opv convert
      simp [run_underlying hs, run_underlying hk, Conv.intToInt, h]

theorem al_opv {t : TypeId} (h : al P t w K) : opv P (Instr.alloc t true (.tuple #[])) w K := by
  unfold al at h
  split at h
  case h_2 => exact h.elim
  case h_1 z hz =>
    unfold opv Instr.alloc
    simp only [Sem.run_bind, run_zeroValue hz, Result.andThen_ok]
    exact h
theorem bx_opv {t : TypeId} {v : Value} (h : bx t v w K) : opv P (Instr.box t v) w K := h

theorem ln_opv {t ty : TypeId} {x : Value} (h : ln P t x w K) : opv P (Builtin.len_ #[t] ty #[x]) w K := by
  unfold ln at h
  unfold opv Builtin.len_
  split at h
  case h_1 s hu => simpa [run_underlying hu, goInt] using h
  case h_2 n e hu => simpa [run_underlying hu, goInt] using h
  case h_3 e a n c hu => simpa [run_underlying hu, goInt] using h
  case h_4 k e hu => simpa [run_underlying hu, goInt] using h
  case h_5 k e r hu =>
    split at h
    case h_1 es c hr => simpa [run_underlying hu, goInt, getObj, Sem.run, hr] using h
    case h_2 => exact h.elim
  case h_6 => exact h.elim

theorem sl_opv {t : TypeId} {x : Value} {lo hi mx : Option Value} (h : sl P t x lo hi mx w K) : opv P (Instr.sliceAt t x lo hi mx) w K := by
  unfold sl at h
  unfold opv Instr.sliceAt
  split at h
  case h_1 s hu =>
    obtain ⟨rfl, h⟩ := h
    split at h
    case h_2 => exact h.elim
    case h_1 l h' m hb =>
      simp [run_underlying hu, Instr.slice, run_bounds (isSlice := false) hb, h]
  case h_2 e A n c hu =>
    split at h
    case h_2 => exact h.elim
    rename_i sz hs
    split at h
    case h_2 => exact h.elim
    case h_1 l h' m hb =>
      simp [run_underlying hu, Instr.slice, run_bounds (isSlice := true) hb, run_sizeOf hs, h]
  case h_3 n e a hu =>
    split at h
    case h_2 => exact h.elim
    rename_i sz hs
    split at h
    case h_2 => exact h.elim
    case h_1 l h' m hb =>
      simp [run_underlying hu, Instr.sureAddr, run_bounds (isSlice := false) hb, run_sizeOf hs, h]
  case h_4 => exact h.elim
end

/-! ### Literals -/
theorem foldl_splice (off : Nat) : ∀ (xs : List Value) (k : Nat) (cs : Array Value), off + k + xs.length ≤ cs.size →
    (xs.zipIdx k).foldl (fun cs (p : Value × Nat) => cs.setIfInBounds (off + p.2) p.1) cs = splice cs (off + k) xs.toArray := by
  intro xs
  induction xs with
  | nil => intro k cs _; simp only [List.zipIdx_nil, List.foldl_nil]; exact (splice_nil cs (off + k)).symm
  | cons x xs ih =>
    intro k cs h
    simp only [List.length_cons] at h
    simp only [List.zipIdx_cons, List.foldl_cons]
    rw [ih (k + 1) _ (by simp; omega), show off + (k + 1) = off + k + 1 from by omega, splice_cons (by omega)]

theorem splice_of_fold {off : Nat} {v : Value} {cs : Array Value} (h : off + v.cells.size ≤ cs.size) :
    v.cells.zipIdx.foldl (fun cs (p : Value × Nat) => cs.setIfInBounds (off + p.2) p.1) cs = splice cs off v.cells := by
  have := foldl_splice off v.cells.toList 0 cs (by simpa using h)
  rw [← Array.foldl_toList, Array.toList_zipIdx]
  simpa using this

section
variable {P : Program} {w : World} {K : Value → World → Prop}

theorem fill_struct {fs : Array Field} {place : Nat → Option (Nat × Nat)} (hp : ∀ i f n, fs[i]? = some f → szO P f.type = some n → place i = some (f.offset, n)) : ∀ (l : List (Nat × Value)) (cs r : Array Value), fillS P fs l cs = some r → Instr.fill place cs l = some r := by
  intro l
  induction l with
  | nil => intro cs r h; exact h
  | cons p l ih =>
    intro cs r h
    obtain ⟨i, v⟩ := p
    simp only [fillS] at h
    split at h
    case h_2 => cases h
    case h_1 f hf =>
      split at h
      case isFalse => cases h
      case isTrue hc =>
        simp only [Instr.fill, hp i f _ hf hc.1]
        rw [if_neg (by simp; omega)]
        rw [splice_of_fold hc.2]
        exact ih _ _ h

theorem fill_array {sz : Nat} : ∀ (l : List (Nat × Value)) (cs r : Array Value), fillA sz l cs = some r → Instr.fill (fun i => some (i * sz, sz)) cs l = some r := by
  intro l
  induction l with
  | nil => intro cs r h; exact h
  | cons p l ih =>
    intro cs r h
    obtain ⟨i, v⟩ := p
    simp only [fillA] at h
    split at h
    case isFalse => cases h
    case isTrue hc =>
      simp only [Instr.fill]
      rw [if_neg (by simp; omega)]
      rw [splice_of_fold (by omega)]
      exact ih _ _ h

theorem run_places : ∀ (l : List Field), (∀ f ∈ l, (szO P f.type).isSome = true) → (l.mapM fun f => do pure (f.offset, ← sizeOf f.type) : Sem (List (Nat × Nat))).run P w = .ok (l.map fun f => (f.offset, (szO P f.type).getD 0)) w := by
  intro l
  induction l with
  | nil => intro _; rfl
  | cons f l ih =>
    intro h
    obtain ⟨n, hn⟩ := Option.isSome_iff_exists.1 (h f (by simp))
    rw [List.mapM_cons]
    simp only [Sem.run_bind, run_sizeOf hn, Result.andThen_ok, Sem.run_pure, ih (fun g hg => h g (by simp [hg])), List.map_cons, hn, Option.getD_some]

theorem bd_opv {t : TypeId} {parts : Array (Nat × Value)} (h : bd P t parts w K) : opv P (Instr.build t parts) w K := by
  unfold bd at h
  split at h
  case h_2 => exact h.elim
  case h_1 z hz =>
    unfold opv Instr.build
    split at h
    case h_1 fs hu =>
      split at h
      case h_2 => exact h.elim
      case h_1 cs hall hcs =>
        simp only [Sem.run_bind, run_zeroValue hz, Result.andThen_ok, run_underlying hu]
        have hm : (fs.mapM fun f => do pure (f.offset, ← sizeOf f.type) : Sem (Array (Nat × Nat))).run P w = .ok (fs.toList.map fun f => (f.offset, (szO P f.type).getD 0)).toArray w := by
          have h1 : fs = fs.toList.toArray := by simp
          rw [h1, List.mapM_toArray]
          simp only [Sem.run_map, run_places fs.toList (List.all_eq_true.1 hall), Result.andThen_ok]
        rw [hm]
        simp only [Result.andThen_ok]
        have hf := fill_struct (P := P) (fs := fs) (place := fun x => (fs.toList.map fun f => (f.offset, (szO P f.type).getD 0)).toArray[x]?) (fun i f n hi hn => by simp [hi, hn]) parts.toList z.cells cs hcs
        rw [hf]
        exact h
    case h_2 n e hu =>
      split at h
      case h_2 => exact h.elim
      case h_1 sz hs =>
        split at h
        case h_2 => exact h.elim
        case h_1 cs hcs =>
          simp only [Sem.run_bind, run_zeroValue hz, Result.andThen_ok, run_underlying hu, run_sizeOf hs]
          rw [fill_array parts.toList z.cells cs hcs]
          exact h
    case h_3 => exact h.elim

theorem zeros_length (z : Array Value) (n : Nat) : (zeros z n).length = n * z.size := by
  induction n with
  | zero => simp [zeros]
  | succ n ih => simp [zeros, ih, Nat.succ_mul, Nat.add_comm]
theorem zeros_get (z : Array Value) : ∀ (n i : Nat), i < n * z.size → (zeros z n)[i]? = z[i % z.size]? := by
  intro n
  induction n with
  | zero => intro i h; omega
  | succ n ih =>
    intro i h
    rw [Nat.succ_mul] at h
    simp only [zeros]
    by_cases hi : i < z.size
    · rw [List.getElem?_append_left (by simpa using hi), Nat.mod_eq_of_lt hi]; simp
    · rw [List.getElem?_append_right (by simpa using hi)]
      simp only [Array.length_toList]
      rw [ih (i - z.size) (by omega), show i % z.size = (i - z.size) % z.size from Nat.mod_eq_sub_mod (by omega)]
theorem zeros_range (z : Array Value) (n : Nat) : (Array.range (n * z.size)).map (fun i => z[i % z.size]!) = (zeros z n).toArray := by
  apply Array.ext'
  apply List.ext_getElem?
  intro i
  simp only [Array.toList_map, Array.toList_range, List.getElem?_map]
  by_cases hi : i < n * z.size
  · rw [List.getElem?_range hi, zeros_get z n i hi]
    have hz : 0 < z.size := by
      rcases Nat.eq_zero_or_pos z.size with h | h
      · rw [h] at hi; omega
      · exact h
    have hlt : i % z.size < z.size := Nat.mod_lt _ hz
    simp [Array.getElem?_eq_getElem hlt, getElem!_pos z (i % z.size) hlt]
  · rw [List.getElem?_eq_none (by simpa using hi), List.getElem?_eq_none (by rw [zeros_length]; omega)]; rfl

theorem bs_opv {t : TypeId} {n : Nat} {parts : Array (Nat × Value)} (h : bs P t n parts w K) : opv P (Instr.buildSlice t n parts) w K := by
  unfold bs at h
  split at h
  case h_2 => exact h.elim
  case h_1 e hu =>
    split at h
    case h_2 => exact h.elim
    case h_1 sz z hs hz =>
      split at h
      case h_2 => exact h.elim
      rename_i hle hzs
      replace hle := of_decide_eq_true hle
      replace hzs := of_decide_eq_true hzs
      split at h
      case h_2 => exact h.elim
      case h_1 cs hcs =>
        unfold opv Instr.buildSlice
        simp only [Sem.run_bind, run_underlying hu, Result.andThen_ok, run_sizeOf hs]
        rw [if_neg (by omega)]
        have fin : ∀ (zc : Array Value), (Array.range (n * sz)).map (fun x => zc[x % zc.size]!) = (zeros z.cells n).toArray →
            (match Sem.run P (match Instr.fill (fun i => some (i * sz, sz)) ((Array.range (n * sz)).map (fun x => zc[x % zc.size]!)) parts.toList with
              | some cells => do pure (Value.slice (some (← newRow e cells)) n n)
              | _ => stuck "buildSlice: a part of the wrong size") w with
            | .ok v w' => K v w'
            | .halt _ _ => False) := by
          intro zc hr
          rw [hr, fill_array parts.toList _ cs hcs]
          exact h
        by_cases h0 : n * sz = 0
        · rw [if_pos h0]
          refine fin #[] ?_
          have h1 : zeros z.cells n = [] := List.eq_nil_of_length_eq_zero (by rw [zeros_length, hzs]; exact h0)
          rw [h1, h0]
          simp
        · rw [if_neg h0]
          simp only [Sem.run_bind, run_zeroValue hz, Result.andThen_ok, Sem.run_pure]
          refine fin z.cells ?_
          rw [← hzs]
          exact zeros_range z.cells n
end

/-! ### Maps -/
/-- Kinds of keys that are one cell and are compared at once. -/
def plainKind : TypeDesc → Bool
  | .int _ => true
  | .string => true
  | .bool => true
  | _ => false

section
variable (P : Program)
/-- The kind of a map's keys, where it is a plain one; its element's type. -/
def mapTy (t : TypeId) : Option (TypeDesc × TypeId) :=
  match P.underlying t with
  | some (.map k e) => match P.underlying k with | some d => if plainKind d then some (d, e) else none | none => none
  | _ => none

def mapEs (w : World) (m : Value) : Option (Array MapEntry) :=
  match m with
  | .map none => some #[]
  | .map (some r) => match w.heap[r]? with | some (.map es _) => some es | _ => none
  | _ => none

/-- What a look-up yields: with 'ok' or without. -/
def lkRes (ok : Bool) (r : Option (Option (Nat × Value))) (z : Option Value) : Option Value :=
  match r with
  | some (some (_, v)) => some (match ok with | true => .tuple #[v, .bool true] | false => v)
  | some none => match z with | some z => some (match ok with | true => .tuple #[z, .bool false] | false => z) | none => none
  | none => none

def lk (t : TypeId) (m k : Value) (ok : Bool) (w : World) (K : Value → World → Prop) : Prop :=
  match mapTy P t with
  | some (d, e) =>
    match mapEs w m with
    | some es => match lkRes ok (Instr.findNow d k es.toList 0) (zeroO P e) with | some v => K v w | none => False
    | none => False
  | none => opv P (Instr.lookup t m k ok) w K

def mu (t : TypeId) (m k v : Value) (w : World) (K : World → Prop) : Prop :=
  match mapTy P t with
  | some (d, _) =>
    match m with
    | .map (some r) =>
      match w.heap[r]? with
      | some (.map es c) =>
        match Instr.findNow d k es.toList 0 with
        | some (some (i, _)) => K (w.put r (.map (es.modify i fun e => { e with key := k, val := v }) c))
        | some none => K (w.put r (.map (es.push { key := k, val := v, born := c }) (c + 1)))
        | none => False
      | _ => False
    | _ => False
  | none => opu P (Instr.mapUpdate t m k v) w K

def dl (t : TypeId) (m k : Value) (w : World) (K : Value → World → Prop) : Prop :=
  match mapTy P t with
  | some (d, _) =>
    match m with
    | .map none => K (.tuple #[]) w
    | .map (some r) =>
      match w.heap[r]? with
      | some (.map es c) =>
        match Instr.findNow d k es.toList 0 with
        | some (some (i, _)) => K (.tuple #[]) (w.put r (.map (es.eraseIdxIfInBounds i) c))
        | some none => K (.tuple #[]) (w.put r (.map es c))
        | none => False
      | _ => False
    | _ => False
  | none => False

def me (t : TypeId) (m k : Value) (w : World) (K : Value → World → Prop) : Prop :=
  match mapTy P t with
  | some (d, e) =>
    match m with
    | .map (some r) =>
      match w.heap[r]? with
      | some (.map es c) =>
        match Instr.findNow d k es.toList 0 with
        | some (some (i, v)) => K (.tuple #[v, .int .i64 (((es[i]?).map (·.born)).getD 0)]) (w.put r (.map (es.modify i fun e => { e with key := k }) c))
        | some none => match zeroO P e with | some z => K (.tuple #[z, .int .i64 c]) (w.put r (.map (es.push { key := k, val := z, born := c }) (c + 1))) | none => False
        | none => False
      | _ => False
    | _ => False
  | none => opv P (Instr.mapEntry t m k) w K

def rg (t : TypeId) (x : Value) (w : World) (K : Value → World → Prop) : Prop :=
  match P.underlying t, x with
  | some .string, .string s => K (.pointer (some ⟨w.heap.size, 0, none⟩)) (w.alloc (.stringIter s 0))
  | some (.map _ _), .map none => K (.pointer (some ⟨w.heap.size, 0, none⟩)) (w.alloc (.mapIter none 0 #[] 0))
  | some (.map _ _), .map (some m) =>
    match w.heap[m]? with
    | some (.map _ c) => K (.pointer (some ⟨w.heap.size, 0, none⟩)) (w.alloc (.mapIter (some m) c #[] c))
    | _ => False
  | _, _ => False

/-- The entries that are still to come, where no entry came since the range began. -/
def leftOf (es : Array MapEntry) (seen : Array Nat) : List MapEntry := es.toList.filter fun e => !seen.contains e.born

/-- The next entry of a map to which nothing was added: any that is left; the end, if none is. -/
def nx (it : Value) (w : World) (K : Value → World → Prop) : Prop :=
  match it with
  | .pointer (some ⟨r, 0, _⟩) =>
    match w.heap[r]? with
    | some (.mapIter none _ _ _) => K (.tuple #[.bool false]) w
    | some (.mapIter (some m) since seen last) =>
      match w.heap[m]? with
      | some (.map es c) =>
        (∀ e ∈ es, e.born < since ∧ e.born < last) ∧
        (leftOf es seen = [] → ∀ w', w' = w ∨ w' = w.drew → K (.tuple #[.bool false]) w') ∧
        ∀ e ∈ leftOf es seen, ∀ w', w' = w ∨ w' = w.drew → K (.tuple #[.bool true, e.key, e.val]) (w'.put r (.mapIter (some m) since (seen.push e.born) c))
      | _ => False
    | _ => False
  | _ => False

def en (it : Value) (w : World) (K : Value → World → Prop) : Prop :=
  match it with
  | .pointer (some ⟨r, 0, _⟩) =>
    match w.heap[r]? with
    | some (.mapIter (some m) _ seen stepped) =>
      match seen.back? with
      | some stamp =>
        match w.heap[m]? with
        | some (.map es c) => c = stepped ∧ match es.find? (·.born == stamp) with | some e => K (.tuple #[e.key, e.val]) w | none => False
        | _ => False
      | none => False
    | _ => False
  | _ => False
end

section
variable {P : Program} {w : World} {K : Value → World → Prop}

theorem mapTy_spec {t : TypeId} {d : TypeDesc} {e : TypeId} (h : mapTy P t = some (d, e)) : ∃ k, P.underlying t = some (.map k e) ∧ P.underlying k = some d ∧ plainKind d = true := by
  unfold mapTy at h
  split at h
  case h_2 => cases h
  case h_1 k e' hu =>
    split at h
    case h_2 => cases h
    case h_1 d' hd =>
      split at h
      case isFalse => cases h
      case isTrue hp =>
        simp only [Option.some.injEq, Prod.mk.injEq] at h
        obtain ⟨rfl, rfl⟩ := h
        exact ⟨k, hu, hd, hp⟩

theorem run_checkKey {k : TypeId} {d : TypeDesc} (hd : P.underlying k = some d) (hp : plainKind d = true) (b : Bool) (n : Nat) (v : Value) : (Instr.checkKey b (n + 1) k v).run P w = .ok () w := by
  unfold Instr.checkKey
  simp only [Sem.run_bind, run_underlying hd, Result.andThen_ok]
  cases d <;> simp [plainKind] at hp <;> rfl

theorem run_findKey {k : TypeId} {d : TypeDesc} (hd : P.underlying k = some d) {x : Value} {es : List MapEntry} {r : Option (Nat × Value)} (h : Instr.findNow d x es 0 = some r) : (Instr.findKey k x es).run P w = .ok r w := by
  unfold Instr.findKey
  simp only [Sem.run_bind, run_underlying hd, Result.andThen_ok, h]
  rfl

theorem run_getObj {r : Nat} {o : Obj} (h : w.heap[r]? = some o) (ho : ∀ c e f, o ≠ .cells c e f) : (getObj r).run P w = .ok o w := by
  unfold getObj
  cases o <;> simp [Sem.run, h] <;> exact absurd rfl (ho _ _ _)
theorem run_setObj {r : Nat} {o o' : Obj} (h : w.heap[r]? = some o) (ho : ∀ c e f, o ≠ .cells c e f) : (setObj r o').run P w = .ok () (w.put r o') := by
  unfold setObj World.put
  cases o <;> simp [Sem.run, h] <;> exact absurd rfl (ho _ _ _)

theorem run_lkRest {kt e : TypeId} {d : TypeDesc} {k v : Value} {ok : Bool} {es : Array MapEntry} (hd : P.underlying kt = some d) (hp : plainKind d = true) (h : lkRes ok (Instr.findNow d k es.toList 0) (zeroO P e) = some v) :
    (do
      Instr.checkKey es.isEmpty 10000 kt k
      let (v, ok') ← match ← Instr.findKey kt k es.toList with
        | some (_, v) => pure (v, true)
        | none => pure (← zeroValue e, false)
      pure (if ok then .tuple #[v, .bool ok'] else v) : Sem Value).run P w = .ok v w := by
  unfold lkRes at h
  simp only [Sem.run_bind, run_checkKey hd hp, Result.andThen_ok]
  cases hf : Instr.findNow d k es.toList 0 with
  | none => rw [hf] at h; cases h
  | some r =>
    rw [hf] at h
    simp only [run_findKey hd hf, Result.andThen_ok]
    cases r with
    | some p =>
      simp only [Option.some.injEq] at h
      subst h
      cases ok <;> rfl
    | none =>
      simp only at h
      cases hz : zeroO P e with
      | none => rw [hz] at h; cases h
      | some z =>
        rw [hz] at h
        simp only [Option.some.injEq] at h
        subst h
        simp only [Sem.run_bind, run_zeroValue hz, Result.andThen_ok, Sem.run_pure]
        cases ok <;> rfl

theorem lk_opv {t : TypeId} {m k : Value} {ok : Bool} (h : lk P t m k ok w K) : opv P (Instr.lookup t m k ok) w K := by
  unfold lk at h
  split at h
  case h_2 => exact h
  case h_1 d e hm =>
    obtain ⟨kt, hu, hd, hp⟩ := mapTy_spec hm
    split at h
    case h_2 => exact h.elim
    case h_1 es hes =>
      split at h
      case h_2 => exact h.elim
      case h_1 v hv =>
        have hrest := run_lkRest (w := w) hd hp hv
        have fin : (Instr.lookup t m k ok).run P w = .ok v w := by
          unfold Instr.lookup
          simp only [Sem.run_bind, run_underlying hu, Result.andThen_ok] at hrest ⊢
          cases m with
          | map r =>
            cases r with
            | none =>
              simp only [mapEs, Option.some.injEq] at hes
              subst hes
              simp only [Sem.run_bind, Sem.run_pure, Result.andThen_ok]
              exact hrest
            | some r =>
              simp only [mapEs] at hes
              cases hr : w.heap[r]? with
              | none => rw [hr] at hes; cases hes
              | some o =>
                rw [hr] at hes
                cases o <;> simp only [Option.some.injEq] at hes <;> try cases hes
                case map es' c =>
                  simp only [Sem.run_bind, run_getObj hr (by simp), Sem.run_pure, Result.andThen_ok]
                  exact hrest
          | _ => simp only [mapEs] at hes; cases hes
        unfold opv
        rw [fin]
        exact h

/-- What is found has the key. -/
theorem findNow_spec {d : TypeDesc} {k : Value} : ∀ (es : List MapEntry) (i j : Nat) (v : Value), Instr.findNow d k es i = some (some (j, v)) →
    i ≤ j ∧ ∃ e, es[j - i]? = some e ∧ e.val = v ∧ Instr.sameNow d k e.key = some true := by
  intro es
  induction es with
  | nil => intro i j v h; simp [Instr.findNow] at h
  | cons e es ih =>
    intro i j v h
    simp only [Instr.findNow] at h
    split at h
    case h_1 hs =>
      simp only [Option.some.injEq, Prod.mk.injEq] at h
      obtain ⟨rfl, rfl⟩ := h
      exact ⟨Nat.le_refl _, e, by simp, rfl, hs⟩
    case h_2 hs =>
      obtain ⟨h1, e', h2, h3, h4⟩ := ih (i + 1) j v h
      refine ⟨by omega, e', ?_, h3, h4⟩
      rw [show j - i = (j - (i + 1)) + 1 from by omega]
      simpa using h2
    case h_3 => cases h

theorem bytes_beq (a b : ByteArray) : (a == b) = true ↔ a = b := by
  rw [beq_toListBytes, ByteArray.toList_eq, ByteArray.toList_eq, beq_iff_eq]
  exact ⟨fun h => by cases a; cases b; congr 1; exact Array.ext' h, fun h => by rw [h]⟩

theorem sameNow_bits {d : TypeDesc} {a b : Value} (h : Instr.sameNow d a b = some true) (n : Nat) : Instr.sameBits (n + 1) b a = true := by
  unfold Instr.sameNow at h
  split at h
  case h_1 =>
    split at h
    · rename_i hk
      simp only [Option.some.injEq, beq_iff_eq] at h
      subst hk h
      simp [Instr.sameBits]
    · cases h
  case h_2 =>
    simp only [Option.some.injEq] at h
    have h := (bytes_beq _ _).1 h
    subst h
    simp only [Instr.sameBits]
    exact (bytes_beq _ _).2 rfl
  case h_3 =>
    simp only [Option.some.injEq, beq_iff_eq] at h
    subst h
    simp [Instr.sameBits]
  case h_4 => cases h

theorem run_stays {d : TypeDesc} {k v : Value} {es : Array MapEntry} {i : Nat} (h : Instr.findNow d k es.toList 0 = some (some (i, v))) : (Instr.keyThatStays (((es[i]?).map (·.key)).getD k) k).run P w = .ok k w := by
  obtain ⟨_, e, he, _, hs⟩ := findNow_spec _ _ _ _ h
  have he' : es[i]? = some e := by simpa using he
  unfold Instr.keyThatStays
  rw [he']
  simp only [Option.map_some, Option.getD_some]
  rw [if_pos (sameNow_bits hs 9999)]
  rfl

theorem mu_opu {t : TypeId} {m k v : Value} {K : World → Prop} (h : mu P t m k v w K) : opu P (Instr.mapUpdate t m k v) w K := by
  unfold mu at h
  split at h
  case h_2 => exact h
  case h_1 d e hm =>
    obtain ⟨kt, hu, hd, hp⟩ := mapTy_spec hm
    split at h
    case h_2 => exact h.elim
    case h_1 r =>
      split at h
      case h_2 => exact h.elim
      case h_1 es c hr =>
        unfold opu Instr.mapUpdate
        simp only [Sem.run_bind, run_underlying hu, Result.andThen_ok, run_getObj hr (by simp), run_checkKey hd hp]
        split at h
        case h_1 i v' hf =>
          simp only [run_findKey hd hf, Result.andThen_ok, Sem.run_bind, run_stays hf, run_setObj hr (by simp)]
          exact h
        case h_2 hf =>
          simp only [run_findKey hd hf, Result.andThen_ok, run_setObj hr (by simp)]
          exact h
        case h_3 => exact h.elim

theorem dl_opv {t kt ty : TypeId} {m k : Value} (h : dl P t m k w K) : opv P (Builtin.delete_ #[t, kt] ty #[m, k]) w K := by
  unfold dl at h
  split at h
  case h_2 => exact h.elim
  case h_1 d e hm =>
    obtain ⟨kt', hu, hd, hp⟩ := mapTy_spec hm
    unfold opv Builtin.delete_
    split at h
    case h_1 =>
      simp [run_underlying hu, run_checkKey hd hp, h]
    case h_2 r =>
      split at h
      case h_2 => exact h.elim
      case h_1 es c hr =>
        split at h
        case h_1 i v hf => simp [run_underlying hu, run_getObj hr (by simp), run_checkKey hd hp, run_findKey hd hf, run_setObj hr (by simp), h]
        case h_2 hf => simp [run_underlying hu, run_getObj hr (by simp), run_checkKey hd hp, run_findKey hd hf, run_setObj hr (by simp), h]
        case h_3 => exact h.elim
    case h_3 => exact h.elim

theorem me_opv {t : TypeId} {m k : Value} (h : me P t m k w K) : opv P (Instr.mapEntry t m k) w K := by
  unfold me at h
  split at h
  case h_2 => exact h
  case h_1 d e hm =>
    obtain ⟨kt, hu, hd, hp⟩ := mapTy_spec hm
    split at h
    case h_2 => exact h.elim
    case h_1 r =>
      split at h
      case h_2 => exact h.elim
      case h_1 es c hr =>
        unfold opv Instr.mapEntry
        simp only [Sem.run_bind, run_underlying hu, Result.andThen_ok, run_getObj hr (by simp), run_checkKey hd hp]
        split at h
        case h_1 i v' hf =>
          simp only [run_findKey hd hf, Result.andThen_ok, Sem.run_bind, run_stays hf, run_setObj hr (by simp)]
          exact h
        case h_2 hf =>
          split at h
          case h_2 => exact h.elim
          case h_1 z hz =>
            simp only [run_findKey hd hf, Result.andThen_ok, Sem.run_bind, run_zeroValue hz, run_setObj hr (by simp)]
            exact h
        case h_3 => exact h.elim

theorem rg_opv {t : TypeId} {x : Value} (h : rg P t x w K) : opv P (Instr.range t x) w K := by
  unfold rg at h
  unfold opv Instr.range
  split at h
  case h_1 s hu =>
    simp only [Sem.run_bind, run_underlying hu, Result.andThen_ok]
    exact h
  case h_2 k e hu =>
    simp only [Sem.run_bind, run_underlying hu, Result.andThen_ok]
    exact h
  case h_3 k e m hu =>
    split at h
    case h_2 => exact h.elim
    case h_1 es c hr =>
      simp only [Sem.run_bind, run_underlying hu, Result.andThen_ok, run_getObj hr (by simp)]
      exact h
  case h_4 => exact h.elim

theorem run_choose (q : Question) : ∃ (n : Nat) (w' : World), (choose q).run P w = .ok n w' ∧ (w' = w ∨ w' = w.drew) ∧ ((∃ m, q = .mapNext m ∧ 0 < m) → ∀ m, q = .mapNext m → n < m) := by
  unfold choose
  simp only [Sem.run]
  split
  · refine ⟨0, w, rfl, .inl rfl, ?_⟩
    rintro ⟨m, rfl, hm⟩ m' h
    cases h; exact hm
  · refine ⟨_, w.drew, rfl, .inr rfl, ?_⟩
    rintro ⟨m, rfl, hm⟩ m' h
    cases h
    exact Nat.mod_lt _ hm

theorem nx_opv {it : Value} {ty : TypeId} (h : nx it w K) : opv P (Instr.next it false ty) w K := by
  unfold nx at h
  unfold opv Instr.next
  split at h
  case h_2 => exact h.elim
  case h_1 r sp =>
    split at h
    case h_3 => exact h.elim
    case h_1 since seen last hr =>
      simp only [Sem.run_bind, run_getObj hr (by simp), Result.andThen_ok]
      exact h
    case h_2 m since seen last hr =>
      split at h
      case h_2 => exact h.elim
      case h_1 es c hm =>
        obtain ⟨hb, hend, hnext⟩ := h
        simp only [Sem.run_bind, run_getObj hr (by simp), Result.andThen_ok, run_getObj hm (by simp)]
        have hcond : (!seen.isEmpty && !es.isEmpty && es.all (·.born ≥ last)) = false := by
          by_cases he : es.isEmpty
          · simp [he]
          · have hlt : 0 < es.size := by
              rcases Nat.eq_zero_or_pos es.size with h0 | h0
              · exact absurd (by simp [Array.isEmpty, h0]) he
              · exact h0
            have hall : es.all (·.born ≥ last) = false := by
              rw [← Bool.not_eq_true, Array.all_eq_true]
              intro hx
              have h1 := hx 0 hlt
              have h2 := (hb es[0] (Array.getElem_mem hlt)).2
              simp at h1
              omega
            rw [hall]; simp
        rw [hcond]
        simp only [Bool.false_eq_true, if_false]
        have hold : ((es.filter fun e => !seen.contains e.born).filter (·.born < since)) = es.filter fun e => !seen.contains e.born := by
          rw [Array.filter_eq_self]
          intro e he
          simpa using (hb e (Array.mem_filter.1 he).1).1
        have hnew : ((es.filter fun e => !seen.contains e.born).filter (·.born ≥ since)) = #[] := by
          rw [Array.filter_eq_empty_iff]
          intro e he
          have := (hb e (Array.mem_filter.1 he).1).1
          simp; omega
        rw [hold, hnew, Array.append_empty]
        have hl : (es.filter fun e => !seen.contains e.born).toList = leftOf es seen := by simp [leftOf]
        generalize hF : (es.filter fun e => !seen.contains e.born) = F at *
        have hmem : ∀ e ∈ F, e ∈ leftOf es seen := fun e he => by rw [← hl]; simpa using he
        by_cases hz : F.isEmpty
        · have hF0 : F = #[] := by simpa using hz
          have hl0 : leftOf es seen = [] := by rw [← hl, hF0]
          simp only [hz, if_true]
          obtain ⟨n, w', hc, hw', hn⟩ := run_choose (P := P) (w := w) (.mapNext (#[(none : Option MapEntry)] ++ F.map some).size)
          simp only [Sem.run_bind, hc, Result.andThen_ok]
          have hn' := hn ⟨_, rfl, by simp; omega⟩ _ rfl
          rw [hF0] at hn' ⊢
          simp at hn'
          subst hn'
          simp only [Array.map_empty, Array.append_empty]
          exact hend hl0 w' hw'
        · simp only [hz, Bool.false_eq_true, if_false, Array.empty_append]
          obtain ⟨n, w', hc, hw', hn⟩ := run_choose (P := P) (w := w) (.mapNext (F.map some).size)
          simp only [Sem.run_bind, hc, Result.andThen_ok]
          have hpos : 0 < F.size := by
            rcases Nat.eq_zero_or_pos F.size with h0 | h0
            · exact absurd (by simp [Array.isEmpty, h0]) hz
            · exact h0
          have hn' : n < F.size := by
            have := hn ⟨_, rfl, by simpa using hpos⟩ _ rfl
            simpa using this
          rw [Array.getElem?_map, Array.getElem?_eq_getElem hn']
          simp only [Option.map_some]
          have hr' : w'.heap[r]? = some (.mapIter (some m) since seen last) := by rcases hw' with rfl | rfl <;> exact hr
          simp only [Sem.run_bind, run_setObj hr' (by simp), Result.andThen_ok]
          exact hnext F[n] (hmem _ (Array.getElem_mem hn')) w' hw'

theorem en_opv {it : Value} (h : en it w K) : opv P (Instr.entry it) w K := by
  unfold en at h
  unfold opv Instr.entry
  split at h
  case h_2 => exact h.elim
  case h_1 r sp =>
    split at h
    case h_2 => exact h.elim
    case h_1 m since seen stepped hr =>
      split at h
      case h_2 => exact h.elim
      case h_1 stamp hs =>
        split at h
        case h_2 => exact h.elim
        case h_1 es c hm =>
          obtain ⟨rfl, h⟩ := h
          simp only [Sem.run_bind, run_getObj hr (by simp), Result.andThen_ok, hs, run_getObj hm (by simp)]
          cases hf : es.find? (·.born == stamp) with
          | none => rw [hf] at h; exact h.elim
          | some e => rw [hf] at h; simpa using h
end
end Go.Sh
