/- What single operations come to, part two: append, copy, make. -/
import Derived.Test.YtppefblkmgihoaaDoorOp
namespace Go.Sh
open Go

/-! ### append, copy, make -/
section
variable (P : Program)
def byO (t : TypeId) : Option Nat := (P.info? t).map (·.bytes)
/-- May a value of this type be appended? -/
def srcTy (t : TypeId) : Bool := match P.underlying t with | some (.int _) => false | some _ => true | none => false

/-- The first cells of a slice. -/
def rds (w : World) (A : Option Addr) (k : Nat) : Option (Array Value) :=
  if k = 0 then some #[] else
  match A with
  | some ⟨b, o, none⟩ => rdn w.heap[b]? o k
  | _ => none
/-- What is appended or copied: how many elements, and their cells ('sz' an element). -/
def src (w : World) (sz : Nat) (x : Value) : Option (Nat × Array Value) :=
  match x with
  | .slice A m _ => match rds w A (m * sz) with | some cs => some (m, cs) | none => none
  | .string s => some (s.size, s.data.map fun b => .int .u8 b.toNat)
  | _ => none

/-- append(s, x..). -/
def ap (t tx : TypeId) (s x : Value) (w : World) (K : Value → World → Prop) : Prop :=
  match P.underlying t, s with
  | some (.slice e), .slice A n c =>
    match szO P e, zeroO P e, byO P e with
    | some sz, some z, some by_ =>
      match srcTy P tx, src w sz x with
      | false, _ => False
      | true, none => False
      | true, some (m, news) =>
        (∀ u ∈ news, u.oneCell' = true) ∧
        if n + m ≤ c then
          match A with
          | none => K (.slice none (n + m) c) w
          | some ⟨b, o, none⟩ =>
            if news.size = 0 then K (.slice A (n + m) c) w else
            match w.heap[b]? with
            | some (.cells cs e' f) => o + n * sz + news.size ≤ cs.size ∧ frz f (o + n * sz) news.size = false ∧ K (.slice A (n + m) c) (w.put b (.cells (splice cs (o + n * sz) news) e' f))
            | _ => False
          | _ => if news.size = 0 then K (.slice A (n + m) c) w else False
        else
          n + m ≤ 9223372036854775807 ∧ Builtin.nextslicecap (n + m) c * by_ ≤ 281474976710656 ∧
          match rds w A (n * sz) with
          | none => False
          | some olds => ∀ cap, n + m ≤ cap → cap ≤ 9223372036854775807 →
            K (.slice (some ⟨w.heap.size, 0, none⟩) (n + m) cap) (w.drew.alloc (.cells (olds ++ news ++ Builtin.zeroCells z.cells (cap - (n + m))) e))
    | _, _, _ => False
  | _, _ => False

/-- copy(d, x). -/
def cp (t : TypeId) (d x : Value) (w : World) (K : Value → World → Prop) : Prop :=
  match P.underlying t, d with
  | some (.slice e), .slice A n _ =>
    match szO P e with
    | some sz =>
      match (match x with | .slice B m _ => (match rds w B (Nat.min m n * sz) with | some cs => some (Nat.min m n, cs) | none => none) | .string s => some (Nat.min s.size n, (s.extract 0 (Nat.min s.size n)).data.map fun (b : UInt8) => Value.int .u8 b.toNat) | _ => (none : Option (Nat × Array Value))) with
      | none => False
      | some (k, news) =>
        (∀ u ∈ news, u.oneCell' = true) ∧
        if news.size = 0 then K (.int .i64 k) w else
        match A with
        | some ⟨b, o, none⟩ =>
          match w.heap[b]? with
          | some (.cells cs e' f) => o + news.size ≤ cs.size ∧ frz f o news.size = false ∧ K (.int .i64 k) (w.put b (.cells (splice cs o news) e' f))
          | _ => False
        | _ => False
    | none => False
  | _, _ => False

def mk (t : TypeId) (l c : Value) (w : World) (K : Value → World → Prop) : Prop :=
  match P.underlying t, l, c with
  | some (.slice e), .int _ n, .int _ m =>
    match szO P e, zeroO P e, byO P e with
    | some sz, some z, some by_ =>
      match decide (z.cells.size = sz) with
      | false => False
      | true => 0 ≤ n ∧ n ≤ m ∧ m ≤ 9223372036854775807 ∧ by_ * m ≤ 281474976710656 ∧
        K (.slice (some ⟨w.heap.size, 0, none⟩) n.toNat m.toNat) (w.alloc (.cells (zeros z.cells m.toNat).toArray e))
    | _, _, _ => False
  | _, _, _ => False

def mn (x y : Value) (w : World) (K : Value → World → Prop) : Prop :=
  match x, y with
  | .int k a, .int _ b => K (.int k (if b < a then b else a)) w
  | _, _ => False
def mx (x y : Value) (w : World) (K : Value → World → Prop) : Prop :=
  match x, y with
  | .int k a, .int _ b => K (.int k (if b > a then b else a)) w
  | _, _ => False
end

section
variable {P : Program} {w : World} {K : Value → World → Prop}

theorem mn_opv {ts : Array TypeId} {t : TypeId} {x y : Value} (h : mn x y w K) : opv P (Builtin.min_ ts t #[x, y]) w K := by
  unfold mn at h
  split at h
  case h_2 => exact h.elim
  case h_1 => simpa [opv, Builtin.min_, Builtin.min2] using h
theorem mx_opv {ts : Array TypeId} {t : TypeId} {x y : Value} (h : mx x y w K) : opv P (Builtin.max_ ts t #[x, y]) w K := by
  unfold mx at h
  split at h
  case h_2 => exact h.elim
  case h_1 => simpa [opv, Builtin.max_, Builtin.max2] using h

theorem run_rdn {b o n : Nat} {cs : Array Value} (h : rdn w.heap[b]? o n = some cs) : (loadCells ⟨b, o, none⟩ n).run P w = .ok cs w := by
  unfold rdn at h
  split at h
  case h_2 => cases h
  case h_1 cs' e f hb =>
    split at h
    case isFalse => cases h
    case isTrue hle =>
      simp only [Option.some.injEq] at h
      have hl := run_loadFrom (P := P) (w := w) (a := ⟨b, o, none⟩) n 0 #[] (fun j => cs'[o + j]?.getD undef) (fun j hj => by
        rw [add_mk, cell_rdc, hb, Nat.zero_add]
        simp only [rdc]
        rw [Array.getElem?_eq_getElem (by omega)]
        rfl)
      unfold loadCells
      rw [hl]
      congr 1
      rw [← h]
      apply Array.ext'
      apply List.ext_getElem?
      intro j
      simp only [Array.empty_append, List.getElem?_map, Array.toList_extract, List.extract_eq_take_drop]
      rw [List.getElem?_take, Nat.add_sub_cancel_left]
      by_cases hj : j < n
      · rw [if_pos hj, List.getElem?_drop, List.getElem?_range hj, Option.map_some, Array.getElem?_eq_getElem (by omega)]
        simp [Array.getElem?_toList, Array.getElem?_eq_getElem (show o + j < cs'.size by omega)]
      · rw [if_neg hj, List.getElem?_eq_none (by simpa using hj)]; rfl

theorem run_rds {A : Option Addr} {sz k m c : Nat} {cs : Array Value} (h : rds w A (k * sz) = some cs) : (Builtin.firstCells sz k (.slice A m c)).run P w = .ok cs w := by
  unfold rds at h
  unfold Builtin.firstCells
  by_cases h0 : k * sz = 0
  · rw [if_pos h0] at h
    simp only [Option.some.injEq] at h
    subst h
    cases A with
    | none => rfl
    | some a => simp only [h0]; rfl
  · rw [if_neg h0] at h
    split at h
    case h_2 => cases h
    case h_1 b o => exact run_rdn h

theorem rds_size {A : Option Addr} {k : Nat} {cs : Array Value} (h : rds w A k = some cs) : cs.size = k := by
  unfold rds at h
  split at h
  · rename_i h0; simp only [Option.some.injEq] at h; subst h; simp [h0]
  · split at h
    case h_2 => cases h
    case h_1 b o =>
      unfold rdn at h
      split at h
      case h_2 => cases h
      case h_1 cs' e f hb =>
        split at h
        case isFalse => cases h
        case isTrue hle =>
          simp only [Option.some.injEq] at h
          subst h
          simp
          omega

theorem run_src {sz m : Nat} {x : Value} {news : Array Value} (h : src w sz x = some (m, news)) : (Builtin.lenOf x).run P w = .ok m w ∧ (Builtin.firstCells sz m x).run P w = .ok news w := by
  unfold src at h
  split at h
  case h_1 A m' c =>
    split at h
    case h_2 => cases h
    case h_1 cs hc =>
      simp only [Option.some.injEq, Prod.mk.injEq] at h
      obtain ⟨rfl, rfl⟩ := h
      exact ⟨rfl, run_rds hc⟩
  case h_2 s =>
    simp only [Option.some.injEq, Prod.mk.injEq] at h
    obtain ⟨rfl, rfl⟩ := h
    refine ⟨rfl, ?_⟩
    unfold Builtin.firstCells
    simp
  case h_3 => cases h

theorem run_info {t : TypeId} {n : Nat} (h : byO P t = some n) : ∃ i, (typeInfo t).run P w = .ok i w ∧ i.bytes = n := by
  unfold byO at h
  cases hu : P.info? t with
  | none => rw [hu] at h; cases h
  | some i =>
    rw [hu] at h
    simp only [Option.map_some, Option.some.injEq] at h
    exact ⟨i, by simp [typeInfo, hu], h⟩

theorem run_askRoom (n : Nat) : (askRoom n).run P w = .ok () w := by
  unfold askRoom
  split <;> rfl

theorem run_appendCap (need c : Nat) (e : TypeId) (hneed : need ≤ 9223372036854775807) : ∃ cap, (choose (.appendCap need c e)).run P w = .ok cap w.drew ∧ need ≤ cap ∧ cap ≤ 9223372036854775807 := by
  refine ⟨_, rfl, ?_, ?_⟩
  · exact Nat.le_add_right _ _
  · show need + w.tape w.drawn _ % (2 ^ 63 - need) ≤ _
    have : w.tape w.drawn (.appendCap need c e) % (2 ^ 63 - need) < 2 ^ 63 - need := Nat.mod_lt _ (by omega)
    omega

theorem ap_opv {t tx ty : TypeId} {s x : Value} (h : ap P t tx s x w K) : opv P (Builtin.append_ #[t, tx] ty #[s, x]) w K := by
  unfold ap at h
  split at h
  case h_2 => exact h.elim
  case h_1 e A n c hu =>
    split at h
    case h_2 => exact h.elim
    case h_1 sz z by_ hs hz hby =>
      split at h
      case h_1 => exact h.elim
      case h_2 => exact h.elim
      case h_3 m news hty hsrc =>
        obtain ⟨h1, h⟩ := h
        obtain ⟨hlen, hfirst⟩ := run_src (P := P) hsrc
        unfold opv Builtin.append_
        cases hx : P.underlying tx with
        | none => simp [srcTy, hx] at hty
        | some dx =>
          cases dx
          case int k => simp [srcTy, hx] at hty
          all_goals
            simp only [Sem.run_bind, run_underlying hu, Result.andThen_ok, run_sizeOf hs, List.getElem?_toArray, List.getElem?_cons_succ, List.getElem?_cons_zero, run_underlying hx, Sem.run_pure, Bool.false_eq_true, if_false, hlen, Bool.not_false, if_true]
            by_cases hfit : n + m ≤ c
            · rw [if_pos hfit] at h
              rw [if_pos hfit]
              simp only [Sem.run_bind, hfirst, Result.andThen_ok]
              cases A with
              | none => exact h
              | some a =>
                obtain ⟨b, o, sp⟩ := a
                cases sp with
                | some sp =>
                  simp only at h ⊢
                  by_cases h0 : news.size = 0
                  · rw [if_pos h0] at h
                    have : news = #[] := Array.eq_empty_of_size_eq_zero h0
                    subst this
                    simp only [Sem.run_bind, storeCells, Sem.run_pure, Result.andThen_ok]
                    exact h
                  · rw [if_neg h0] at h; exact h.elim
                | none =>
                  simp only at h ⊢
                  by_cases h0 : news.size = 0
                  · rw [if_pos h0] at h
                    have : news = #[] := Array.eq_empty_of_size_eq_zero h0
                    subst this
                    simp only [Sem.run_bind, storeCells, Sem.run_pure, Result.andThen_ok]
                    exact h
                  · rw [if_neg h0] at h
                    split at h
                    case h_2 => exact h.elim
                    case h_1 cs e' f hb =>
                      obtain ⟨hle, hf, h⟩ := h
                      have := run_storeN (P := P) news.toList 0 w (o + n * sz) cs hb (by simpa using h1) (by simpa using hle) (by simpa using hf)
                      simp only [Nat.add_zero, Array.toArray_toList] at this
                      simp only [Sem.run_bind, add_mk, this, Result.andThen_ok]
                      exact h
            · rw [if_neg hfit] at h
              rw [if_neg hfit]
              obtain ⟨hmax, hcap, h⟩ := h
              split at h
              case h_1 => exact h.elim
              case h_2 olds holds =>
                obtain ⟨i, hi, hib⟩ := run_info (P := P) (w := w) hby
                obtain ⟨i', hi', hib'⟩ := run_info (P := P) (w := w.drew) hby
                obtain ⟨cap, hch, hc1, hc2⟩ := run_appendCap (P := P) (w := w) (n + m) c e hmax
                simp only [Sem.run_bind, hi, Result.andThen_ok]
                rw [if_neg (by
                  rintro ⟨hgt, _⟩
                  have hmx : IntKind.i64.max = 9223372036854775807 := by decide
                  omega)]
                simp only [Sem.run_bind, hi, Result.andThen_ok, hib]
                rw [if_neg (by omega)]
                have hfirst' : (Builtin.firstCells sz m x).run P w.drew = .ok news w.drew := (run_src (P := P) (w := w.drew) hsrc).2
                have holds' : (Builtin.firstCells sz n (.slice A n c)).run P w.drew = .ok olds w.drew := run_rds (w := w.drew) holds
                simp only [Sem.run_bind, hch, Result.andThen_ok, hi', run_askRoom, holds', hfirst', run_zeroValue hz, newRow, newObj, Sem.run, Sem.run_pure]
                exact h cap hc1 hc2

theorem cp_opv {t tx ty : TypeId} {d x : Value} (h : cp P t d x w K) : opv P (Builtin.copy_ #[t, tx] ty #[d, x]) w K := by
  unfold cp at h
  split at h
  case h_2 => exact h.elim
  case h_1 e A n c hu =>
    split at h
    case h_2 => exact h.elim
    case h_1 sz hs =>
      split at h
      case h_1 => exact h.elim
      case h_2 k news hsrc =>
        obtain ⟨h1, h⟩ := h
        have hrun : ∃ m, (Builtin.lenOf x).run P w = .ok m w ∧ Nat.min m n = k ∧ (Builtin.firstCells sz k x).run P w = .ok news w := by
          split at hsrc
          case h_1 B m c' =>
            split at hsrc
            case h_2 => cases hsrc
            case h_1 cs hc =>
              simp only [Option.some.injEq, Prod.mk.injEq] at hsrc
              obtain ⟨rfl, rfl⟩ := hsrc
              exact ⟨m, rfl, rfl, run_rds hc⟩
          case h_2 s =>
            simp only [Option.some.injEq, Prod.mk.injEq] at hsrc
            obtain ⟨rfl, rfl⟩ := hsrc
            exact ⟨s.size, rfl, rfl, rfl⟩
          case h_3 => cases hsrc
        obtain ⟨m, hl, rfl, hf⟩ := hrun
        unfold opv Builtin.copy_
        simp only [Sem.run_bind, run_underlying hu, Result.andThen_ok, run_sizeOf hs, List.getElem?_toArray, List.getElem?_cons_succ, List.getElem?_cons_zero, hl, hf]
        by_cases h0 : news.size = 0
        · rw [if_pos h0] at h
          have : news = #[] := Array.eq_empty_of_size_eq_zero h0
          subst this
          cases A with
          | none => exact h
          | some a => simp only [Sem.run_bind, storeCells, Sem.run_pure, Result.andThen_ok]; exact h
        · rw [if_neg h0] at h
          split at h
          case h_2 => exact h.elim
          case h_1 b o =>
            split at h
            case h_2 => exact h.elim
            case h_1 cs e' f hb =>
              obtain ⟨hle, hfz, h⟩ := h
              have := run_storeN (P := P) news.toList 0 w o cs hb (by simpa using h1) (by simpa using hle) (by simpa using hfz)
              simp only [Nat.add_zero, Array.toArray_toList] at this
              simp only [Sem.run_bind, this, Result.andThen_ok]
              exact h

theorem mk_opv {t : TypeId} {l c : Value} (h : mk P t l c w K) : opv P (Instr.makeSlice t l c) w K := by
  unfold mk at h
  split at h
  case h_2 => exact h.elim
  case h_1 e kl n kc m hu =>
    split at h
    case h_2 => exact h.elim
    case h_1 sz z by_ hs hz hby =>
      split at h
      case h_1 => exact h.elim
      rename_i h4
      replace h4 := of_decide_eq_true h4
      obtain ⟨h0, h1, h2, h3, h⟩ := h
      obtain ⟨i, hi, hib⟩ := run_info (P := P) (w := w) hby
      have wn : IntKind.i64.wrap n = n := by
        unfold IntKind.wrap
        simp only [IntKind.bits, IntKind.signed]
        simp
        omega
      have wm : IntKind.i64.wrap m = m := by
        unfold IntKind.wrap
        simp only [IntKind.bits, IntKind.signed]
        simp
        omega
      unfold opv Instr.makeSlice
      simp only [Sem.run_bind, run_underlying hu, Result.andThen_ok, asInt, asIntOf, Sem.run_pure, hi, hib, wn, wm]
      rw [if_neg (by simp; omega)]
      simp only [Sem.run_bind, run_askRoom, Result.andThen_ok, run_sizeOf hs]
      by_cases hz0 : m.toNat * sz = 0
      · rw [if_pos hz0]
        have : (Array.range (m.toNat * sz)).map (fun x => (#[] : Array Value)[x % (#[] : Array Value).size]!) = (zeros z.cells m.toNat).toArray := by
          have h5 : zeros z.cells m.toNat = [] := List.eq_nil_of_length_eq_zero (by rw [zeros_length, h4]; exact hz0)
          rw [h5, hz0]
          simp
        simp only [Sem.run_bind, Sem.run_pure, Result.andThen_ok, this]
        exact h
      · rw [if_neg hz0]
        have : (Array.range (m.toNat * sz)).map (fun x => z.cells[x % z.cells.size]!) = (zeros z.cells m.toNat).toArray := by
          rw [← h4]; exact zeros_range z.cells m.toNat
        simp only [Sem.run_bind, run_zeroValue hz, Sem.run_pure, Result.andThen_ok, this]
        exact h
end
end Go.Sh
