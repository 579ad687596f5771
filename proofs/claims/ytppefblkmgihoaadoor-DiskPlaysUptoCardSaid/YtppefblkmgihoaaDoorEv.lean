/- How the formulas of single operations are reckoned at known values. -/
import Derived.Test.YtppefblkmgihoaaDoorSh
import Derived.IntWalk
namespace Go.Sh
open Go

section
variable {P : Program} {w : World} {K : Value → World → Prop}

/-! ### What is left of an operation when its types are known -/
def ldc (o : Option Value) (K : Value → Prop) : Prop := match o with | some u => K u | none => False
def ldn (o : Option (Array Value)) (K : Value → Prop) : Prop := match o with | some cs => K (.agg cs) | none => False
def st1 (w : World) (b i : Nat) (x : Value) (K : World → Prop) : Prop :=
  match w.heap[b]? with
  | some (.cells cs e f) => x.oneCell' = true ∧ i < cs.size ∧ frz f i 1 = false ∧ K (w.put b (.cells (cs.setIfInBounds i x) e f))
  | _ => False
def stN (w : World) (b i n : Nat) (x : Value) (K : World → Prop) : Prop :=
  match w.heap[b]? with
  | some (.cells cs e f) =>
    match x with
    | .agg xs => xs.size = n ∧ (∀ u ∈ xs, u.oneCell' = true) ∧ i + xs.size ≤ cs.size ∧ frz f i xs.size = false ∧ K (w.put b (.cells (splice cs i xs) e f))
    | _ => False
  | _ => False
def lkc (d : TypeDesc) (z : Value) (eso : Option (Array MapEntry)) (k : Value) (ok : Bool) (K : Value → Prop) : Prop :=
  match eso with
  | some es => match lkRes ok (Instr.findNow d k es.toList 0) (some z) with | some v => K v | none => False
  | none => False
def muc (d : TypeDesc) (w : World) (r : Nat) (k v : Value) (K : World → Prop) : Prop :=
  match w.heap[r]? with
  | some (.map es c) =>
    match Instr.findNow d k es.toList 0 with
    | some (some (i, _)) => K (w.put r (.map (es.modify i fun e => { e with key := k, val := v }) c))
    | some none => K (w.put r (.map (es.push { key := k, val := v, born := c }) (c + 1)))
    | none => False
  | _ => False
def dlc (d : TypeDesc) (w : World) (r : Nat) (k : Value) (K : World → Prop) : Prop :=
  match w.heap[r]? with
  | some (.map es c) =>
    match Instr.findNow d k es.toList 0 with
    | some (some (i, _)) => K (w.put r (.map (es.eraseIdxIfInBounds i) c))
    | some none => K (w.put r (.map es c))
    | none => False
  | _ => False
def lnm (o : Option Obj) (K : Value → Prop) : Prop := match o with | some (.map es _) => K (.int .i64 es.size) | _ => False
def rgc (o : Option Obj) (K : Nat → Prop) : Prop := match o with | some (.map _ c) => K c | _ => False
def ixs (o : Option UInt8) (K : Value → Prop) : Prop := match o with | some b => K (.int .u8 b.toNat) | none => False
def slc (r : Option (Nat × Nat × Nat)) (K : Nat → Nat → Nat → Prop) : Prop := match r with | some (l, h, m) => K l h m | none => False
def apc (e sz by_ : Nat) (z : Array Value) (A : Option Addr) (n c : Nat) (so : Option (Nat × Array Value)) (w : World) (K : Value → World → Prop) : Prop :=
  match so with
  | none => False
  | some (m, news) =>
    (∀ u ∈ news, u.oneCell' = true) ∧
    if n + m ≤ c then
      match A with
      | none => K (.slice none (n + m) c) w
      | some ⟨b, o, none⟩ =>
        if news.size = 0 then K (.slice A (n + m) c) w else
        match w.heap[b]? with
        | some (.cells cs e' f) => o + n * sz + news.size ≤ cs.size ∧ frz f (o + n * sz) news.size = false ∧ K (.slice A (n + m) c) (w.put b (.cells (splice cs (o + n * sz) news) e' f))
        | _ => False
      | _ => if news.size = 0 then K (.slice A (n + m) c) w else False
    else
      n + m ≤ 9223372036854775807 ∧ Builtin.nextslicecap (n + m) c * by_ ≤ 281474976710656 ∧
      match rds w A (n * sz) with
      | none => False
      | some olds => ∀ cap, n + m ≤ cap → cap ≤ 9223372036854775807 →
        K (.slice (some ⟨w.heap.size, 0, none⟩) (n + m) cap) (w.drew.alloc (.cells (olds ++ news ++ Builtin.zeroCells z (cap - (n + m))) e))
def cpc (sz : Nat) (A : Option Addr) (n : Nat) (x : Value) (w : World) (K : Value → World → Prop) : Prop :=
  match (match x with | .slice B m _ => (match rds w B (Nat.min m n * sz) with | some cs => some (Nat.min m n, cs) | none => none) | .string s => some (Nat.min s.size n, (s.extract 0 (Nat.min s.size n)).data.map fun (b : UInt8) => Value.int .u8 b.toNat) | _ => (none : Option (Nat × Array Value))) with
  | none => False
  | some (k, news) =>
    (∀ u ∈ news, u.oneCell' = true) ∧
    if news.size = 0 then K (.int .i64 k) w else
    match A with
    | some ⟨b, o, none⟩ =>
      match w.heap[b]? with
      | some (.cells cs e' f) => o + news.size ≤ cs.size ∧ frz f o news.size = false ∧ K (.int .i64 k) (w.put b (.cells (splice cs o news) e' f))
      | _ => False
    | _ => False
def bsc (n sz : Nat) (z : Array Value) (parts : Array (Nat × Value)) (K : Array Value → Prop) : Prop :=
  match fillA sz parts.toList (zeros z n).toArray with | some cs => K cs | none => False

/-- A struct's parts, where the fields' places are known. -/
def fillB : List (Nat × Nat × Value) → Array Value → Option (Array Value)
  | [], cs => some cs
  | (o, n, v) :: r, cs => if some n = some v.cells.size ∧ o + v.cells.size ≤ cs.size then fillB r (splice cs o v.cells) else none
def bdc (z : Array Value) (parts : List (Nat × Nat × Value)) (K : Value → Prop) : Prop := match fillB parts z with | some cs => K (.agg cs) | none => False
theorem fillB_nil (cs : Array Value) : fillB [] cs = some cs := rfl
theorem splice_one (cs : Array Value) (o : Nat) (v : Value) (h : o + 1 ≤ cs.size) : splice cs o #[v] = cs.setIfInBounds o v := by
  apply Array.ext'
  have hl : o < cs.toList.length := by rw [Array.length_toList]; omega
  simp only [splice, Array.toList_setIfInBounds]
  rw [List.set_eq_take_append_cons_drop, if_pos hl]
  simp
theorem fillB_one {o : Nat} {v : Value} {r : List (Nat × Nat × Value)} {cs : Array Value} (h : v.cells = #[v]) (hs : o + 1 ≤ cs.size) : fillB ((o, 1, v) :: r) cs = fillB r (cs.setIfInBounds o v) := by
  simp only [fillB, h]
  rw [if_pos ⟨rfl, hs⟩, splice_one _ _ _ hs]
def bdOk (P : Program) (t : TypeId) (ks : List (Nat × Nat × Nat)) : Bool :=
  match P.underlying t with
  | some (.struct fs) => fs.toList.all (fun f => (szO P f.type).isSome) && ks.all fun q => match fs[q.1]? with | some f => Nat.beq f.offset q.2.1 && (match szO P f.type with | some n => Nat.beq n q.2.2 | none => false) | none => false
  | _ => false
theorem fillS_fillB {P : Program} {fs : Array Field} : ∀ (l : List ((Nat × Nat × Nat) × Value)) (cs : Array Value), ((l.map (·.1)).all fun q => match fs[q.1]? with | some f => Nat.beq f.offset q.2.1 && (match szO P f.type with | some n => Nat.beq n q.2.2 | none => false) | none => false) = true →
    fillS P fs (l.map fun q => (q.1.1, q.2)) cs = fillB (l.map fun q => (q.1.2.1, q.1.2.2, q.2)) cs := by
  intro l
  induction l with
  | nil => intro cs _; rfl
  | cons q r ih =>
    intro cs h
    obtain ⟨⟨k, o, n⟩, v⟩ := q
    simp only [List.map_cons, List.all_cons, Bool.and_eq_true] at h
    obtain ⟨h1, h2⟩ := h
    cases hf : fs[k]? with
    | none => simp only [hf] at h1; cases h1
    | some f =>
      simp only [hf, Bool.and_eq_true] at h1
      obtain ⟨ho, hs⟩ := h1
      cases hz : szO P f.type with
      | none => simp only [hz] at hs; cases hs
      | some m =>
        simp only [hz] at hs
        have e1 := Nat.eq_of_beq_eq_true ho
        have e2 := Nat.eq_of_beq_eq_true hs
        subst e1; subst e2
        simp only [List.map_cons, fillS, fillB, hf, hz]
        split
        · exact ih _ h2
        · rfl
theorem bd_bdc {P : Program} {t : TypeId} {z : Value} {w : World} {K : Value → World → Prop} (hz : zeroO P t = some z) (l : List ((Nat × Nat × Nat) × Value)) (h : bdOk P t (l.map (·.1)) = true) :
    bd P t (l.map fun q => (q.1.1, q.2)).toArray w K = bdc z.cells (l.map fun q => (q.1.2.1, q.1.2.2, q.2)) fun u => K u w := by
  unfold bdOk at h
  cases hu : P.underlying t with
  | none => simp only [hu] at h; cases h
  | some d =>
    cases d with
    | struct fs =>
      simp only [hu, Bool.and_eq_true] at h
      simp only [bd, hz, hu, h.1, bdc]
      rw [fillS_fillB l z.cells h.2]
      cases fillB (l.map fun q => (q.1.2.1, q.1.2.2, q.2)) z.cells <;> rfl
    | _ => simp only [hu] at h; cases h
theorem bdc_some {z : Array Value} {parts : List (Nat × Nat × Value)} {K : Value → Prop} {cs : Array Value} (h : fillB parts z = some cs) : bdc z parts K = K (.agg cs) := by simp only [bdc, h]

/-! ### Operations without types -/
theorem bx_eq (t : TypeId) (v : Value) : bx t v w K = K (.pointer (some ⟨w.heap.size, 0, none⟩)) (w.alloc (.cells v.cells t)) := rfl
theorem mm_eq : mm w K = K (.map (some w.heap.size)) (w.alloc (.map #[] 0)) := rfl
theorem nc_eq (a : Addr) (K : Value → Prop) : nc (.pointer (some a)) K = K (.pointer (some a)) := rfl
theorem cnd_eq (b : Bool) (A B : Prop) : cnd (.bool b) A B = bcond b A B := rfl
theorem bcond_true (A B : Prop) : bcond true A B = A := rfl
theorem bcond_false (A B : Prop) : bcond false A B = B := rfl
theorem bcond_iff (b : Bool) (A B : Prop) : bcond b A B ↔ (b = true → A) ∧ (b = false → B) := by cases b <;> simp [bcond]
theorem bcond_dec (p : Prop) [Decidable p] (A B : Prop) : bcond (decide p) A B ↔ (p → A) ∧ (¬p → B) := by by_cases h : p <;> simp [bcond, h]
theorem bcond_ndec (p : Prop) [Decidable p] (A B : Prop) : bcond (!decide p) A B ↔ (¬p → A) ∧ (p → B) := by by_cases h : p <;> simp [bcond, h]
theorem ixs_some (b : UInt8) (K : Value → Prop) : ixs (some b) K = K (.int .u8 b.toNat) := rfl
theorem pk_eq (t x y : Bool) (K : Value → Prop) : pk (.bool t) (.bool x) (.bool y) K = K (.bool (cond t x y)) := by cases t <;> rfl
theorem pk_int (t : Bool) (k : IntKind) (x y : Int) (K : Value → Prop) : pk (.bool t) (.int k x) (.int k y) K = K (.int k (cond t x y)) := by cases t <;> rfl
theorem ex_eq (vs : Array Value) (k : Nat) : ex (.tuple vs) k w K = ldc vs[k]? fun u => K u w := rfl
theorem ldc_some (u : Value) (K : Value → Prop) : ldc (some u) K = K u := rfl
theorem un_not (b : Bool) : un .not (.bool b) w K = K (.bool !b) w := rfl
theorem un_neg (k : IntKind) (n : Int) : un .neg (.int k n) w K = K (.int k (k.wrap (0 - n))) w := rfl
theorem mn_eq (k : IntKind) (a b : Int) (l : IntKind) : mn (.int k a) (.int l b) w K = K (.int k (if b < a then b else a)) w := rfl
theorem mx_eq (k : IntKind) (a b : Int) (l : IntKind) : mx (.int k a) (.int l b) w K = K (.int k (if b > a then b else a)) w := rfl

/-! ### Arithmetic and comparison -/
section
variable {t : TypeId} {x y : Operand} {k : IntKind} {a b : Int}
theorem bin_add : bin P .add t x y (.int k a) (.int k b) w K = K (.int k (k.wrap (a + b))) w := by simp [bin, opv, binOp, Op.intArith, eqGuard]
theorem bin_sub : bin P .sub t x y (.int k a) (.int k b) w K = K (.int k (k.wrap (a - b))) w := by simp [bin, opv, binOp, Op.intArith, eqGuard]
theorem bin_mul : bin P .mul t x y (.int k a) (.int k b) w K = K (.int k (k.wrap (a * b))) w := by simp [bin, opv, binOp, Op.intArith, eqGuard]
theorem bin_quo (h : b ≠ 0) : bin P .quo t x y (.int k a) (.int k b) w K = K (.int k (k.wrap (a.tdiv b))) w := by simp [bin, opv, binOp, Op.intDiv, eqGuard, h]
theorem bin_rem (h : b ≠ 0) : bin P .rem t x y (.int k a) (.int k b) w K = K (.int k (a.tmod b)) w := by simp [bin, opv, binOp, Op.intDiv, eqGuard, h]
theorem bin_lss : bin P .lss t x y (.int k a) (.int k b) w K = K (.bool (decide (a < b))) w := by simp [bin, opv, binOp, Op.intCmp, eqGuard]
theorem bin_leq : bin P .leq t x y (.int k a) (.int k b) w K = K (.bool (decide (a ≤ b))) w := by simp [bin, opv, binOp, Op.intCmp, eqGuard]
theorem bin_gtr : bin P .gtr t x y (.int k a) (.int k b) w K = K (.bool (decide (b < a))) w := by simp [bin, opv, binOp, Op.intCmp, eqGuard]
theorem bin_geq : bin P .geq t x y (.int k a) (.int k b) w K = K (.bool (decide (b ≤ a))) w := by simp [bin, opv, binOp, Op.intCmp, eqGuard]
theorem bin_eql : bin P .eql t x y (.int k a) (.int k b) w K = K (.bool (decide (a = b))) w := by simp [bin, opv, binOp, Op.intCmp, eqGuard]; rfl
theorem bin_neq : bin P .neq t x y (.int k a) (.int k b) w K = K (.bool (!decide (a = b))) w := by simp [bin, opv, binOp, Op.intCmp, eqGuard]; rfl
end
end

/-! ### Equality of what is no number; strings -/
/-- What kind of type it is, as far as it can be compared with nil. -/
def tyK (P : Program) (t : TypeId) : Nat :=
  match P.underlying t with
  | some .bool => 1
  | some (.pointer _) => 2
  | some (.slice _) => 3
  | some (.map _ _) => 4
  | some (.func _ _ _) => 5
  | some (.interface _) => 6
  | _ => 0
section
variable {P : Program} {w : World} {K : Value → World → Prop} {t : TypeId} {x y : Operand}
theorem tyK_ptr (h : tyK P t = 2) : ∃ e, P.underlying t = some (.pointer e) := by
  unfold tyK at h; cases hu : P.underlying t with
  | none => simp [hu] at h
  | some d => cases d <;> simp [hu] at h ⊢
theorem tyK_bool (h : tyK P t = 1) : P.underlying t = some .bool := by
  unfold tyK at h; cases hu : P.underlying t with
  | none => simp [hu] at h
  | some d => cases d <;> simp [hu] at h ⊢
theorem tyK_slice (h : tyK P t = 3) : ∃ e, P.underlying t = some (.slice e) := by
  unfold tyK at h; cases hu : P.underlying t with
  | none => simp [hu] at h
  | some d => cases d <;> simp [hu] at h ⊢
theorem tyK_func (h : tyK P t = 5) : ∃ a b c, P.underlying t = some (.func a b c) := by
  unfold tyK at h; cases hu : P.underlying t with
  | none => simp [hu] at h
  | some d => cases d <;> simp [hu] at h ⊢
theorem run_equal_ptr {e : TypeId} (d : Nat) (hu : P.underlying t = some (.pointer e)) (p : Option Addr) : (Op.equalIn (d + 1) t (.pointer p) (.pointer none)).run P w = .ok p.isNone w := by
  cases p <;> simp [Op.equalIn, run_underlying hu]
theorem run_equal_bool (d : Nat) (hu : P.underlying t = some .bool) (a b : Bool) : (Op.equalIn (d + 1) t (.bool a) (.bool b)).run P w = .ok (a == b) w := by
  simp [Op.equalIn, run_underlying hu]
theorem run_equal_slice {e : TypeId} (d : Nat) (hu : P.underlying t = some (.slice e)) (A : Option Addr) (n c m k : Nat) : (Op.equalIn (d + 1) t (.slice A n c) (.slice none m k)).run P w = .ok A.isNone w := by
  cases A <;> simp [Op.equalIn, run_underlying hu]
theorem bin_of_eq {a b : Value} {r : Bool} (hg : ∀ w, (eqGuard .eql t x y a b).run P w = .ok () w) (hb : binOp .eql t a b = do pure (.bool (← Op.equal t a b))) (h : (Op.equalIn (9999 + 1) t a b).run P w = .ok r w) : bin P .eql t x y a b w K = K (.bool r) w := by
  have h' : (Op.equal t a b).run P w = .ok r w := h
  unfold bin opv
  rw [hb]
  simp only [Sem.run_bind, hg, Result.andThen_ok, h', Sem.run_pure]
theorem bin_of_ne {a b : Value} {r : Bool} (hg : ∀ w, (eqGuard .neq t x y a b).run P w = .ok () w) (hb : binOp .neq t a b = do pure (.bool (!(← Op.equal t a b)))) (h : (Op.equalIn (9999 + 1) t a b).run P w = .ok r w) : bin P .neq t x y a b w K = K (.bool !r) w := by
  have h' : (Op.equal t a b).run P w = .ok r w := h
  unfold bin opv
  rw [hb]
  simp only [Sem.run_bind, hg, Result.andThen_ok, h', Sem.run_pure]
theorem bin_peq (h : tyK P t = 2) (p : Option Addr) : bin P .eql t x y (.pointer p) (.pointer none) w K = K (.bool p.isNone) w := by
  obtain ⟨e, hu⟩ := tyK_ptr h
  exact bin_of_eq (fun _ => rfl) rfl (run_equal_ptr _ hu p)
theorem bin_pne (h : tyK P t = 2) (p : Option Addr) : bin P .neq t x y (.pointer p) (.pointer none) w K = K (.bool !p.isNone) w := by
  obtain ⟨e, hu⟩ := tyK_ptr h
  exact bin_of_ne (fun _ => rfl) rfl (run_equal_ptr _ hu p)
theorem bin_beq (h : tyK P t = 1) (a b : Bool) : bin P .eql t x y (.bool a) (.bool b) w K = K (.bool (a == b)) w := bin_of_eq (fun _ => rfl) rfl (run_equal_bool _ (tyK_bool h) a b)
theorem bin_bne (h : tyK P t = 1) (a b : Bool) : bin P .neq t x y (.bool a) (.bool b) w K = K (.bool (!(a == b))) w := bin_of_ne (fun _ => rfl) rfl (run_equal_bool _ (tyK_bool h) a b)
theorem bin_leqn (h : tyK P t = 3) (A : Option Addr) (n c m d : Nat) : bin P .eql t x y (.slice A n c) (.slice none m d) w K = K (.bool A.isNone) w := by
  obtain ⟨e, hu⟩ := tyK_slice h
  exact bin_of_eq (fun _ => rfl) rfl (run_equal_slice _ hu A n c m d)
theorem bin_lnen (h : tyK P t = 3) (A : Option Addr) (n c m d : Nat) : bin P .neq t x y (.slice A n c) (.slice none m d) w K = K (.bool !A.isNone) w := by
  obtain ⟨e, hu⟩ := tyK_slice h
  exact bin_of_ne (fun _ => rfl) rfl (run_equal_slice _ hu A n c m d)

/-- The order of strings. -/
def slt (a b : ByteArray) : Bool := Op.bytesLess a.data.toList b.data.toList
theorem bytes_eqb (a b : ByteArray) : (a.toList == b.toList) = decide (a = b) := by
  rw [ByteArray.toList_eq, ByteArray.toList_eq]
  by_cases h : a = b
  · subst h; simp
  · have : ¬ a.data.toList = b.data.toList := fun e => h (by cases a; cases b; simp at e; simp [e])
    rw [decide_eq_false h]; exact beq_eq_false_iff_ne.2 this
theorem bin_seq (a b : ByteArray) : bin P .eql t x y (.string a) (.string b) w K = K (.bool (decide (a = b))) w := by
  simp [bin, opv, binOp, eqGuard, Op.stringOp, bytes_eqb]
theorem bin_sne (a b : ByteArray) : bin P .neq t x y (.string a) (.string b) w K = K (.bool (!decide (a = b))) w := by
  simp [bin, opv, binOp, eqGuard, Op.stringOp, bytes_eqb]
theorem bin_slt (a b : ByteArray) : bin P .lss t x y (.string a) (.string b) w K = K (.bool (slt a b)) w := by
  simp [bin, opv, binOp, eqGuard, Op.stringOp, slt, ByteArray.toList_eq]
theorem bin_sge (a b : ByteArray) : bin P .geq t x y (.string a) (.string b) w K = K (.bool (!slt a b)) w := by
  simp [bin, opv, binOp, eqGuard, Op.stringOp, slt, ByteArray.toList_eq]
theorem bin_sadd (a b : ByteArray) (h : a.size + b.size ≤ 9223372036854775807) : bin P .add t x y (.string a) (.string b) w K = K (.string (a ++ b)) w := by
  have : ¬ ((a.size + b.size : Nat) : Int) > IntKind.i64.max := by
    show ¬ (9223372036854775807 : Int) < _
    omega
  simp only [bin, opv, binOp, eqGuard, Op.stringOp, if_neg this]
  rfl
end

/-! ### Blocks of memory -/
theorem rdc_cells (cs : Array Value) (e : TypeId) (f : Nat × Nat) (i : Nat) : rdc (some (.cells cs e f)) i = cs[i]? := rfl
theorem mapEs_some (w : World) (r : Nat) : mapEs w (.map (some r)) = (match w.heap[r]? with | some (.map es _) => some es | _ => none) := rfl
theorem cells_ptr (a : Option Addr) : (Value.pointer a).cells = #[.pointer a] := rfl
theorem cells_str (s : ByteArray) : (Value.string s).cells = #[.string s] := rfl
theorem cells_int (k : IntKind) (n : Int) : (Value.int k n).cells = #[.int k n] := rfl
theorem cells_bool (b : Bool) : (Value.bool b).cells = #[.bool b] := rfl
theorem cells_slice (a : Option Addr) (n c : Nat) : (Value.slice a n c).cells = #[.slice a n c] := rfl
theorem cells_map (a : Option Nat) : (Value.map a).cells = #[.map a] := rfl
theorem cells_agg (cs : Array Value) : (Value.agg cs).cells = cs := rfl
theorem one_int (k : IntKind) (n : Int) : (Value.int k n).oneCell' = true := rfl
theorem one_bool (b : Bool) : (Value.bool b).oneCell' = true := rfl
theorem one_ptr (a : Option Addr) : (Value.pointer a).oneCell' = true := rfl
theorem one_str (s : ByteArray) : (Value.string s).oneCell' = true := rfl
theorem one_slice (a : Option Addr) (n c : Nat) : (Value.slice a n c).oneCell' = true := rfl
theorem one_map (a : Option Nat) : (Value.map a).oneCell' = true := rfl
theorem one_func (f : Fn) (a b : Array Value) : (Value.func f a b).oneCell' = true := rfl
theorem one_nil : Value.nilFunc.oneCell' = true := rfl
theorem one_niliface : Value.nilIface.oneCell' = true := rfl
theorem frz00 (i n : Nat) : frz (0, 0) i n = false := by simp [frz]
theorem frz_none (i n : Nat) : frz (0, 0) i n = false := by simp [frz]
end Go.Sh
