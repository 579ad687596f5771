/- The shallow reading of a Go function: 'vc' turns the code of a function, operation by operation, into a plain formula over values and worlds; 'calls_of_vc' says that the formula suffices for the call. Nothing of any one program stands here. -/
import Derived.Test.YtppefblkmgihoaaDoorOpB
namespace Go.Sh
open Go

abbrev Env := Nat → Value
/-- One slot written. -/
def upd (ρ : Env) (d : Nat) (v : Value) : Env := fun i => match Nat.beq i d with | true => v | false => ρ i
def updO (ρ : Env) : Option Tmp → Value → Env
  | some d, v => upd ρ d v
  | none, _ => ρ
def rd (a : Act) : Env := fun i => a.tmps.getD i undef
def ev (ρ : Env) : Operand → Value
  | .tmp t => ρ t
  | .const v => v
  | .global g => .pointer (some ⟨g, 0, none⟩)
  | .func f => .func (.func f) #[] #[]

theorem ev_rd (a : Act) : ev (rd a) = a.eval := by funext x; cases x <;> rfl
theorem upd_same (ρ : Env) (d : Nat) (v : Value) : upd ρ d v d = v := by simp [upd]
theorem upd_other (ρ : Env) {d i : Nat} (v : Value) (h : i ≠ d) : upd ρ d v i = ρ i := by
  have : Nat.beq i d = false := by
    cases hb : Nat.beq i d with
    | false => rfl
    | true => exact absurd (Nat.eq_of_beq_eq_true hb) h
  simp [upd, this]
theorem rd_put (a : Act) {d : Nat} (v : Value) (h : d < a.tmps.size) : rd (a.put (some d) v) = upd (rd a) d v := by
  funext i
  simp only [rd, Act.put]
  by_cases hi : i = d
  · subst hi; rw [upd_same]; simp [Array.getD, h]
  · rw [upd_other _ _ hi]; simp [rd, Ne.symm hi]
theorem rd_putO (a : Act) (o : Option Tmp) (v : Value) (h : ∀ d, o = some d → d < a.tmps.size) : rd (a.put o v) = updO (rd a) o v := by
  cases o with
  | none => rfl
  | some d => exact rd_put a v (h d rfl)
theorem size_putO (a : Act) (o : Option Tmp) (v : Value) : (a.put o v).tmps.size = a.tmps.size := by cases o <;> simp [Act.put]
theorem defers_putO (a : Act) (o : Option Tmp) (v : Value) : (a.put o v).defers = a.defers := by cases o <;> simp [Act.put]

/-- The fence that shuts nothing out, in a round or outside of one. -/
def Wd (ro : Option Nat) : Fence := { fn := fun _ => True, depth := none, alive := false, round := ro }

/-- Where a formula stands: in a round or not; may a loop's body be called from here? -/
structure Md where
  ro : Option Nat
  yl : Bool
abbrev Md.plain : Md := ⟨none, true⟩
abbrev Md.draw : Md := ⟨none, false⟩

/-! ### What an operation comes to -/
def mapA {α β : Type} (f : α → β) (xs : Array α) : Array β := (xs.toList.map f).toArray
theorem mapA_eq {α β : Type} (f : α → β) (xs : Array α) : mapA f xs = xs.map f := by
  apply Array.ext'
  simp [mapA]

/-- A call of a known function. -/
def cl (P : Program) (f : FuncId) (args : Array Value) (w : World) (K : Value → World → Prop) : Prop :=
  Calls P f args w (fun e w' => ∃ v, e = .returned v ∧ K v w')
theorem cl.mono {P : Program} {f : FuncId} {args : Array Value} {w : World} {K K' : Value → World → Prop} (hh : cl P f args w K) (h : ∀ v w, K v w → K' v w) : cl P f args w K' :=
  Calls.mono hh fun _ _ ⟨v, he, hv⟩ => ⟨v, he, h _ _ hv⟩
theorem callsIn_of_calls (ro : Option Nat) (n : Nat) {P : Program} {f : FuncId} {args : Array Value} {w : World} {R : Ending → World → Prop} (h : Calls P f args w R) : CallsIn (Wd ro) n P f args w R := by
  have h1 : CallsIn Fence.wide n P f args w R := callsIn_wide.2 h
  cases ro with
  | none => exact h1
  | some l => exact h1.inRound l

section
variable (P : Program) (ro : Md)

def nextv (r : Result Next) (K : Value → World → Prop) : Prop :=
  match r with
  | .ok (.value v) w => K v w
  | .ok .skip w => K undef w
  | .ok (.enter f args) w => cl P f args w K
  | .ok (.round l f tmps assign body) w => ro.yl = true ∧ RoundIn (Wd ro.ro) 0 P l f tmps assign body w (fun e w' => ∃ v, e = .returned v ∧ K v w')
  | _ => False

/-- A call of a function value. -/
def cf (v : Value) (args : Array Value) (w : World) (K : Value → World → Prop) : Prop :=
  nextv P ro ((do let d ← Deferred.ofValue v args; invoke d.target d.args : Sem Next).run P w) K
def pk (c a b : Value) (K : Value → Prop) : Prop :=
  match c with
  | .bool t => K (match t with | true => a | false => b)
  | _ => False
def nc (v : Value) (K : Value → Prop) : Prop :=
  match v with
  | .pointer (some a) => K (.pointer (some a))
  | _ => False
def bcond (b : Bool) (A B : Prop) : Prop := match b with | true => A | false => B
def cnd (v : Value) (A B : Prop) : Prop :=
  match v with
  | .bool b => bcond b A B
  | _ => False

/-- The builtins that run by themselves. -/
def bl (b : Builtin) (ts : List TypeId) (t : TypeId) (args : List Value) (w : World) (K : Value → World → Prop) : Prop :=
  match b, ts, args with
  | .append, [t1, t2], [s, x] => ap P t1 t2 s x w K
  | .copy, [t1, _], [d, x] => cp P t1 d x w K
  | .delete, [t1, _], [m, k] => dl P t1 m k w K
  | .len, [t1], [x] => ln P t1 x w K
  | .min, _, [x, y] => mn x y w K
  | .max, _, [x, y] => mx x y w K
  | .cap, _, _ => opv P (Builtin.cap_ ts.toArray t args.toArray) w K
  | _, _, _ => False

def bin (op : BinOp) (t : TypeId) (x y : Operand) (a b : Value) (w : World) (K : Value → World → Prop) : Prop :=
  opv P (do eqGuard op t x y a b; binOp op t a b) w K

def mm (w : World) (K : Value → World → Prop) : Prop := K (.map (some w.heap.size)) (w.alloc (.map #[] 0))

def opF (o : Oper) (ρ : Env) (w : World) (K : Value → World → Prop) : Prop :=
  match o.op with
  | .move x => K (ev ρ x) w
  | .assign x => K (ev ρ x) w
  | .pick c a b => pk (ev ρ c) (ev ρ a) (ev ρ b) fun v => K v w
  | .alloc t => al P t w K
  | .box t x => bx t (ev ρ x) w K
  | .build t parts => bd P t (mapA (fun p => (p.1, ev ρ p.2)) parts) w K
  | .buildSlice t n parts => bs P t n (mapA (fun p => (p.1, ev ρ p.2)) parts) w K
  | .load t a => ld P t (ev ρ a) w K
  | .store t a x => st P t (ev ρ a) (ev ρ x) w (K undef)
  | .nilCheck x => nc (ev ρ x) fun v => K v w
  | .binOp op t x y _ => bin P op t x y (ev ρ x) (ev ρ y) w K
  | .unOp op _ x => un op (ev ρ x) w K
  | .convert s d x => cv P s d (ev ρ x) w K
  | .makeInterface t x => opv P (Instr.makeInterface t (ev ρ x)) w K
  | .makeFunc f first cap => K (.func f (mapA (ev ρ) first) (mapA (ev ρ) cap)) w
  | .makeSlice t l c => mk P t (ev ρ l) (ev ρ c) w K
  | .slice t x lo hi mx => sl P t (ev ρ x) (lo.map (ev ρ)) (hi.map (ev ρ)) (mx.map (ev ρ)) w K
  | .fieldAddr s x f => fa P s (ev ρ x) f w K
  | .field t x f => fd P t (ev ρ x) f w K
  | .indexAddr t x i => ia P t (ev ρ x) (ev ρ i) w K
  | .index t x i => ix P t (ev ρ x) (ev ρ i) w K
  | .lookup t x i ok => lk P t (ev ρ x) (ev ρ i) ok w K
  | .mapUpdate t m k x => mu P t (ev ρ m) (ev ρ k) (ev ρ x) w (K undef)
  | .insert t m k x => mu P t (ev ρ m) (ev ρ k) (ev ρ x) w (K undef)
  | .mapEntry t m k => me P t (ev ρ m) (ev ρ k) w K
  | .entryStore t m s x => opu P (Instr.entryStore t (ev ρ m) (ev ρ s) (ev ρ x)) w (K undef)
  | .range t x => rg P t (ev ρ x) w K
  | .next it false => nx (ev ρ it) w K
  | .next it true => opv P (Instr.next (ev ρ it) true o.type) w K
  | .entry it => en (ev ρ it) w K
  | .extract t i => ex (ev ρ t) i w K
  | .makeMap _ none => mm w K
  | .makeMap t (some r) => opv P (Instr.makeMap t (some (ev ρ r))) w K
  | .call c =>
    match c.callee with
    | .builtin b => bl P b c.argTypes.toList o.type (c.args.toList.map (ev ρ)) w K
    | .value (.func f) => cl P f (mapA (ev ρ) c.args) w K
    | .value x => cf P ro (ev ρ x) (mapA (ev ρ) c.args) w K
    | .invoke .. => nextv P ro ((execOp (ev ρ) o).run P w) K
  | .defer _ | .go _ | .panic _ | .send .. | .recv .. | .select .. => False
  | _ => nextv P ro ((execOp (ev ρ) o).run P w) K

/-- A function of the program that can be entered. -/
def callOk (f : FuncId) : Bool := match P.funcs[f]? with | some fn => fn.name != "runtime.NumGoroutine" && fn.body.isSome | none => false
/-- All functions that are called by their names can be entered, all slots lie in the frame. -/
def operOk (n : Nat) (o : Oper) : Bool :=
  (match o.dst with | some d => decide (d < n) | none => true) &&
  (match o.op with
    | .call { callee := .value (.func f), .. } => callOk P f
    | _ => true)
end

section
variable {P : Program} {ro : Md}

theorem nextv_mono {r : Result Next} {K K' : Value → World → Prop} (h : ∀ v w, K v w → K' v w) (hh : nextv P ro r K) : nextv P ro r K' := by
  cases r with
  | halt x w => exact hh
  | ok n w =>
    cases n <;> simp only [nextv] at hh ⊢ <;> first | exact h _ _ hh | exact cl.mono hh h | exact ⟨hh.1, hh.2.mono fun e w' ⟨v, he, hv⟩ => ⟨v, he, h _ _ hv⟩⟩

/-- A value's reckoning inside an operation. -/
theorem nextv_opv {s : Sem Value} {w : World} {K : Value → World → Prop} (h : opv P s w K) : nextv P ro ((do pure (.value (← s)) : Sem Next).run P w) K := by
  unfold opv at h
  simp only [Sem.run_bind]
  cases hr : s.run P w with
  | ok v w' => rw [hr] at h; simpa [Result.andThen, nextv, Sem.run] using h
  | halt x w' => rw [hr] at h; exact h.elim
theorem nextv_opu {s : Sem Unit} {w : World} {K : Value → World → Prop} (h : opu P s w (K undef)) : nextv P ro ((do s; pure .skip : Sem Next).run P w) K := by
  unfold opu at h
  simp only [Sem.run_bind]
  cases hr : s.run P w with
  | ok v w' => rw [hr] at h; simpa [Result.andThen, nextv, Sem.run] using h
  | halt x w' => rw [hr] at h; exact h.elim

theorem run_callFunc {f : FuncId} {args : Array Value} {w : World} (h : callOk P f = true) : (callFunc f args).run P w = .ok (.enter f args) w := by
  unfold callOk at h
  cases hf : P.funcs[f]? with
  | none => simp [hf] at h
  | some fn =>
    simp only [hf, Bool.and_eq_true, bne_iff_ne, ne_eq] at h
    have h2 : (fn.body.isNone) = false := by
      cases hb : fn.body with
      | none => rw [hb] at h; simp at h
      | some c => rfl
    have h1 : (fn.name == "runtime.NumGoroutine") = false := by simpa using h.1
    simp only [callFunc, Sem.run_bind, program, Sem.run, Result.andThen_ok, hf]
    simp only [h1, h2, Bool.false_eq_true, if_false]
    rfl

theorem nextv_cl {f : FuncId} {args : Array Value} {w : World} {K : Value → World → Prop} (hok : callOk P f = true) (h : cl P f args w K) :
    nextv P ro ((do let d ← Deferred.ofValue (.func (.func f) #[] #[]) args; invoke d.target d.args : Sem Next).run P w) K := by
  have he : (do let d ← Deferred.ofValue (.func (.func f) #[] #[]) args; invoke d.target d.args : Sem Next) = callFunc f args := by
    show (callFunc f ((#[] ++ args) ++ #[])) = _
    simp
  rw [he, run_callFunc hok]
  exact h

theorem bl_opv {b : Builtin} {ts : List TypeId} {t : TypeId} {args : List Value} {w : World} {K : Value → World → Prop} {cs : Array Bool} (h : bl P b ts t args w K) : nextv P ro ((builtin b ts.toArray t cs args.toArray).run P w) K := by
  unfold bl at h
  split at h
  case h_1 => exact nextv_opv (ap_opv h)
  case h_2 => exact nextv_opv (cp_opv h)
  case h_3 => exact nextv_opv (dl_opv h)
  case h_4 => exact nextv_opv (ln_opv h)
  case h_5 => exact nextv_opv (mn_opv h)
  case h_6 => exact nextv_opv (mx_opv h)
  case h_7 => exact nextv_opv h
  case h_8 => exact h.elim

theorem opF_next {n : Nat} {o : Oper} {ρ : Env} {w : World} {K : Value → World → Prop} (hok : operOk P n o = true) (h : opF P ro o ρ w K) :
    nextv P ro ((execOp (ev ρ) o).run P w) K := by
  obtain ⟨dst, op, ty, pos, after, guard⟩ := o
  cases op <;> simp only [opF] at h <;> simp only [execOp]
  case move x => exact h
  case assign x => exact h
  case pick c a b =>
    unfold pk at h
    cases hc : ev ρ c <;> simp only [hc] at h
    case bool t =>
      simp only [asBool, Sem.run_bind]
      cases t <;> exact h
  case alloc t => exact nextv_opv (al_opv h)
  case box t x => exact nextv_opv (bx_opv (P := P) h)
  case build t parts => rw [mapA_eq] at h; exact nextv_opv (bd_opv h)
  case buildSlice t n parts => rw [mapA_eq] at h; exact nextv_opv (bs_opv h)
  case load t a => exact nextv_opv (ld_opv h)
  case store t a x => exact nextv_opu (st_opu h)
  case nilCheck x =>
    unfold nc at h
    cases hx : ev ρ x <;> simp only [hx] at h
    case pointer a =>
      cases a with
      | none => exact h.elim
      | some a => exact h
  case binOp op t x y yt => exact nextv_opv h
  case unOp op t x => exact nextv_opv (un_opv (P := P) h)
  case convert s d x => exact nextv_opv (cv_opv h)
  case makeInterface t x => exact nextv_opv h
  case makeFunc f first cap => rw [mapA_eq, mapA_eq] at h; exact h
  case makeSlice t l c => exact nextv_opv (mk_opv h)
  case slice t x lo hi mx => exact nextv_opv (sl_opv h)
  case fieldAddr s x f => exact nextv_opv (fa_opv h)
  case field t x f => exact nextv_opv (fd_opv h)
  case indexAddr t x i => exact nextv_opv (ia_opv h)
  case index t x i => exact nextv_opv (ix_opv h)
  case lookup t x i ok => exact nextv_opv (lk_opv h)
  case mapUpdate t m k x => exact nextv_opu (mu_opu h)
  case insert t m k x => exact nextv_opu (mu_opu h)
  case mapEntry t m k => exact nextv_opv (me_opv h)
  case entryStore t m s x => exact nextv_opu h
  case range t x => exact nextv_opv (rg_opv h)
  case next it s => cases s <;> first | exact nextv_opv (nx_opv h) | exact nextv_opv h
  case entry it => exact nextv_opv (en_opv h)
  case extract t i => exact nextv_opv (ex_opv (P := P) h)
  case makeMap t r => cases r <;> first | exact h | exact nextv_opv h
  case call c =>
    obtain ⟨callee, args, ats⟩ := c
    cases callee with
    | builtin b =>
      simp only at h
      have h1 := bl_opv (ro := ro) (cs := args.map fun | .const _ => true | _ => false) h
      have h2 : ((args.toList.map (ev ρ)).toArray : Array Value) = args.map (ev ρ) := mapA_eq _ _
      rw [h2, Array.toArray_toList] at h1
      exact h1
    | value f =>
      cases f with
      | func f =>
        simp only at h
        rw [mapA_eq] at h
        have hk : callOk P f = true := by simp only [operOk, Bool.and_eq_true] at hok; exact hok.2
        exact nextv_cl hk h
      | tmp t => simp only at h; rw [mapA_eq] at h; exact h
      | const v => simp only at h; rw [mapA_eq] at h; exact h
      | global g => simp only at h; rw [mapA_eq] at h; exact h
    | invoke r m => exact h
  all_goals first | exact h.elim | exact h

theorem wpIn_of_next {n : Nat} {o : Oper} {a : Act} {w : World} {next : Act → World → Prop} {Q : Exit → Act → World → Prop} (hop : ∀ c, o.op ≠ .defer c)
    (h : nextv P ro ((execOp a.eval o).run P w) fun v w' => next (a.put o.dst v) w') : o.wpIn (Wd ro.ro) n P a w next Q := by
  refine ⟨fun f _ => trivial, ?_⟩
  rw [Oper.semAt_plain (Wd ro.ro) _ _ hop]
  generalize (execOp a.eval o).run P w = r at *
  cases r with
  | halt x w' => exact h.elim
  | ok nx w' =>
    cases nx <;> simp only [nextv] at h <;> simp only [Oper.uponIn] <;> try exact h
    case enter f args =>
      refine ⟨fun hd => by simp [Wd] at hd, ?_⟩
      refine (callsIn_of_calls ro.ro _ h).mono ?_
      rintro e w'' ⟨v, rfl, hv⟩
      exact hv
    case round l f tmps assign body =>
      refine ⟨fun hd => by simp [Wd] at hd, ?_⟩
      obtain ⟨_, h⟩ := h
      refine ⟨h.1, fun c cs hroom => ?_⟩
      obtain ⟨e, w2, ⟨v, rfl, hv⟩, s⟩ := h.2 c cs (fun d hd => by simp [Wd] at hd)
      exact ⟨.returned v, w2, hv, s⟩
    all_goals exact h.elim
end

/-! ### A region, in the order of the text -/
section
variable (P : Program) (ro : Md)

/-- The slot by which an operation is guarded. -/
def gslot (ops : List Oper) (j : Nat) : Option Tmp := (ops[j]?).bind (·.dst)

/-- The slots of operations that were passed over. -/
def skw (sk : List Nat) : Option Tmp → List Nat
  | some d => sk.filter fun i => !(Nat.beq i d)
  | none => sk
def sks (sk : List Nat) : Option Tmp → List Nat
  | some d => d :: sk
  | none => sk

/-- The guard, decided: 'A' where the operation runs, 'B' where it is passed over; a guard that is a variable is known from then on. -/
def gd (ops : List Oper) (o : Oper) (sk : List Nat) (ρ : Env) (A B : Env → Prop) : Prop :=
  match o.guard with
  | none => A ρ
  | some (j, want) =>
    match gslot ops j with
    | none => False
    | some d =>
      match sk.elem d with
      | true => B ρ
      | false =>
        match want with
        | true => cnd (ρ d) (A (upd ρ d (.bool true))) (B (upd ρ d (.bool false)))
        | false => cnd (ρ d) (B (upd ρ d (.bool true))) (A (upd ρ d (.bool false)))

/-- A region's operations, one behind the other. -/
def vcOps (ops : List Oper) (K : Env → World → Prop) : List Oper → List Nat → Env → World → Prop
  | [], _, ρ, w => K ρ w
  | o :: rest, sk, ρ, w =>
    gd ops o sk ρ (fun ρ => opF P ro o ρ w fun v w' => vcOps ops K rest (skw sk o.dst) (updO ρ o.dst v) w')
      (fun ρ => vcOps ops K rest (sks sk o.dst) (updO ρ o.dst undef) w)
end

theorem upd_self (ρ : Env) (d : Nat) (v : Value) (h : ρ d = v) : upd ρ d v = ρ := by
  funext i
  by_cases hi : i = d
  · subst hi; rw [upd_same, h]
  · rw [upd_other _ _ hi]

theorem yielded_rd {ops : Array Oper} {a : Act} {j : Nat} {d : Tmp} (hd : gslot ops.toList j = some d) (hlt : d < a.tmps.size) :
    yielded ops a.tmps j = (match rd a d with | .bool b => some b | _ => none) := by
  have h1 : (ops[j]?).bind (·.dst) = some d := by simpa [gslot] using hd
  unfold yielded
  rw [h1]
  simp only [Option.bind_some, rd, Array.getD, hlt, dif_pos, Array.getElem?_eq_getElem]
  generalize hx : a.tmps[d] = x
  simp only [Array.getInternal_eq_getElem, hx]
  cases x <;> rfl

section
variable {P : Program} {ro : Md}

/-- What a frame holds: its size, its deferred calls, and that all slots but some are as they were. -/
structure At (ds : List Deferred) (n : Nat) (m : Nat → Bool) (ρ₀ : Env) (a : Act) : Prop where
  size : a.tmps.size = n
  defers : a.defers = ds
  keep : ∀ i, m i = false → rd a i = ρ₀ i

def writes (ops : List Oper) (i : Nat) : Bool := ops.any fun o => match o.dst with | some d => Nat.beq d i | none => false

theorem At.put {ds : List Deferred} {n : Nat} {m : Nat → Bool} {ρ₀ : Env} {a : Act} (h : At ds n m ρ₀ a) (o : Option Tmp) (v : Value) (hn : ∀ d, o = some d → d < n) (hm : ∀ d, o = some d → m d = true) : At ds n m ρ₀ (a.put o v) := by
  refine ⟨by rw [size_putO]; exact h.size, by rw [defers_putO]; exact h.defers, fun i hi => ?_⟩
  rw [rd_putO a o v (by rw [h.size]; exact hn)]
  cases o with
  | none => exact h.keep i hi
  | some d =>
    have hne : i ≠ d := fun e => by subst e; rw [hm i rfl] at hi; cases hi
    show upd _ _ _ _ = _
    rw [upd_other _ _ hne]
    exact h.keep i hi

def guardOk (n : Nat) (ops : List Oper) (o : Oper) : Bool :=
  match o.guard with
  | none => true
  | some (j, _) => match gslot ops j with | some d => decide (d < n) | none => false

def opsOk (P : Program) (n : Nat) (ops : List Oper) : Bool := ops.all fun o => operOk P n o && guardOk n ops o && (match o.op with | .defer _ => false | _ => true)

/-- What a guard comes to. -/
theorem gd_cases {ops : Array Oper} {o : Oper} {a : Act} {sk : List Nat} {A B : Env → Prop} {n : Nat} (hn : a.tmps.size = n) (hok : guardOk n ops.toList o = true) (hsk : ∀ d ∈ sk, rd a d = undef) (h : gd ops.toList o sk (rd a) A B) :
    (Region.wanted o (yielded ops a.tmps) = true ∧ A (rd a)) ∨ (Region.wanted o (yielded ops a.tmps) = false ∧ B (rd a)) := by
  unfold gd at h
  cases hg : o.guard with
  | none => simp only [hg] at h; exact .inl ⟨by simp [Region.wanted, hg], h⟩
  | some jw =>
    obtain ⟨j', want⟩ := jw
    simp only [hg] at h
    cases hd : gslot ops.toList j' with
    | none => simp only [hd] at h
    | some d =>
      simp only [hd] at h
      have hdn : d < a.tmps.size := by
        rw [hn]
        simp only [guardOk, hg, hd, decide_eq_true_eq] at hok
        exact hok
      have hy := yielded_rd hd hdn
      have hw : Region.wanted o (yielded ops a.tmps) = ((match rd a d with | .bool b => some b | _ => none) == some want) := by simp only [Region.wanted, hg, hy]
      rw [hw]
      cases hs : sk.elem d with
      | true =>
        rw [hs] at h
        have hu := hsk d (by simpa using hs)
        rw [hu]
        exact .inr ⟨by simp [undef], h⟩
      | false =>
        rw [hs] at h
        cases hv : rd a d with
        | bool b =>
          cases want <;> cases b <;> simp only [hv, cnd, bcond] at h
          · rw [upd_self _ _ _ hv] at h; exact .inl ⟨by decide, h⟩
          · rw [upd_self _ _ _ hv] at h; exact .inr ⟨by decide, h⟩
          · rw [upd_self _ _ _ hv] at h; exact .inr ⟨by decide, h⟩
          · rw [upd_self _ _ _ hv] at h; exact .inl ⟨by decide, h⟩
        | _ => cases want <;> simp only [hv, cnd] at h

theorem skw_keeps {sk : List Nat} {ρ : Env} {o : Option Tmp} {v : Value} (h : ∀ d ∈ sk, ρ d = undef) : ∀ d ∈ skw sk o, updO ρ o v d = undef := by
  intro d hd
  cases o with
  | none => exact h d hd
  | some i =>
    simp only [skw, List.mem_filter, Bool.not_eq_true'] at hd
    have hne : d ≠ i := fun e => by subst e; rw [Nat.beq_refl] at hd; exact absurd hd.2 (by simp)
    show upd _ _ _ _ = _
    rw [upd_other _ _ hne]
    exact h d hd.1
theorem sks_keeps {sk : List Nat} {ρ : Env} {o : Option Tmp} (h : ∀ d ∈ sk, ρ d = undef) : ∀ d ∈ sks sk o, updO ρ o undef d = undef := by
  intro d hd
  cases o with
  | none => exact h d hd
  | some i =>
    show upd _ _ _ _ = _
    by_cases hne : d = i
    · subst hne; rw [upd_same]
    · rw [upd_other _ _ hne]
      exact h d ((List.mem_cons.1 hd).resolve_left hne)

theorem vcOps_sound {ds : List Deferred} {n k : Nat} {m : Nat → Bool} {ρ₀ : Env} {ops : Array Oper} {K : Env → World → Prop} {Q : Exit → Act → World → Prop}
    (hK : ∀ a w, At ds n m ρ₀ a → K (rd a) w → Q .normal a w) (hm : ∀ i, writes ops.toList i = true → m i = true) (hok : opsOk P n ops.toList = true) :
    ∀ (l : List Oper) (j : Nat), (∀ i, l[i]? = ops[j + i]?) → ∀ (sk : List Nat) (a : Act) (w : World), At ds n m ρ₀ a → (∀ d ∈ sk, rd a d = undef) → vcOps P ro ops.toList K l sk (rd a) w →
      wpOpsIn (Wd ro.ro) k P ops Q (List.range' j l.length) a w := by
  intro l
  induction l with
  | nil => intro j _ sk a w ha _ h; exact hK a w ha h
  | cons o rest ih =>
    intro j hl sk a w ha hsk h
    have hoj : ops[j]? = some o := by simpa using (hl 0).symm
    have hrest : ∀ i, rest[i]? = ops[j + 1 + i]? := fun i => by have := hl (i + 1); simpa [Nat.add_assoc, Nat.add_comm 1 i] using this
    have hmem : o ∈ ops.toList := by
      have := List.mem_of_getElem? (l := ops.toList) (i := j) (a := o) (by simpa using hoj)
      exact this
    have hall := List.all_eq_true.1 hok o hmem
    simp only [Bool.and_eq_true] at hall
    obtain ⟨⟨hoper, hguard⟩, hdef⟩ := hall
    have hnd : ∀ c, o.op ≠ .defer c := fun c hc => by rw [hc] at hdef; cases hdef
    have hdst : ∀ d, o.dst = some d → d < n := fun d hd => by
      simp only [operOk, Bool.and_eq_true, hd, decide_eq_true_eq] at hoper
      exact hoper.1
    have hmd : ∀ d, o.dst = some d → m d = true := fun d hd => hm d (by
      unfold writes
      rw [List.any_eq_true]
      exact ⟨o, hmem, by rw [hd]; exact Nat.beq_refl d⟩)
    have hput : ∀ (b : Act), At ds n m ρ₀ b → ∀ v, At ds n m ρ₀ (b.put o.dst v) := fun b hb v => hb.put o.dst v hdst hmd
    have hrdput : ∀ (b : Act), At ds n m ρ₀ b → ∀ v, rd (b.put o.dst v) = updO (rd b) o.dst v := fun b hb v => rd_putO b o.dst v (by rw [hb.size]; exact hdst)
    simp only [List.length_cons, List.range'_succ, wpOpsIn, hoj]
    simp only [vcOps] at h
    rcases gd_cases ha.size hguard hsk h with ⟨hw, hA⟩ | ⟨hw, hB⟩
    · rw [if_pos hw]
      have h1 := opF_next (ro := ro) hoper hA
      rw [ev_rd] at h1
      refine wpIn_of_next hnd (nextv_mono ?_ h1)
      intro v w' hv
      refine ih (j + 1) hrest _ _ _ (hput a ha v) ?_ (by rw [hrdput a ha v]; exact hv)
      rw [hrdput a ha v]
      exact skw_keeps hsk
    · rw [if_neg (by rw [hw]; simp)]
      refine ⟨fun _ _ => trivial, ih (j + 1) hrest _ _ _ (hput a ha undef) ?_ (by rw [hrdput a ha undef]; exact hB)⟩
      rw [hrdput a ha undef]
      exact sks_keeps hsk
end

/-! ### A region that draws its order -/
section
variable (P : Program)

/-- A formula that yields one value in every world of a kind, and leaves it alone. -/
def opS (S : World → Prop) (F : World → (Value → World → Prop) → Prop) (K : Value → Prop) : Prop := ∃ v, (∀ w, S w → F w fun v' w' => v' = v ∧ w' = w) ∧ K v

/-- Operations that only look. -/
def stillable (o : Oper) : Bool :=
  match o.op with
  | .move _ | .assign _ | .pick .. | .nilCheck _ | .load .. | .binOp .. | .unOp .. | .fieldAddr .. | .field .. | .indexAddr .. | .index .. | .lookup .. | .slice .. | .extract .. | .convert .. | .makeFunc .. | .build .. => true
  | .call c => match c.callee with | .builtin .len | .builtin .cap | .builtin .min | .builtin .max => true | _ => false
  | _ => false

def stillF (S : World → Prop) (o : Oper) (ρ : Env) (K : Value → Prop) : Prop :=
  match o.op with
  | .move x => K (ev ρ x)
  | .assign x => K (ev ρ x)
  | .pick c a b => pk (ev ρ c) (ev ρ a) (ev ρ b) K
  | .nilCheck x => nc (ev ρ x) K
  | .load t a => opS S (ld P t (ev ρ a)) K
  | .binOp op t x y _ => opS S (bin P op t x y (ev ρ x) (ev ρ y)) K
  | .unOp op _ x => opS S (un op (ev ρ x)) K
  | .convert s d x => opS S (cv P s d (ev ρ x)) K
  | .build t parts => opS S (bd P t (mapA (fun p => (p.1, ev ρ p.2)) parts)) K
  | .makeFunc f first cap => K (.func f (mapA (ev ρ) first) (mapA (ev ρ) cap))
  | .slice t x lo hi mx => opS S (sl P t (ev ρ x) (lo.map (ev ρ)) (hi.map (ev ρ)) (mx.map (ev ρ))) K
  | .fieldAddr s x f => opS S (fa P s (ev ρ x) f) K
  | .field t x f => opS S (fd P t (ev ρ x) f) K
  | .indexAddr t x i => opS S (ia P t (ev ρ x) (ev ρ i)) K
  | .index t x i => opS S (ix P t (ev ρ x) (ev ρ i)) K
  | .lookup t x i ok => opS S (lk P t (ev ρ x) (ev ρ i) ok) K
  | .extract t i => opS S (ex (ev ρ t) i) K
  | .call c =>
    match c.callee with
    | .builtin b => opS S (bl P b c.argTypes.toList o.type (c.args.toList.map (ev ρ))) K
    | _ => False
  | _ => False

def allF : List Nat → (Nat → Prop) → Prop
  | [], _ => True
  | [i], f => f i
  | i :: is, f => f i ∧ allF is f

/-- For which operations number u waits; the ones that it waits for through others, too. -/
def edgesOf (ops : List Oper) (u : Nat) : List Nat := match ops[u]? with | some o => (o.after.toList.filter fun e => Region.binds .any e).map fun e => e.on | none => []
def ancL (ops : List Oper) : Nat → List Nat → List Nat
  | 0, acc => acc
  | j + 1, acc => ancL ops j (match acc.elem j with | true => acc ++ edgesOf ops j | false => acc)
def stillAt (ops : List Oper) (j : Nat) : Bool := match ops[j]? with | some o => stillable o | none => false
/-- Does number i wait for everything that only looks? -/
def cov (ops : List Oper) (i : Nat) : Bool := (List.range ops.length).all fun j => Nat.beq j i || !stillAt ops j || (ancL ops i (edgesOf ops i)).elem j
def unlessB (b : Bool) (A B : Prop) : Prop := match b with | true => B | false => A ∧ B

def vcH (S : World → Prop) (ops : List Oper) (K : Env → World → Prop) : Nat → Array Bool → List Nat → Env → World → Prop
  | 0, listed, _, ρ, w => match Region.ready .any ops.toArray listed with | [] => K ρ w | _ => False
  | fuel + 1, listed, sk, ρ, w =>
    match Region.ready .any ops.toArray listed with
    | [] => K ρ w
    | r :: rs =>
      match (r :: rs).find? (fun i => Region.free .any ops.toArray listed i && (match ops[i]? with | some o => stillable o | none => false)) with
      | some i =>
        match ops[i]? with
        | none => False
        | some o =>
          gd ops o sk ρ (fun ρ => stillF P S o ρ fun v => vcH S ops K fuel (listed.setIfInBounds i true) (skw sk o.dst) (updO ρ o.dst v) w)
            (fun ρ => vcH S ops K fuel (listed.setIfInBounds i true) (sks sk o.dst) (updO ρ o.dst undef) w)
      | none =>
        allF (r :: rs) fun i =>
          match ops[i]? with
          | none => False
          | some o =>
            gd ops o sk ρ (fun ρ => opF P .draw o ρ w fun v w' => unlessB (cov ops i) (S w') (vcH S ops K fuel (listed.setIfInBounds i true) (skw sk o.dst) (updO ρ o.dst v) w'))
              (fun ρ => unlessB (cov ops i) (S w) (vcH S ops K fuel (listed.setIfInBounds i true) (sks sk o.dst) (updO ρ o.dst undef) w))

/-- A kind of worlds is chosen that holds all along. -/
def drawE (w : World) (B : (World → Prop) → World → Prop) : Prop := ∃ S : World → Prop, S w.drew ∧ B S w.drew
/-- A region that draws its order: what only looks is done at once, all else in every order. -/
def drawF (ops : List Oper) (ρ : Env) (w : World) (K : Env → World → Prop) : Prop :=
  drawE w fun S w => vcH P S ops K ops.length (Array.replicate ops.length false) [] ρ w
end

section
variable {P : Program}

theorem allF_mem {rs : List Nat} {f : Nat → Prop} (h : allF rs f) : ∀ i ∈ rs, f i := by
  induction rs with
  | nil => intro i hi; cases hi
  | cons r rs ih =>
    cases rs with
    | nil => intro i hi; rw [List.mem_singleton] at hi; subst hi; exact h
    | cons r' rs' =>
      intro i hi
      rcases List.mem_cons.1 hi with rfl | hi
      · exact h.1
      · exact ih h.2 i hi

theorem nextS {S : World → Prop} {s : Sem Value} {F : World → (Value → World → Prop) → Prop} {v : Value} (hF : ∀ w K, F w K → opv P s w K) (h : ∀ w, S w → F w fun v' w' => v' = v ∧ w' = w) :
    ∀ w, S w → ((do pure (.value (← s)) : Sem Next).run P w) = .ok (.value v) w := by
  intro w hw
  have h1 := hF w _ (h w hw)
  unfold opv at h1
  split at h1
  case h_2 => exact h1.elim
  case h_1 v' w' hr =>
    obtain ⟨rfl, rfl⟩ := h1
    simp only [Sem.run_bind, hr, Result.andThen_ok]
    rfl

theorem stillF_yields {S : World → Prop} {o : Oper} {ρ : Env} {K : Value → Prop} (h : stillF P S o ρ K) : ∃ v, (∀ w, S w → (execOp (ev ρ) o).run P w = .ok (.value v) w) ∧ K v := by
  obtain ⟨dst, op, ty, pos, after, guard⟩ := o
  cases op <;> simp only [stillF] at h <;> simp only [execOp] <;> try exact h.elim
  case move x => exact ⟨_, fun _ _ => rfl, h⟩
  case assign x => exact ⟨_, fun _ _ => rfl, h⟩
  case pick c a b =>
    unfold pk at h
    cases hc : ev ρ c <;> simp only [hc] at h
    case bool t =>
      refine ⟨_, fun w _ => ?_, h⟩
      simp only [asBool]
      cases t <;> rfl
  case nilCheck x =>
    unfold nc at h
    cases hx : ev ρ x <;> simp only [hx] at h
    case pointer a =>
      cases a with
      | none => exact h.elim
      | some a => exact ⟨_, fun _ _ => rfl, h⟩
  case load t a => obtain ⟨v, h1, h2⟩ := h; exact ⟨v, nextS (fun _ _ => ld_opv) h1, h2⟩
  case binOp op t x y yt => obtain ⟨v, h1, h2⟩ := h; exact ⟨v, nextS (s := do eqGuard op t x y (ev ρ x) (ev ρ y); binOp op t (ev ρ x) (ev ρ y)) (fun _ _ h => h) h1, h2⟩
  case unOp op t x => obtain ⟨v, h1, h2⟩ := h; exact ⟨v, nextS (fun _ _ => un_opv (P := P)) h1, h2⟩
  case convert s d x => obtain ⟨v, h1, h2⟩ := h; exact ⟨v, nextS (fun _ _ => cv_opv) h1, h2⟩
  case build t parts => rw [mapA_eq] at h; obtain ⟨v, h1, h2⟩ := h; exact ⟨v, nextS (fun _ _ => bd_opv) h1, h2⟩
  case makeFunc f first cap => rw [mapA_eq, mapA_eq] at h; exact ⟨_, fun _ _ => rfl, h⟩
  case slice t x lo hi mx => obtain ⟨v, h1, h2⟩ := h; exact ⟨v, nextS (fun _ _ => sl_opv) h1, h2⟩
  case fieldAddr s x f => obtain ⟨v, h1, h2⟩ := h; exact ⟨v, nextS (fun _ _ => fa_opv) h1, h2⟩
  case field t x f => obtain ⟨v, h1, h2⟩ := h; exact ⟨v, nextS (fun _ _ => fd_opv) h1, h2⟩
  case indexAddr t x i => obtain ⟨v, h1, h2⟩ := h; exact ⟨v, nextS (fun _ _ => ia_opv) h1, h2⟩
  case index t x i => obtain ⟨v, h1, h2⟩ := h; exact ⟨v, nextS (fun _ _ => ix_opv) h1, h2⟩
  case lookup t x i ok => obtain ⟨v, h1, h2⟩ := h; exact ⟨v, nextS (fun _ _ => lk_opv) h1, h2⟩
  case extract t i => obtain ⟨v, h1, h2⟩ := h; exact ⟨v, nextS (fun _ _ => ex_opv (P := P)) h1, h2⟩
  case call c =>
    obtain ⟨callee, args, ats⟩ := c
    cases callee with
    | builtin b =>
      simp only at h
      obtain ⟨v, h1, h2⟩ := h
      refine ⟨v, fun w hw => ?_, h2⟩
      have h3 := bl_opv (ro := .draw) (cs := args.map fun | .const _ => true | _ => false) (h1 w hw)
      have h4 : ((args.toList.map (ev ρ)).toArray : Array Value) = args.map (ev ρ) := mapA_eq _ _
      rw [h4, Array.toArray_toList] at h3
      have h5 : (do let d ← resolve (ev ρ) { callee := .builtin b, args, argTypes := ats } ty; invoke d.target d.args : Sem Next) = builtin b ats ty (args.map fun | .const _ => true | _ => false) (args.map (ev ρ)) := rfl
      rw [h5]
      have h6 : ∀ (r : Result Next), nextv P .draw r (fun v' w' => v' = v ∧ w' = w) → (∀ f a w', r ≠ .ok (.enter f a) w') → (∀ w', r ≠ .ok .skip w') → r = .ok (.value v) w := by
        intro r hr he hs
        unfold nextv at hr
        split at hr
        · obtain ⟨rfl, rfl⟩ := hr; rfl
        · exact absurd rfl (hs _)
        · exact absurd rfl (he _ _ _)
        · exact absurd hr.1 (by simp)
        · exact hr.elim
      refine h6 _ h3 ?_ ?_ <;> intros <;> intro hh <;> cases b <;> simp only [builtin, Sem.run_bind] at hh <;> first
        | (unfold Result.andThen at hh; split at hh <;> simp at hh <;> cases hh)
        | (have := h1 w hw; simp [bl] at this)
    | value f => exact h.elim
    | invoke r m => exact h.elim

theorem wp_of_next {o : Oper} {a : Act} {w : World} {next : Act → World → Prop} {Q : Exit → Act → World → Prop}
    (h : nextv P .draw ((execOp a.eval o).run P w) fun v w' => next (a.put o.dst v) w') : o.wp P a w next Q := by
  unfold Oper.wp
  generalize (execOp a.eval o).run P w = r at *
  cases r with
  | halt x w' => exact h.elim
  | ok nx w' =>
    cases nx <;> simp only [nextv] at h <;> simp only [Oper.upon] <;> try exact h
    case enter f args =>
      refine Calls.mono h ?_
      rintro e w'' ⟨v, rfl, hv⟩
      exact hv
    case round => exact absurd h.1 (by simp)
    all_goals exact h.elim

/-! ### A region in any order, where a condition holds until everything that looks was done -/
inductive Waits (ops : List Oper) (i : Nat) : Nat → Prop
  | direct {u : Nat} : i ∈ edgesOf ops u → Waits ops i u
  | step {u k : Nat} : k ∈ edgesOf ops u → Waits ops i k → Waits ops i u
theorem Waits.snoc {ops : List Oper} {i k u : Nat} (h : Waits ops k u) (hi : i ∈ edgesOf ops k) : Waits ops i u := by
  induction h with
  | direct h => exact .step h (.direct hi)
  | step h _ ih => exact .step h ih
theorem ancL_waits {ops : List Oper} {u : Nat} : ∀ (j : Nat) (acc : List Nat), (∀ x ∈ acc, Waits ops x u) → ∀ x ∈ ancL ops j acc, Waits ops x u := by
  intro j
  induction j with
  | zero => intro acc h; exact h
  | succ j ih =>
    intro acc h
    simp only [ancL]
    refine ih _ ?_
    split
    · rename_i hj
      intro x hx
      rcases List.mem_append.1 hx with hx | hx
      · exact h x hx
      · exact (h j (List.mem_of_elem_eq_true hj)).snoc hx
    · exact h
theorem cov_waits {ops : List Oper} {i j : Nat} (hc : cov ops i = true) (hj : stillAt ops j = true) (hne : j ≠ i) : Waits ops j i := by
  unfold cov at hc
  have hlt : j < ops.length := by
    unfold stillAt at hj
    cases h : ops[j]? with
    | none => rw [h] at hj; cases hj
    | some o => exact (List.getElem?_eq_some_iff.1 h).1
  have := List.all_eq_true.1 hc j (List.mem_range.2 hlt)
  have hb : Nat.beq j i = false := by
    cases hb : Nat.beq j i with
    | false => rfl
    | true => exact absurd (Nat.eq_of_beq_eq_true hb) hne
  simp only [hb, hj, Bool.not_true, Bool.or_self, Bool.false_or] at this
  exact ancL_waits _ _ (fun x hx => .direct hx) j (List.mem_of_elem_eq_true this)
def closedL (ops : List Oper) (listed : Array Bool) : Prop := ∀ u k, listed.getD u false = true → k ∈ edgesOf ops u → listed.getD k false = true
theorem waits_listed {ops : List Oper} {listed : Array Bool} (hc : closedL ops listed) {i u : Nat} (h : Waits ops i u) : (∀ k ∈ edgesOf ops u, listed.getD k false = true) → listed.getD i false = true := by
  induction h with
  | direct h => intro hu; exact hu _ h
  | step h _ ih => intro hu; exact ih fun k hk => hc _ _ (hu _ h) hk
theorem ready_edges {ops : Array Oper} {listed : Array Bool} {i : Nat} (h : i ∈ Region.ready .any ops listed) : ∀ k ∈ edgesOf ops.toList i, listed.getD k false = true := by
  obtain ⟨_, o, ho, hall⟩ := mem_ready.1 h
  intro k hk
  unfold edgesOf at hk
  rw [Array.getElem?_toList, ho] at hk
  simp only [List.mem_map, List.mem_filter] at hk
  obtain ⟨e, ⟨he, hb⟩, rfl⟩ := hk
  exact hall e (by simpa using he) hb
theorem closedL_set {ops : Array Oper} {listed : Array Bool} {i : Nat} (hc : closedL ops.toList listed) (h : i ∈ Region.ready .any ops listed) : closedL ops.toList (listed.setIfInBounds i true) := by
  intro u k hu hk
  by_cases hui : i = u
  · subst hui; exact getD_set_true (ready_edges h k hk)
  · rw [getD_set_ne false hui] at hu
    exact getD_set_true (hc u k hu hk)
theorem closedL_init (ops : List Oper) (n : Nat) : closedL ops (Array.replicate n false) := by
  intro u k hu
  exfalso
  by_cases h : u < n
  · simp [Array.getD, h] at hu
  · simp [Array.getD, h] at hu

def wpAnyZ (P : Program) (ops : Array Oper) (Q : Exit → Act → World → Prop) (S : World → Prop) (c : Nat → Bool) : Nat → Array Bool → Act → World → Prop
  | 0, listed, a, w => Region.ready .any ops listed = [] ∧ Q .normal a w
  | fuel + 1, listed, a, w =>
    (Region.ready .any ops listed = [] → Q .normal a w) ∧
    ∀ i ∈ Region.ready .any ops listed, wpOp P ops Q i (fun a' w' => (c i = false → S w') ∧ wpAnyZ P ops Q S c fuel (listed.setIfInBounds i true) a' w') a w
theorem wpAny_of_Z {ops : Array Oper} {Q : Exit → Act → World → Prop} {S : World → Prop} {c : Nat → Bool} : ∀ (fuel : Nat) (listed : Array Bool) (a : Act) (w : World), wpAnyZ P ops Q S c fuel listed a w → wpAny P .any ops Q fuel listed a w
  | 0, _, _, _, h => h
  | fuel + 1, _, _, _, h => ⟨h.1, fun i hi => wpOp_mono (fun a' w' h' => wpAny_of_Z fuel _ a' w' h'.2) (h.2 i hi)⟩
theorem wpAnyZ_done {ops : Array Oper} {Q : Exit → Act → World → Prop} {S : World → Prop} {c : Nat → Bool} {listed : Array Bool} {a : Act} {w : World} (hr : Region.ready .any ops listed = []) (h : Q .normal a w) : ∀ fuel, wpAnyZ P ops Q S c fuel listed a w
  | 0 => ⟨hr, h⟩
  | _ + 1 => ⟨fun _ => h, by rw [hr]; simp⟩
theorem wpAnyZ_first {ops : Array Oper} {Q : Exit → Act → World → Prop} {S : World → Prop} {c : Nat → Bool} {i : Nat} {oi : Oper} {v : Value} (hi : ops[i]? = some oi) (hsel : ∀ (j : Nat) (o : Oper) cs b, ops[j]? = some o → o.op ≠ .select cs b)
    (hQ : ∀ c a w, Q (.panic c) (a.put oi.dst v) w → Q (.panic c) a w) (hcov : ∀ j, j ≠ i → c j = true → Waits ops.toList i j) :
    ∀ (fuel : Nat) (listed : Array Bool) (a : Act) (w : World),
      (∀ j oj, ops[j]? = some oj → j ≠ i → listed.getD j true = false → (∀ e ∈ oj.after, Region.binds .any e = true → e.on ≠ i) → oi.apart ops oj = true) →
      closedL ops.toList listed → i ∈ Region.ready .any ops listed → YieldsIf P ops S oi v a → S w →
      wpAnyZ P ops Q S c fuel (listed.setIfInBounds i true) (a.put oi.dst v) w → wpAnyZ P ops Q S c (fuel + 1) listed a w := by
  intro fuel
  induction fuel with
  | zero =>
    intro listed a w _ _ hr hy hS H
    refine ⟨fun h => (by rw [h] at hr; cases hr), fun j hj => ?_⟩
    by_cases hji : j = i
    · subst hji; exact hy.wpOp hi hS ⟨fun _ => hS, H⟩
    · have := ready_mono hj hji
      rw [H.1] at this
      cases this
  | succ fuel ih =>
    intro listed a w hfree hc hr hy hS H
    refine ⟨fun h => (by rw [h] at hr; cases hr), fun j hj => ?_⟩
    by_cases hji : j = i
    · subst hji; exact hy.wpOp hi hS ⟨fun _ => hS, H⟩
    · have h1 := H.2 j (ready_mono hj hji)
      obtain ⟨hjun, oj, hoj, hall⟩ := mem_ready.1 hj
      have h0 := (mem_ready.1 hr).1
      have habs : ∀ x, x = i → listed.getD x false = true → False := fun x hx hl => by
        subst hx
        rcases Nat.lt_or_ge x listed.size with h' | h'
        · simp [h'] at h0 hl; rw [h0] at hl; cases hl
        · simp [Array.getElem?_eq_none h'] at hl
      have hnot : ∀ e ∈ oj.after, Region.binds .any e = true → e.on ≠ i := fun e he hb heq => habs _ heq (hall e he hb)
      have hcj : c j = false := by
        cases hcj : c j with
        | false => rfl
        | true => exact (habs i rfl (waits_listed hc (hcov j hji hcj) (ready_edges hj))).elim
      have h2 := wpOp_putIf hoj (hfree j oj hoj hji hjun hnot) (fun cs b => hsel i oi cs b hi) (fun cs b => hsel j oj cs b hoj) hQ hy h1
      have hfree' : ∀ k ok, ops[k]? = some ok → k ≠ i → (listed.setIfInBounds j true).getD k true = false →
          (∀ e ∈ ok.after, Region.binds .any e = true → e.on ≠ i) → oi.apart ops ok = true := fun k ok hk hki hun hno => by
        refine hfree k ok hk hki ?_ hno
        by_cases hjk : j = k
        · subst hjk; exact hjun
        · rw [getD_set_ne true hjk] at hun; exact hun
      refine wpOp_mono (fun a' w' h3 => ⟨h3.2.1, ih (listed.setIfInBounds j true) a' w' hfree' (closedL_set hc hj) (ready_mono hr (Ne.symm hji)) h3.1 (h3.2.1 hcj) ?_⟩) h2
      rw [Array.setIfInBounds_comm _ _ hji]
      exact h3.2.2

theorem vcH_sound {ds : List Deferred} {n : Nat} {m : Nat → Bool} {ρ₀ : Env} {ops : Array Oper} {K : Env → World → Prop} {Q : Exit → Act → World → Prop} {S : World → Prop}
    (hK : ∀ a w, At ds n m ρ₀ a → K (rd a) w → Q .normal a w) (hm : ∀ i, writes ops.toList i = true → m i = true) (hok : opsOk P n ops.toList = true) (hsel : Region.noSelect ops = true)
    (hP : ∀ c a w, ¬ Q (.panic c) a w) :
    ∀ (fuel : Nat) (listed : Array Bool) (sk : List Nat) (a : Act) (w : World), At ds n m ρ₀ a → (∀ d ∈ sk, rd a d = undef) → closedL ops.toList listed → (S w ∨ ∀ j, stillAt ops.toList j = true → listed.getD j false = true) → vcH P S ops.toList K fuel listed sk (rd a) w → wpAnyZ P ops Q S (cov ops.toList) fuel listed a w := by
  intro fuel
  induction fuel with
  | zero =>
    intro listed sk a w ha hsk hcl hS h
    simp only [vcH, Array.toArray_toList] at h
    cases hr : Region.ready .any ops listed with
    | nil => rw [hr] at h; exact ⟨hr, hK a w ha h⟩
    | cons r rs => rw [hr] at h; exact h.elim
  | succ fuel ih =>
    intro listed sk a w ha hsk hcl hS h
    simp only [vcH, Array.toArray_toList] at h
    cases hr : Region.ready .any ops listed with
    | nil => rw [hr] at h; exact wpAnyZ_done hr (hK a w ha h) _
    | cons r rs =>
      rw [hr] at h
      simp only at h
      have facts : ∀ (i : Nat) (o : Oper), ops[i]? = some o → operOk P n o = true ∧ guardOk n ops.toList o = true ∧ (∀ d, o.dst = some d → d < n) ∧ (∀ d, o.dst = some d → m d = true) := by
        intro i o ho
        have hmem : o ∈ ops.toList := List.mem_of_getElem? (l := ops.toList) (i := i) (a := o) (by simpa using ho)
        have hall := List.all_eq_true.1 hok o hmem
        simp only [Bool.and_eq_true] at hall
        refine ⟨hall.1.1, hall.1.2, fun d hd => ?_, fun d hd => hm d ?_⟩
        · have := hall.1.1
          simp only [operOk, Bool.and_eq_true, hd, decide_eq_true_eq] at this
          exact this.1
        · unfold writes
          rw [List.any_eq_true]
          exact ⟨o, hmem, by rw [hd]; exact Nat.beq_refl d⟩
      cases hf : (r :: rs).find? (fun i => Region.free .any ops listed i && (match ops.toList[i]? with | some o => stillable o | none => false)) with
      | some i =>
        rw [hf] at h
        simp only at h
        cases ho : ops[i]? with
        | none => simp only [Array.getElem?_toList, ho] at h
        | some o =>
          simp only [Array.getElem?_toList, ho] at h
          obtain ⟨hop, hgo, hdst, hmd⟩ := facts i o ho
          have hfree : Region.free .any ops listed i = true := by
            have := List.find?_some hf
            simp only [Bool.and_eq_true] at this
            exact this.1
          have hmem : i ∈ r :: rs := List.mem_of_find?_eq_some hf
          have hready : (Region.ready .any ops listed).contains i = true := by rw [hr]; simpa using hmem
          have hput : ∀ v, rd (a.put o.dst v) = updO (rd a) o.dst v := fun v => rd_putO a o.dst v (by rw [ha.size]; exact hdst)
          have hri : i ∈ Region.ready .any ops listed := by rw [hr]; exact hmem
          have hst : stillAt ops.toList i = true := by
            have := List.find?_some hf
            simp only [Bool.and_eq_true] at this
            exact this.2
          have hS : S w := by
            rcases hS with hS | hS
            · exact hS
            · exfalso
              have h1 := hS i hst
              have h0 := (mem_ready.1 hri).1
              rcases Nat.lt_or_ge i listed.size with h' | h'
              · simp [h'] at h0 h1; rw [h0] at h1; cases h1
              · simp [Array.getElem?_eq_none h'] at h1
          have hcl' := closedL_set hcl hri
          rcases gd_cases ha.size hgo hsk h with ⟨hw, hA⟩ | ⟨hw, hB⟩
          · obtain ⟨v, h1, h2⟩ := stillF_yields hA
            rw [ev_rd] at h1
            exact wpAnyZ_first ho (Region.noSelect_spec hsel) (fun c a w hp => absurd hp (hP c _ w)) (fun j hne hc => cov_waits hc hst (Ne.symm hne)) fuel listed a w (Region.free_spec ho hfree) hcl hri (.inl ⟨hw, h1⟩) hS (ih _ _ _ _ (ha.put o.dst v hdst hmd) (by rw [hput]; exact skw_keeps hsk) hcl' (.inl hS) (by rw [hput]; exact h2))
          · exact wpAnyZ_first ho (Region.noSelect_spec hsel) (fun c a w hp => absurd hp (hP c _ w)) (fun j hne hc => cov_waits hc hst (Ne.symm hne)) fuel listed a w (Region.free_spec ho hfree) hcl hri (.inr ⟨hw, rfl⟩) hS (ih _ _ _ _ (ha.put o.dst undef hdst hmd) (by rw [hput]; exact sks_keeps hsk) hcl' (.inl hS) (by rw [hput]; exact hB))
      | none =>
        rw [hf] at h
        simp only at h
        refine ⟨fun h0 => (by rw [hr] at h0; cases h0), fun i hi0 => ?_⟩
        have hi : i ∈ r :: rs := hr ▸ hi0
        have hcl' := closedL_set hcl hi0
        have hall : cov ops.toList i = true → ∀ j, stillAt ops.toList j = true → (listed.setIfInBounds i true).getD j false = true := fun hc j hj => by
          by_cases hji : j = i
          · subst hji
            have h0 := (mem_ready.1 hi0).1
            rcases Nat.lt_or_ge j listed.size with h' | h'
            · simp [h']
            · simp [Array.getElem?_eq_none h'] at h0
          · exact getD_set_true (waits_listed hcl (cov_waits hc hj hji) (ready_edges hi0))
        have hun : ∀ {A B : Prop}, unlessB (cov ops.toList i) A B → (cov ops.toList i = false → A) ∧ B ∧ (A ∨ cov ops.toList i = true) := by
          intro A B hu
          unfold unlessB at hu
          split at hu
          · rename_i e; exact ⟨fun e' => (by rw [e] at e'; cases e'), hu, .inr e⟩
          · exact ⟨fun _ => hu.1, hu.2, .inl hu.1⟩
        have hi' := allF_mem h i hi
        unfold wpOp
        cases ho : ops[i]? with
        | none => simp only [Array.getElem?_toList, ho] at hi'
        | some o =>
          simp only [Array.getElem?_toList, ho] at hi' ⊢
          obtain ⟨hop, hgo, hdst, hmd⟩ := facts i o ho
          have hput : ∀ v, rd (a.put o.dst v) = updO (rd a) o.dst v := fun v => rd_putO a o.dst v (by rw [ha.size]; exact hdst)
          rcases gd_cases ha.size hgo hsk hi' with ⟨hw, hA⟩ | ⟨hw, hB⟩
          · rw [if_pos hw]
            left
            have h1 := opF_next (ro := .draw) hop hA
            rw [ev_rd] at h1
            refine wp_of_next (nextv_mono ?_ h1)
            rintro v w' hu
            obtain ⟨u1, u2, u3⟩ := hun hu
            exact ⟨u1, ih _ _ _ _ (ha.put o.dst v hdst hmd) (by rw [hput]; exact skw_keeps hsk) hcl' (u3.imp id hall) (by rw [hput]; exact u2)⟩
          · rw [if_neg (by rw [hw]; simp)]
            obtain ⟨u1, u2, u3⟩ := hun hB
            exact ⟨u1, ih _ _ _ _ (ha.put o.dst undef hdst hmd) (by rw [hput]; exact sks_keeps hsk) hcl' (u3.imp id hall) (by rw [hput]; exact u2)⟩
end

/-! ### Code -/
def mods : Code → Nat → Bool
  | .region _ ops _, i => writes ops.toList i
  | .seq a b, i => mods a i || mods b i
  | .cond _ a b, i => mods a i || mods b i
  | .block _ c, i => mods c i
  | .loop c, i => mods c i
  | .scope c, i => mods c i
  | .rangeFunc .., _ => true
  | _, _ => false

def key : Code → Nat
  | .region id _ _ => id
  | .seq a _ => key a
  | .cond _ a _ => key a
  | .block _ c => key c
  | .loop c => key c
  | .scope c => key c
  | _ => 0

def thenE (K : Env → World → Prop) (Q : Exit → Env → World → Prop) : Exit → Env → World → Prop
  | .normal, ρ, w => K ρ w
  | e, ρ, w => Q e ρ w
def inB (id : Nat) (Q : Exit → Env → World → Prop) : Exit → Env → World → Prop
  | .exit id', ρ, w => match Nat.beq id' id with | true => Q .normal ρ w | false => Q (.exit id') ρ w
  | e, ρ, w => Q e ρ w
def over (m : Nat → Bool) (ρ g : Env) : Env := fun i => match m i with | true => g i | false => ρ i

/-- A loop: what holds at the head of each round of some slots and the world, and a measure that falls. -/
def loopF (L : List Nat) (s₀ : List Value) (w₀ : World) (B : Env → World → (List Value → World → Prop) → Prop) : Prop :=
  ∃ (I : List Value → World → Prop) (μ : List Value → World → Nat), I s₀ w₀ ∧ ∀ g w, I (L.map g) w → B g w fun s w' => I s w' ∧ μ s w' < μ (L.map g) w
/-- Where ways meet again: what holds there of some slots and the world. -/
def cutF (L : List Nat) (A : (List Value → World → Prop) → Prop) (B : Env → World → Prop) : Prop :=
  ∃ R : List Value → World → Prop, A R ∧ ∀ g w, R (L.map g) w → B g w

section
variable (P : Program) (ro : Md) (an : Nat → List Nat) (jn : Nat → Option (List Nat))
def vc : Code → (Exit → Env → World → Prop) → Env → World → Prop
  | .skip, Q, ρ, w => Q .normal ρ w
  | .label _, Q, ρ, w => Q .normal ρ w
  | .region _ ops false, Q, ρ, w => vcOps P ro ops.toList (Q .normal) ops.toList [] ρ w
  | .region _ ops true, Q, ρ, w => match ro.ro with | none => drawF P ops.toList ρ w (Q .normal) | some _ => False
  | .seq x y, Q, ρ, w =>
    match jn (key y) with
    | none => vc x (thenE (vc y Q) Q) ρ w
    | some L => cutF L (fun R => vc x (thenE (fun ρ' w' => R (L.map ρ') w') Q) ρ w) (fun g w' => vc y Q (over (mods x) ρ g) w')
  | .cond c x y, Q, ρ, w => cnd (ev ρ c) (vc x Q ρ w) (vc y Q ρ w)
  | .block id c, Q, ρ, w => vc c (inB id Q) ρ w
  | .loop c, Q, ρ, w => loopF (an (key c)) ((an (key c)).map ρ) w fun g w' C => vc c (thenE (fun ρ' w'' => C ((an (key c)).map ρ') w'') Q) (over (mods c) ρ g) w'
  | .exit id, Q, ρ, w => Q (.exit id) ρ w
  | .ret, Q, ρ, w => Q .ret ρ w
  | _, _, _, _ => False
end

/-- The slots told for a loop, for a meeting of ways, by the first region's number. -/
def jnL : List (Nat × List Nat) → Nat → Option (List Nat)
  | [], _ => none
  | (i, l) :: r, k => match Nat.beq i k with | true => some l | false => jnL r k
def anL (l : List (Nat × List Nat)) (k : Nat) : List Nat := match jnL l k with | some x => x | none => []

/-- What is asked of a code by looking alone. -/
def codeOk (P : Program) (n : Nat) : Code → Bool
  | .region _ ops _ => opsOk P n ops.toList && Region.noSelect ops
  | .seq a b => codeOk P n a && codeOk P n b
  | .cond _ a b => codeOk P n a && codeOk P n b
  | .block _ c => codeOk P n c
  | .loop c => codeOk P n c
  | _ => true

section
variable {P : Program} {ro : Md}

theorem over_self {m : Nat → Bool} {ρ g : Env} (h : ∀ i, m i = false → g i = ρ i) : over m ρ g = g := by
  funext i
  unfold over
  cases hi : m i with
  | true => rfl
  | false => exact (h i hi).symm

theorem At.trans {ds : List Deferred} {n : Nat} {m m' : Nat → Bool} {ρ₀ : Env} {a b : Act} (h : At ds n m ρ₀ a) (h' : At ds n m' (rd a) b) (hm : ∀ i, m' i = true → m i = true) : At ds n m ρ₀ b :=
  ⟨h'.size, h'.defers, fun i hi => by
    have hi' : m' i = false := by
      cases hx : m' i with
      | false => rfl
      | true => rw [hm i hx] at hi; cases hi
    rw [h'.keep i hi', h.keep i hi]⟩
theorem At.self {ds : List Deferred} {n : Nat} {m : Nat → Bool} {a : Act} (hs : a.tmps.size = n) (hd : a.defers = ds) : At ds n m (rd a) a := ⟨hs, hd, fun _ _ => rfl⟩

theorem vc_sound (hmix : P.follows .mixedOrders = true) {an : Nat → List Nat} {jn : Nat → Option (List Nat)} {ds : List Deferred} {n k : Nat} : ∀ (c : Code) (Q : Exit → Env → World → Prop) (a : Act) (w : World),
    codeOk P n c = true → a.tmps.size = n → a.defers = ds → vc P ro an jn c Q (rd a) w →
      c.wpIn (Wd ro.ro) k P (fun e a' w' => At ds n (mods c) (rd a) a' ∧ Q e (rd a') w') a w := by
  intro c
  induction c with
  | skip => intro Q a w _ hs hd h; exact wpIn_skip ⟨At.self hs hd, h⟩
  | label l => intro Q a w _ hs hd h; exact wpIn_label ⟨At.self hs hd, h⟩
  | exit id => intro Q a w _ hs hd h; exact wpIn_exit ⟨At.self hs hd, h⟩
  | ret => intro Q a w _ hs hd h; exact wpIn_ret ⟨At.self hs hd, h⟩
  | region id ops draw =>
    intro Q a w hok hs hd h
    simp only [codeOk, Bool.and_eq_true] at hok
    cases draw with
    | false =>
      refine wpIn_region ?_
      have h1 := vcOps_sound (P := P) (ro := ro) (n := n) (k := k) (m := mods (.region id ops false)) (ρ₀ := rd a) (ops := ops) (K := Q .normal)
        (Q := fun e a' w' => At ds n (mods (.region id ops false)) (rd a) a' ∧ Q e (rd a') w') (fun a' w' ha hk => ⟨ha, hk⟩) (fun i hi => hi) hok.1 ops.toList 0 (by simp) [] a w (At.self hs hd) (fun d hd => absurd hd (by simp)) h
      rw [List.range_eq_range', ← Array.length_toList]
      exact h1
    | true =>
      obtain ⟨r, yl⟩ := ro
      cases r with
      | some l => exact h.elim
      | none =>
        have h' : drawF P ops.toList (rd a) w (Q .normal) := h
        obtain ⟨S, hS, hv⟩ := h'
        refine wpIn_wide.2 (Code.wp_mono (Q := fun e a' w' => match e with | .normal => At ds n (mods (.region id ops true)) (rd a) a' ∧ Q .normal (rd a') w' | _ => False) ?_ ?_)
        · intro e a' w' hq
          cases e <;> first | exact hq | exact (hq : False).elim
        · refine wp_region_any hmix (wpAny_of_Z (S := S) (c := cov ops.toList) _ _ _ _ ?_)
          have h2 := vcH_sound (P := P) (n := n) (m := mods (.region id ops true)) (ρ₀ := rd a) (ops := ops) (K := Q .normal) (S := S)
            (Q := fun e a' w' => match e with | .normal => At ds n (mods (.region id ops true)) (rd a) a' ∧ Q .normal (rd a') w' | _ => False)
            (fun a' w' ha hk => ⟨ha, hk⟩) (fun i hi => hi) hok.1 hok.2 (fun c a w hp => hp) ops.size (Array.replicate ops.size false) [] a w.drew (At.self hs hd) (fun d hd => absurd hd (by simp)) (closedL_init _ _) (.inl hS)
          refine h2 ?_
          rw [Array.length_toList] at hv
          exact hv
  | seq x y ihx ihy =>
    intro Q a w hok hs hd h
    simp only [codeOk, Bool.and_eq_true] at hok
    have hmx : ∀ i, mods x i = true → mods (.seq x y) i = true := fun i hi => by simp [mods, hi]
    have hmy : ∀ i, mods y i = true → mods (.seq x y) i = true := fun i hi => by simp [mods, hi]
    refine wpIn_seq ?_
    simp only [vc] at h
    cases hj : jn (key y) with
    | none =>
      rw [hj] at h
      refine wpIn_mono (ihx _ a w hok.1 hs hd h) ?_
      rintro e a' w' ⟨ha, hq⟩
      cases e with
      | normal =>
        refine wpIn_mono (ihy Q a' w' hok.2 ha.size ha.defers hq) ?_
        rintro e a'' w'' ⟨ha', hq'⟩
        exact ⟨(At.self hs hd : At ds n (mods (.seq x y)) (rd a) a).trans ⟨ha'.size, ha'.defers, fun i hi => by
          simp only [mods, Bool.or_eq_false_iff] at hi
          rw [ha'.keep i hi.2, ha.keep i hi.1]⟩ (fun _ h => h), hq'⟩
      | _ => exact ⟨(At.self hs hd).trans ha hmx, hq⟩
    | some L =>
      rw [hj] at h
      obtain ⟨R, hA, hB⟩ := h
      refine wpIn_mono (ihx _ a w hok.1 hs hd hA) ?_
      rintro e a' w' ⟨ha, hq⟩
      cases e with
      | normal =>
        have h2 := hB (rd a') w' hq
        dsimp only at h2
        rw [over_self ha.keep] at h2
        refine wpIn_mono (ihy Q a' w' hok.2 ha.size ha.defers h2) ?_
        rintro e a'' w'' ⟨ha', hq'⟩
        exact ⟨(At.self hs hd : At ds n (mods (.seq x y)) (rd a) a).trans ⟨ha'.size, ha'.defers, fun i hi => by
          simp only [mods, Bool.or_eq_false_iff] at hi
          rw [ha'.keep i hi.2, ha.keep i hi.1]⟩ (fun _ h => h), hq'⟩
      | _ => exact ⟨(At.self hs hd).trans ha hmx, hq⟩
  | cond c x y ihx ihy =>
    intro Q a w hok hs hd h
    simp only [codeOk, Bool.and_eq_true] at hok
    have h' : cnd (ev (rd a) c) (vc P ro an jn x Q (rd a) w) (vc P ro an jn y Q (rd a) w) := h
    unfold cnd at h'
    cases hc : ev (rd a) c <;> simp only [hc] at h'
    case bool b =>
      have hc' : a.eval c = .bool b := by rw [← ev_rd]; exact hc
      refine wpIn_cond hc' ?_
      cases b with
      | true =>
        refine wpIn_mono (ihx Q a w hok.1 hs hd h') ?_
        rintro e a' w' ⟨ha, hq⟩
        exact ⟨(At.self hs hd).trans ha (fun i hi => by simp [mods, hi]), hq⟩
      | false =>
        refine wpIn_mono (ihy Q a w hok.2 hs hd h') ?_
        rintro e a' w' ⟨ha, hq⟩
        exact ⟨(At.self hs hd).trans ha (fun i hi => by simp [mods, hi]), hq⟩
  | block id c ih =>
    intro Q a w hok hs hd h
    refine wpIn_block (wpIn_mono (ih (inB id Q) a w hok hs hd h) ?_)
    rintro e a' w' ⟨ha, hq⟩
    cases e with
    | exit id' =>
      simp only [inB] at hq
      simp only [Exit.inBlock]
      by_cases hid : id' = id
      · subst hid
        rw [if_pos rfl]
        rw [Nat.beq_refl] at hq
        exact ⟨ha, hq⟩
      · rw [if_neg hid]
        have hb : Nat.beq id' id = false := by
          cases hb : Nat.beq id' id with
          | false => rfl
          | true => exact absurd (Nat.eq_of_beq_eq_true hb) hid
        rw [hb] at hq
        exact ⟨ha, hq⟩
    | _ => exact ⟨ha, hq⟩
  | loop c ih =>
    intro Q a w hok hs hd h
    obtain ⟨I, μ, h0, hr⟩ := h
    refine wpIn_loop (fun a' w' => At ds n (mods c) (rd a) a' ∧ I ((an (key c)).map (rd a')) w') (fun a' w' => μ ((an (key c)).map (rd a')) w') ⟨At.self hs hd, h0⟩ ?_
    rintro a' w' ⟨ha, hI⟩
    have h2 := hr (rd a') w' hI
    dsimp only at h2
    rw [over_self ha.keep] at h2
    refine wpIn_mono (ih _ a' w' hok ha.size ha.defers h2) ?_
    rintro e a'' w'' ⟨ha', hq⟩
    have hat : At ds n (mods c) (rd a) a'' := ha.trans ha' (fun _ h => h)
    cases e with
    | normal => exact ⟨⟨hat, hq.1⟩, hq.2⟩
    | _ => exact ⟨hat, hq⟩
  | scope c ih => intro Q a w _ _ _ h; exact h.elim
  | goto l => intro Q a w _ _ _ h; exact h.elim
  | rangeFunc => intro Q a w _ _ _ h; exact h.elim
  | refuse why => intro Q a w _ _ _ h; exact h.elim

/-! ### A function -/
def tup : List Value → Value
  | [v] => v
  | vs => .tuple vs.toArray
def resTmps : List ResultVar → Option (List Tmp)
  | [] => some []
  | .tmp t :: r => (resTmps r).map (t :: ·)
  | .cell .. :: _ => none
/-- The results, some of them in memory. -/
def resI (ρ : Env) (rs : List ResultVar) : List (Value ⊕ (Value × TypeId)) := rs.map fun | .tmp t => .inl (ρ t) | .cell a t => .inr (ρ a, t)
def resSem : List (Value ⊕ (Value × TypeId)) → Sem (List Value)
  | [] => pure []
  | .inl v :: r => do pure (v :: (← resSem r))
  | .inr (a, t) :: r => do
    let v ← loadVar t (← asAddr a)
    pure (v :: (← resSem r))
def retC (P : Program) (items : List (Value ⊕ (Value × TypeId))) (w : World) (R : Value → World → Prop) : Prop := ∃ vs, (resSem items).run P w = .ok vs w ∧ R (tup vs) w
def retF (P : Program) (rs : List ResultVar) (ρ : Env) (w : World) (R : Value → World → Prop) : Prop :=
  match resTmps rs with
  | some ts => R (tup (ts.map ρ)) w
  | none => retC P (resI ρ rs) w R
def finQ (P : Program) (rs : List ResultVar) (R : Value → World → Prop) : Exit → Env → World → Prop
  | .normal, ρ, w => retF P rs ρ w R
  | .ret, ρ, w => retF P rs ρ w R
  | _, _, _ => False
/-- The frame at the begin. -/
def env0 (args : List Value) : Env := fun i => args.getD i undef

theorem bind_assoc' {α β γ : Type} (x : Sem α) (f : α → Sem β) (g : β → Sem γ) : ((x >>= f) >>= g) = x >>= fun a => f a >>= g := by
  show (x.bind f).bind g = x.bind fun a => (f a).bind g
  induction x with
  | frozen a k ih => simp only [Sem.bind]; congr 1; funext b; exact ih b
  | _ => simp_all [Sem.bind]
theorem mapM_resSem {ρ : Env} {f : ResultVar → Sem Value} (h1 : ∀ t, f (.tmp t) = pure (ρ t)) (h2 : ∀ a t, f (.cell a t) = (do loadVar t (← asAddr (ρ a)))) (rs : List ResultVar) : rs.mapM f = resSem (resI ρ rs) := by
  induction rs with
  | nil => rfl
  | cons r rs ih =>
    rw [List.mapM_cons, ih]
    cases r with
    | tmp t => rw [h1]; rfl
    | cell a t => rw [h2]; exact bind_assoc' _ _ _

theorem results_run {fn : Func} {tmps : Array Value} {w : World} {vs : List Value} (h : (resSem (resI (fun i => tmps.getD i undef) fn.results.toList)).run P w = .ok vs w) :
    (results fn tmps).run P w = .ok (tup vs) w := by
  unfold results
  have h1 : fn.results = fn.results.toList.toArray := by simp
  rw [h1, List.mapM_toArray, mapM_resSem (ρ := fun i => tmps.getD i undef) (fun t => rfl) (fun a t => rfl)]
  simp only [Sem.run_bind, Sem.run_map, h, Result.andThen_ok]
  cases vs with
  | nil => rfl
  | cons v vs =>
    cases vs with
    | nil => rfl
    | cons u us => rfl

theorem resTmps_run {rs : List ResultVar} {ts : List Tmp} {ρ : Env} {w : World} (h : resTmps rs = some ts) : (resSem (resI ρ rs)).run P w = .ok (ts.map ρ) w := by
  induction rs generalizing ts with
  | nil => simp only [resTmps, Option.some.injEq] at h; subst h; rfl
  | cons r rs ih =>
    cases r with
    | cell a t => cases h
    | tmp t =>
      simp only [resTmps, Option.map_eq_some_iff] at h
      obtain ⟨ts', h1, rfl⟩ := h
      show (do pure (ρ t :: (← resSem (resI ρ rs))) : Sem (List Value)).run P w = _
      simp only [Sem.run_bind, ih h1, Result.andThen_ok]
      rfl

/-- A function's code. -/
def bodyOf (fn : Func) : Code := fn.body.getD .skip

/-- The formula of a function's code suffices for its call. -/
theorem calls_of_vc {f : FuncId} {fn : Func} {args : List Value} {w : World} {R : Value → World → Prop} {an : Nat → List Nat} {jn : Nat → Option (List Nat)}
    (hmix : P.follows .mixedOrders = true) (hf : P.funcs[f]? = some fn) (hb : fn.body.isSome = true) (hok : codeOk P fn.ntmps (bodyOf fn) = true) (hargs : args.length ≤ fn.ntmps)
    (h : vc P .plain an jn (bodyOf fn) (finQ P fn.results.toList R) (env0 args) w) : cl P f args.toArray w R := by
  have hb : fn.body = some (bodyOf fn) := by
    unfold bodyOf
    cases hc : fn.body with
    | none => rw [hc] at hb; cases hb
    | some c => rfl
  refine (callsIn_wide (n := 0)).1 (callsIn_of_wp hf hb trivial ?_)
  have hrd : rd { tmps := args.toArray ++ Array.replicate (fn.ntmps - args.toArray.size) undef, defers := [] } = env0 args := by
    funext i
    simp only [rd, env0, Array.getD_eq_getD_getElem?, Array.getElem?_append, List.size_toArray, List.getD_eq_getElem?_getD]
    split
    · simp
    · rename_i hlt
      rw [List.getElem?_eq_none (Nat.le_of_not_lt hlt), Array.getElem?_replicate]
      split <;> rfl
  refine wpIn_mono (vc_sound (ro := .plain) (n := fn.ntmps) (k := 0) (an := an) (jn := jn) hmix (bodyOf fn) (finQ P fn.results.toList R) _ w hok (by simp; omega) rfl (by rw [hrd]; exact h)) ?_
  rintro e a' w' ⟨ha, hq⟩
  have fin : retF P fn.results.toList (rd a') w' R → bodyPost P fn (fun e w' => ∃ v, e = .returned v ∧ R v w') .ret a' w' := by
    intro hr
    unfold retF at hr
    cases hts : resTmps fn.results.toList with
    | some ts =>
      rw [hts] at hr
      exact ⟨ha.defers, _, results_run (resTmps_run hts), _, rfl, hr⟩
    | none =>
      rw [hts] at hr
      obtain ⟨vs, h1, h2⟩ := hr
      exact ⟨ha.defers, _, results_run h1, _, rfl, h2⟩
  cases e with
  | normal => exact fin hq
  | ret => exact fin hq
  | _ => exact hq.elim
end
end Go.Sh
