/- Ranges over a function: a function whose body holds one, and the calls of 'yield'. Nothing of any one program stands here. -/
import Derived.Test.YtppefblkmgihoaaDoorMem
import Derived.RangeFuncFrom
set_option linter.unusedVariables false
set_option linter.unusedSimpArgs false
namespace Go.Sh
open Go Go.RowKit

/-- A frame that holds just this. -/
def mkAct (n : Nat) (ρ : Env) : Act := { tmps := ((List.range n).map ρ).toArray, defers := [] }
theorem act_mk {a : Act} {n : Nat} {ρ : Env} (hs : a.tmps.size = n) (hd : a.defers = []) (hr : ∀ i, i < n → rd a i = ρ i) : a = mkAct n ρ := by
  obtain ⟨t, d⟩ := a
  simp only at hs hd
  subst hd
  unfold mkAct
  congr 1
  apply Array.ext
  · simp [hs]
  · intro i h1 h2
    have := hr i (by omega)
    simp only [rd, Array.getD, h1, dif_pos] at this
    simp only [List.getElem_toArray, List.getElem_map, List.getElem_range]
    exact this
theorem rd_mk {n : Nat} {ρ : Env} {i : Nat} (h : i < n) : rd (mkAct n ρ) i = ρ i := by
  simp [rd, mkAct, Array.getD_eq_getD_getElem?, h]

/-- The parts of a range over a function. -/
structure Rp where
  g : Operand
  ps : Array Tmp
  as : Code
  bd : Code
def isR : Code → Option Rp
  | .block _ (.rangeFunc g ps as bd) => some ⟨g, ps, as, bd⟩
  | _ => none
/-- What stands ahead of the range, the range, what stands behind it. -/
def cutR : Code → Option (List Code × Rp × List Code)
  | .seq x y =>
    match isR x with
    | some r => some ([], r, [y])
    | none =>
      match isR y with
      | some r => some ([x], r, [])
      | none =>
        match cutR x with
        | some (p, r, s) => some (p, r, s ++ [y])
        | none => match cutR y with | some (p, r, s) => some (x :: p, r, s) | none => none
  | _ => none
section
variable {P : Program} {F : Fence} {n : Nat}
/-- Code by code. -/
def wpL (F : Fence) (n : Nat) (P : Program) (K : Act → World → Prop) (Q : Exit → Act → World → Prop) : List Code → Act → World → Prop
  | [], a, w => K a w
  | c :: r, a, w => c.wpIn F n P (Exit.then (wpL F n P K Q r) Q) a w
theorem wpL_mono {K K' : Act → World → Prop} {Q Q' : Exit → Act → World → Prop} (hK : ∀ a w, K a w → K' a w) (hQ : ∀ e a w, e ≠ .normal → Q e a w → Q' e a w) : ∀ {l : List Code} {a : Act} {w : World}, wpL F n P K Q l a w → wpL F n P K' Q' l a w := by
  intro l
  induction l with
  | nil => intro a w h; exact hK _ _ h
  | cons c r ih =>
    intro a w h
    refine wpIn_mono h ?_
    rintro e a w hq
    cases e <;> first | exact ih hq | exact hQ _ _ _ (by simp) hq
theorem wpL_app {K : Act → World → Prop} {Q : Exit → Act → World → Prop} {m : List Code} : ∀ {l : List Code} {a : Act} {w : World}, wpL F n P K Q (l ++ m) a w → wpL F n P (wpL F n P K Q m) Q l a w := by
  intro l
  induction l with
  | nil => intro a w h; exact h
  | cons c r ih =>
    intro a w h
    refine wpIn_mono h ?_
    rintro e a w hq
    cases e <;> first | exact ih hq | exact hq
def behindR (F : Fence) (n : Nat) (P : Program) (s : List Code) (Q : Exit → Act → World → Prop) : Exit → Act → World → Prop
  | .normal, a, w => wpL F n P (Q .normal) Q s a w
  | .ret, a, w => Q .ret a w
  | _, _, _ => False
def rangeR (F : Fence) (n : Nat) (P : Program) (r : Rp) (s : List Code) (Q : Exit → Act → World → Prop) (a : Act) (w : World) : Prop := (Code.rangeFunc r.g r.ps r.as r.bd).wpIn F n P (behindR F n P s Q) a w
theorem isR_wp {c : Code} {r : Rp} (h : isR c = some r) {s : List Code} {Q : Exit → Act → World → Prop} {a : Act} {w : World} (hp : rangeR F n P r s Q a w) : c.wpIn F n P (Exit.then (wpL F n P (Q .normal) Q s) Q) a w := by
  unfold isR at h
  split at h
  · rename_i g ps as bd
    simp only [Option.some.injEq] at h
    subst h
    refine wpIn_block (wpIn_mono hp ?_)
    rintro e a w hq
    cases e <;> first | exact hq | exact hq.elim
  · cases h
theorem cutR_wp : ∀ {c : Code} {p s : List Code} {r : Rp} {Q : Exit → Act → World → Prop} {a : Act} {w : World}, cutR c = some (p, r, s) → wpL F n P (rangeR F n P r s Q) Q p a w → c.wpIn F n P Q a w := by
  intro c
  induction c with
  | seq x y ihx ihy =>
    intro p s r Q a w h hp
    simp only [cutR] at h
    cases hx : isR x with
    | some r' =>
      rw [hx] at h
      simp only [Option.some.injEq, Prod.mk.injEq] at h
      obtain ⟨rfl, rfl, rfl⟩ := h
      refine wpIn_seq (wpIn_mono (isR_wp hx hp) ?_)
      rintro e a w hq
      cases e with
      | normal => exact wpIn_mono hq (by rintro e a w hq; cases e <;> exact hq)
      | _ => exact hq
    | none =>
      rw [hx] at h
      simp only at h
      cases hy : isR y with
      | some r' =>
        rw [hy] at h
        simp only [Option.some.injEq, Prod.mk.injEq] at h
        obtain ⟨rfl, rfl, rfl⟩ := h
        refine wpIn_seq (wpIn_mono hp ?_)
        rintro e a w hq
        cases e with
        | normal => exact wpIn_mono (isR_wp hy hq) (by rintro e a w hq; cases e <;> exact hq)
        | _ => exact hq
      | none =>
        rw [hy] at h
        simp only at h
        cases hcx : cutR x with
        | some q =>
          obtain ⟨p', r', s'⟩ := q
          rw [hcx] at h
          simp only [Option.some.injEq, Prod.mk.injEq] at h
          obtain ⟨rfl, rfl, rfl⟩ := h
          refine wpIn_seq (ihx hcx (wpL_mono ?_ ?_ hp))
          · rintro a w hq
            refine wpIn_mono hq ?_
            rintro e a w hq
            cases e with
            | normal =>
              refine wpL_mono ?_ ?_ (wpL_app hq)
              · rintro a w hq; exact wpIn_mono hq (by rintro e a w hq; cases e <;> exact hq)
              · rintro e a w hne hq; cases e <;> first | exact absurd rfl hne | exact hq
            | ret => exact hq
            | _ => exact hq.elim
          · rintro e a w hne hq; cases e <;> first | exact absurd rfl hne | exact hq
        | none =>
          rw [hcx] at h
          simp only at h
          cases hc : cutR y with
          | none => rw [hc] at h; cases h
          | some q =>
            obtain ⟨p', r', s'⟩ := q
            rw [hc] at h
            simp only [Option.some.injEq, Prod.mk.injEq] at h
            obtain ⟨rfl, rfl, rfl⟩ := h
            refine wpIn_seq (wpIn_mono hp ?_)
            rintro e a w hq
            cases e with
            | normal => exact ihy hc hq
            | _ => exact hq
  | _ => intro p s r Q a w h; simp [cutR] at h
end

/-! ### The formula -/
section
variable (P : Program) (md : Md) (an : Nat → List Nat) (jn : Nat → Option (List Nat))
def vcL (K : Env → World → Prop) (Q : Exit → Env → World → Prop) : List Code → Env → World → Prop
  | [], ρ, w => K ρ w
  | c :: r, ρ, w => vc P md an jn c (thenE (vcL K Q r) Q) ρ w
end
def updL (ρ : Env) : List (Tmp × Value) → Env
  | [] => ρ
  | (d, v) :: r => updL (upd ρ d v) r

section
variable {P : Program} {md : Md} {an : Nat → List Nat} {jn : Nat → Option (List Nat)}
theorem vcL_sound (hmix : P.follows .mixedOrders = true) {ds : List Deferred} {n k : Nat} {K : Env → World → Prop} {Q : Exit → Env → World → Prop} {K' : Act → World → Prop} {Q' : Exit → Act → World → Prop}
    (hK : ∀ a w, a.tmps.size = n → a.defers = ds → K (rd a) w → K' a w) (hQ : ∀ e a w, e ≠ .normal → a.tmps.size = n → a.defers = ds → Q e (rd a) w → Q' e a w) :
    ∀ (l : List Code) (a : Act) (w : World), l.all (codeOk P n) = true → a.tmps.size = n → a.defers = ds → vcL P md an jn K Q l (rd a) w → wpL (Wd md.ro) k P K' Q' l a w := by
  intro l
  induction l with
  | nil => intro a w _ hs hd h; exact hK a w hs hd h
  | cons c r ih =>
    intro a w hok hs hd h
    simp only [List.all_cons, Bool.and_eq_true] at hok
    refine wpIn_mono (vc_sound (ro := md) (n := n) (k := k) (ds := ds) hmix c _ a w hok.1 hs hd h) ?_
    rintro e a' w' ⟨ha, hq⟩
    cases e <;> first | exact ih a' w' hok.2 ha.size ha.defers hq | exact hQ _ a' w' (by simp) ha.size ha.defers hq

theorem rd_round (n : Nat) : ∀ (l : List (Tmp × Value)) (t : Array Value) (ds : List Deferred), t.size = n → (∀ q ∈ l, q.1 < n) → (l.foldl (fun t q => t.setIfInBounds q.1 q.2) t).size = n ∧ rd { tmps := l.foldl (fun t q => t.setIfInBounds q.1 q.2) t, defers := [] } = updL (rd { tmps := t, defers := ds }) l := by
  intro l
  induction l with
  | nil => intro t ds hs _; exact ⟨hs, rfl⟩
  | cons q r ih =>
    intro t ds hs hq
    obtain ⟨d, v⟩ := q
    have h1 : d < n := hq (d, v) (by simp)
    have h2 := ih (t.setIfInBounds d v) ds (by simpa using hs) (fun q hq' => hq q (by simp [hq']))
    refine ⟨h2.1, ?_⟩
    simp only [List.foldl_cons, updL]
    rw [h2.2]
    congr 1
    have := rd_put { tmps := t, defers := ds } (d := d) v (by rw [hs]; exact h1)
    exact this

/-- The assignment to a range's variables, where it is nothing but moves. -/
def asgL : List Oper → Env → Env
  | [], ρ => ρ
  | o :: r, ρ => asgL r (match o.op with | .assign x => updO ρ o.dst (ev ρ x) | .move x => updO ρ o.dst (ev ρ x) | _ => ρ)
def asgE : Code → Env → Env
  | .region _ ops _, ρ => asgL ops.toList ρ
  | _, ρ => ρ
def asgOk : Code → Bool
  | .region _ ops false => ops.toList.all fun o => o.guard.isNone && (match o.op with | .assign _ => true | .move _ => true | _ => false)
  | .skip => true
  | _ => false
theorem asgL_vc {md : Md} {K : Env → World → Prop} {all : List Oper} {w : World} : ∀ (l : List Oper) (sk : List Nat) (ρ : Env), l.all (fun o => o.guard.isNone && (match o.op with | .assign _ => true | .move _ => true | _ => false)) = true → K (asgL l ρ) w → vcOps P md all K l sk ρ w := by
  intro l
  induction l with
  | nil => intro sk ρ _ h; exact h
  | cons o r ih =>
    intro sk ρ hok h
    simp only [List.all_cons, Bool.and_eq_true] at hok
    obtain ⟨⟨hg, hop⟩, hr⟩ := hok
    obtain ⟨dst, op, ty, pos, after, guard⟩ := o
    simp only [Option.isNone_iff_eq_none] at hg
    subst hg
    cases op <;> simp only at hop <;> first | cases hop | skip
    all_goals
      simp only [vcOps, gd, opF]
      exact ih _ _ hr h
theorem asgE_vc {md : Md} {K : Env → World → Prop} {Q : Exit → Env → World → Prop} {c : Code} {ρ : Env} {w : World} (hok : asgOk c = true) (h : K (asgE c ρ) w) : vc P md an jn c (thenE K Q) ρ w := by
  unfold asgOk at hok
  split at hok
  · exact asgL_vc _ _ _ hok h
  · exact h
  · cases hok
theorem asgL_over (n : Nat) : ∀ (l : List Oper) (ρ : Env), l.all (fun o => match o.dst with | some d => decide (d < n) | none => true) = true → ∀ i, n ≤ i → asgL l ρ i = ρ i := by
  intro l
  induction l with
  | nil => intro ρ _ i _; rfl
  | cons o r ih =>
    intro ρ hok i hi
    simp only [List.all_cons, Bool.and_eq_true] at hok
    simp only [asgL]
    rw [ih _ hok.2 i hi]
    have hd : ∀ v, updO ρ o.dst v i = ρ i := fun v => by
      cases hd : o.dst with
      | none => rfl
      | some d =>
        have h1 := hok.1
        rw [hd] at h1
        simp only [decide_eq_true_eq] at h1
        exact upd_other _ _ (Nat.ne_of_gt (Nat.lt_of_lt_of_le h1 hi))
    obtain ⟨dst, op, ty, pos, after, guard⟩ := o
    cases op <;> first | exact hd _ | rfl

/-- What is asked of a range over a function at the world w, where each round is told one value. K: behind it, where all have come; Kr: where a round has returned; each is told the block of the rounds' deferred calls. -/
structure RfQ (P : Program) (w : World) (gv : Value) (B : Nat → Value → World → (Exit → World → Prop) → Prop) (K Kr : Nat → World → Prop) {α : Type} (gf : FuncId) (lb : Array Value) (enc : α → Value) (Kp : World → World → Prop) (S Sp : List α → Prop) (N : Nat) (I Ix : List α → World → Prop) : Prop where
  hg : gv = .func (.func gf) #[] lb
  ok : callOk P gf = true
  seq : SeqStopsK (Wd none) 7 P gf lb (fun x => #[enc x]) Kp S Sp N w
  trans : ∀ {A B C : World}, Kp A B → Kp B C → Kp A C
  book : ∀ (W : World) (l : Nat) (o o' : Obj), w.heap.size ≤ l → W.heap[l]? = some o → o.isCells = false → o.isWalk = false → Kp W (W.putObj l o')
  own : OwnFrom w.heap.size I
  ownx : OwnFrom w.heap.size Ix
  start : I [] w
  body : ∀ (l : Nat) (pre : List α) (x : α) (W : World), I pre W → pre.length < N → B l (enc x) W (fun e W' => match e with | .normal => KeepsOthers W W' ∧ Kp W W' ∧ I (pre ++ [x]) W' | .ret => KeepsOthers W W' ∧ Ix (pre ++ [x]) W' | _ => False)
  done : ∀ (D : Nat) (xs : List α) (W : World), w.heap.size ≤ D → S xs → I xs W → W.heap[D]? = some (.deferred (some [])) → K D W
  stop : ∀ (D : Nat) (pre : List α) (W : World), w.heap.size ≤ D → Sp pre → Ix pre W → W.heap[D]? = some (.deferred (some [])) → Kr D W
def rfE1 (P : Program) (w : World) (gv : Value) (B : Nat → Value → World → (Exit → World → Prop) → Prop) (K Kr : Nat → World → Prop) : Prop :=
  ∃ (α : Type) (gf : FuncId) (lb : Array Value) (enc : α → Value) (Kp : World → World → Prop) (S Sp : List α → Prop) (N : Nat) (I Ix : List α → World → Prop), RfQ P w gv B K Kr gf lb enc Kp S Sp N I Ix

theorem rfE1_sound (hmix : P.follows .mixedOrders = true) {n : Nat} {r : Rp} {a : Act} {w : World} {K Kr : Nat → World → Prop} {p : Tmp} (hp : r.ps = #[p])
    (h : rfE1 P w (ev (rd a) r.g) (fun l x W Q => vc P ⟨some l, true⟩ an jn r.bd (fun e _ W' => Q e W') (asgE r.as (upd (rd a) p x)) W) K Kr) (hs : a.tmps.size = n) (hd : a.defers = []) (hpn : p < n) (h1 : codeOk P n r.as = true) (h1' : asgOk r.as = true) (h2 : codeOk P n r.bd = true) {Q : Exit → Act → World → Prop}
    (hK : ∀ D W, K D W → Q .normal { a with defers := { target := .collected D, args := #[] } :: a.defers } W) (hKr : ∀ D W, Kr D W → Q .ret { a with defers := { target := .collected D, args := #[] } :: a.defers } W) :
    (Code.rangeFunc r.g r.ps r.as r.bd).wpIn (Wd none) 8 P Q a w := by
  obtain ⟨α, gf, lb, enc, Kp, S, Sp, N, I, Ix, h⟩ := h
  rw [hp]
  have hz : ∀ i, n ≤ i → rd a i = undef := fun i hi => by
    simp only [rd, Array.getD_eq_getD_getElem?]
    rw [Array.getElem?_eq_none (by omega)]; rfl
  have hround : ∀ x, ((#[p].zip #[enc x]).foldl (fun t (p, v) => t.setIfInBounds p v) a.tmps).size = n ∧ rd { tmps := (#[p].zip #[enc x]).foldl (fun t (p, v) => t.setIfInBounds p v) a.tmps, defers := [] } = upd (rd a) p (enc x) := by
    intro x
    have h3 := rd_round n [(p, enc x)] a.tmps a.defers hs (fun q hq => by simp only [List.mem_singleton] at hq; subst hq; exact hpn)
    have e : (#[p].zip #[enc x]) = #[(p, enc x)] := by simp
    rw [e, ← Array.foldl_toList]
    exact h3
  have hvan : ∀ x i, n ≤ i → asgE r.as (upd (rd a) p (enc x)) i = undef := fun x i hi => by
    have e1 : upd (rd a) p (enc x) i = undef := by rw [upd_other _ _ (Nat.ne_of_gt (Nat.lt_of_lt_of_le hpn hi))]; exact hz i hi
    cases hc : r.as with
    | region id ops b =>
      rw [hc] at h1
      simp only [codeOk, Bool.and_eq_true] at h1
      show asgL _ _ i = _
      rw [asgL_over n _ _ ?_ i hi, e1]
      have := h1.1
      simp only [opsOk, List.all_eq_true] at this ⊢
      intro o ho
      have := this o ho
      simp only [operOk, Bool.and_eq_true] at this
      exact this.1.1.1
    | _ => exact e1
  refine wpIn_rangeFunc_ownF (F := Wd none) (n := 8) rfl (by omega) (gf := gf) (lb := lb) ?_ trivial (fun args w => run_callFunc h.ok) h.seq h.trans h.book (Below.refl _ _) (fun _ => rfl) I (fun c pre W => c = .ret ∧ Ix pre W) h.own ?_ h.start (fun x => mkAct n (asgE r.as (upd (rd a) p (enc x)))) ?_ ?_ ?_ ?_
  · rw [← ev_rd]; exact h.hg
  · intro c s W W' row hx hg hr
    exact ⟨hx.1, h.ownx s W W' row hx.2 hg hr⟩
  · intro l x W K' hK'
    have h4 := vc_sound (P := P) (ro := ⟨some l, true⟩) (an := an) (jn := jn) (n := n) (k := 8 - 1 - 1) (ds := []) hmix r.as (thenE (fun ρ' W' => ρ' = asgE r.as (upd (rd a) p (enc x)) ∧ W' = W) (fun _ _ _ => False)) { tmps := (#[p].zip #[enc x]).foldl (fun t (p, v) => t.setIfInBounds p v) a.tmps, defers := [] } W h1 (hround x).1 rfl (by rw [(hround x).2]; exact asgE_vc h1' ⟨rfl, rfl⟩)
    refine wpIn_mono h4 ?_
    rintro e a' w' ⟨ha, hq⟩
    cases e with
    | normal =>
      obtain ⟨hq1, rfl⟩ := hq
      rw [act_mk ha.size ha.defers (fun i _ => congrFun hq1 i)]
      exact hK'
    | _ => exact hq.elim
  · intro l pre x W hI hN
    have hrd : rd (mkAct n (asgE r.as (upd (rd a) p (enc x)))) = asgE r.as (upd (rd a) p (enc x)) := by
      funext i
      rcases Nat.lt_or_ge i n with hi | hi
      · exact rd_mk hi
      · rw [hvan x i hi]
        simp [rd, mkAct, Array.getD_eq_getD_getElem?, List.getElem?_range, Nat.not_lt.2 hi]
    have h4 := vc_sound (P := P) (ro := ⟨some l, true⟩) (an := an) (jn := jn) (n := n) (k := 8 - 1 - 1) (ds := []) hmix r.bd _ (mkAct n (asgE r.as (upd (rd a) p (enc x)))) W h2 (by simp [mkAct]) rfl (by rw [hrd]; exact h.body l pre x W hI hN)
    refine wpIn_mono h4 ?_
    rintro e a' w' ⟨ha, hq⟩
    cases e with
    | normal => exact hq
    | ret => exact ⟨hq.1, rfl, hq.2⟩
    | _ => exact hq.elim
  · intro D xs W hD hS hI hW
    exact hK D W (h.done D xs W hD hS hI hW)
  · rintro D c pre W hD hSp ⟨rfl, hIx⟩ hW
    exact wpIn_ret (hKr D W (h.stop D pre W hD hSp hIx hW))

/-! ### A function whose body holds one -/
def finV (D : Nat) (w : World) (K : World → Prop) : Prop := w.heap[D]? = some (.deferred (some [])) ∧ K (w.put D (.deferred none))
def finD (P : Program) (rs : List ResultVar) (D : Nat) (R : Value → World → Prop) : Exit → Env → World → Prop
  | .normal, ρ, w => w.heap[D]? = some (.deferred (some [])) ∧ retF P rs ρ (w.put D (.deferred none)) R
  | .ret, ρ, w => w.heap[D]? = some (.deferred (some [])) ∧ retF P rs ρ (w.put D (.deferred none)) R
  | _, _, _ => False
def okR (P : Program) (n : Nat) (p : List Code) (r : Rp) (s : List Code) : Bool := p.all (codeOk P n) && s.all (codeOk P n) && codeOk P n r.as && codeOk P n r.bd && asgOk r.as

theorem retF_run {fn : Func} {a : Act} {w : World} {R : Value → World → Prop} (h : retF P fn.results.toList (rd a) w R) : ∃ v, (results fn a.tmps).run P w = .ok v w ∧ R v w := by
  unfold retF at h
  cases hts : resTmps fn.results.toList with
  | some ts => rw [hts] at h; exact ⟨_, results_run (resTmps_run hts), h⟩
  | none =>
    rw [hts] at h
    obtain ⟨vs, h1, h2⟩ := h
    exact ⟨_, results_run h1, h2⟩

def pOf (c : Code) : List Code := match cutR c with | some (p, _, _) => p | none => []
def rOf (c : Code) : Rp := match cutR c with | some (_, r, _) => r | none => ⟨.const undef, #[], .skip, .skip⟩
def sOf (c : Code) : List Code := match cutR c with | some (_, _, s) => s | none => []
theorem calls_of_vcR {f : FuncId} {fn : Func} {args : List Value} {w : World} {R : Value → World → Prop} {t : Tmp}
    (hmix : P.follows .mixedOrders = true) (hf : P.funcs[f]? = some fn) (hb : fn.body.isSome = true) (hc : (cutR (bodyOf fn)).isSome = true) (hok : okR P fn.ntmps (pOf (bodyOf fn)) (rOf (bodyOf fn)) (sOf (bodyOf fn)) = true) (ht : (rOf (bodyOf fn)).ps = #[t]) (htn : t < fn.ntmps) (hargs : args.length ≤ fn.ntmps)
    (h : vcL P .plain an jn (fun ρ w => rfE1 P w (ev ρ (rOf (bodyOf fn)).g) (fun l x W Q => vc P ⟨some l, true⟩ an jn (rOf (bodyOf fn)).bd (fun e _ W' => Q e W') (asgE (rOf (bodyOf fn)).as (upd ρ t x)) W) (fun D W => vcL P .plain an jn (finD P fn.results.toList D R .normal) (finD P fn.results.toList D R) (sOf (bodyOf fn)) ρ W) (fun D W => finD P fn.results.toList D R .ret ρ W)) (finQ P fn.results.toList R) (pOf (bodyOf fn)) (env0 args) w) : cl P f args.toArray w R := by
  have hc : cutR (bodyOf fn) = some (pOf (bodyOf fn), rOf (bodyOf fn), sOf (bodyOf fn)) := by
    unfold pOf rOf sOf
    cases hq : cutR (bodyOf fn) with
    | none => rw [hq] at hc; cases hc
    | some q => rfl
  generalize pOf (bodyOf fn) = p at *
  generalize rOf (bodyOf fn) = r at *
  generalize sOf (bodyOf fn) = s at *
  have hb : fn.body = some (bodyOf fn) := by
    unfold bodyOf
    cases hc : fn.body with
    | none => rw [hc] at hb; cases hb
    | some c => rfl
  simp only [okR, Bool.and_eq_true] at hok
  obtain ⟨⟨⟨⟨hp, hs⟩, has⟩, hbd⟩, hps⟩ := hok
  refine (callsIn_wide (n := 8)).1 (callsIn_of_wp_marks hf hb trivial (cutR_wp (F := Wd none) hc ?_))
  have hrd : rd { tmps := args.toArray ++ Array.replicate (fn.ntmps - args.toArray.size) undef, defers := [] } = env0 args := by
    funext i
    simp only [rd, env0, Array.getD_eq_getD_getElem?, Array.getElem?_append, List.size_toArray, List.getD_eq_getElem?_getD]
    split
    · simp
    · rename_i hlt
      rw [List.getElem?_eq_none (Nat.le_of_not_lt hlt), Array.getElem?_replicate]
      split <;> rfl
  have fin : ∀ (a : Act) (w : World), a.defers = [] → retF P fn.results.toList (rd a) w R → LeavesInM (Wd none) 8 P fn a.tmps (fun e w' => ∃ v, e = .returned v ∧ R v w') a.defers .returning w := by
    intro a w hd hr
    rw [hd]
    obtain ⟨v, h1, h2⟩ := retF_run hr
    exact ⟨v, h1, v, rfl, h2⟩
  have finM : ∀ (D : Nat) (a : Act) (w : World), a.defers = [{ target := .collected D, args := #[] }] → w.heap[D]? = some (.deferred (some [])) ∧ retF P fn.results.toList (rd a) (w.put D (.deferred none)) R → LeavesInM (Wd none) 8 P fn a.tmps (fun e w' => ∃ v, e = .returned v ∧ R v w') a.defers .returning w := by
    intro D a w hd ⟨hD, hr⟩
    rw [hd]
    refine ⟨by simp, .inl ⟨D, _, rfl, run_takeDeferred hD, ?_⟩⟩
    obtain ⟨v, h1, h2⟩ := retF_run hr
    exact ⟨v, h1, v, rfl, h2⟩
  refine vcL_sound (md := .plain) (n := fn.ntmps) (k := 8) (ds := []) hmix ?_ ?_ p _ w hp (by simp; omega) rfl (by rw [hrd]; exact h)
  · rintro a w hs' hd' hS
    refine rfE1_sound hmix ht hS hs' hd' htn has hps hbd ?_ ?_
    · intro D W hK
      refine vcL_sound (md := .plain) (n := fn.ntmps) (k := 8) (ds := { target := .collected D, args := #[] } :: a.defers) hmix ?_ ?_ s _ W hs hs' rfl hK
      · intro a2 w2 _ hd2 hq
        exact finM D a2 w2 (by rw [hd2, hd']) hq
      · intro e a2 w2 hne _ hd2 hq
        cases e with
        | ret => exact finM D a2 w2 (by rw [hd2, hd']) hq
        | normal => exact absurd rfl hne
        | _ => exact hq.elim
    · intro D W hK
      exact finM D _ W (by rw [hd']) hK
  · intro e a w hne hs' hd' hq
    cases e with
    | ret => exact fin a w hd' hq
    | normal => exact absurd rfl hne
    | _ => exact hq.elim

/-- A call of 'yield'. -/
theorem cf_yield {l m : Nat} {args : Array Value} {w : World} {K : Value → World → Prop} (h : YieldAt (Wd none) m P l args w (fun e w' => ∃ v, e = .returned v ∧ K v w')) : cf P .plain (.func (.yield l) #[] #[]) args w K := by
  obtain ⟨fn, tmps, as, bd, hr, h1, h2⟩ := h
  have he : (do let d ← Deferred.ofValue (.func (.yield l) #[] #[]) args; invoke d.target d.args : Sem Next) = Instr.yield l args := by
    show Instr.yield l (#[] ++ args) = _
    simp
  unfold cf
  rw [he, hr]
  exact ⟨rfl, h1, fun c cs _ => h2 c cs (fun d hd => by simp [Wd] at hd)⟩
theorem grownBy_drew (W : World) (row : Option Nat) : W.grownBy W.drew row := ⟨rfl, rfl, rfl, Nat.le_refl _, fun _ _ _ => rfl⟩
theorem callsIn_of_cl {n : Nat} {f : FuncId} {args : Array Value} {w : World} {K : Value → World → Prop} (h : cl P f args w K) : CallsIn (Wd none) n P f args w (fun e w' => ∃ v, e = .returned v ∧ K v w') := callsIn_of_calls none n h

/-- A result that lies in memory. -/
theorem resSem_inr {t : TypeId} {a : Addr} {r : List (Value ⊕ (Value × TypeId))} {w : World} {u : Value} {vs : List Value} (h : ld P t (.pointer (some a)) w (fun u' w' => w' = w ∧ u' = u)) (hr : (resSem r).run P w = .ok vs w) : (resSem (.inr (.pointer (some a), t) :: r)).run P w = .ok (u :: vs) w := by
  have h1 := ld_opv h
  unfold opv at h1
  have h2 : (Instr.loadAt t (.pointer (some a))).run P w = (loadVar t a).run P w := rfl
  rw [h2] at h1
  have h3 : (resSem (.inr (.pointer (some a), t) :: r)) = (do let v ← loadVar t a; pure (v :: (← resSem r))) := rfl
  rw [h3]
  simp only [Sem.run_bind]
  split at h1
  · rename_i v w' he
    obtain ⟨rfl, rfl⟩ := h1
    rw [he]
    simp only [Result.andThen_ok, hr]
    rfl
  · exact h1.elim
theorem resSem_inl {v : Value} {r : List (Value ⊕ (Value × TypeId))} {w : World} {vs : List Value} (hr : (resSem r).run P w = .ok vs w) : (resSem (.inl v :: r)).run P w = .ok (v :: vs) w := by
  have h3 : (resSem (.inl v :: r)) = (do pure (v :: (← resSem r))) := rfl
  rw [h3]
  simp only [Sem.run_bind, hr, Result.andThen_ok]
  rfl
theorem retC_one {t : TypeId} {a : Addr} {w : World} {u : Value} {R : Value → World → Prop} (h : ld P t (.pointer (some a)) w (fun u' w' => w' = w ∧ u' = u)) (hR : R u w) : retC P [.inr (.pointer (some a), t)] w R := ⟨[u], resSem_inr h rfl, hR⟩
end
end Go.Sh
