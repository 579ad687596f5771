/- DiskPlays: the statement; the card. -/
import Derived.Test.YtppefblkmgihoaaDoorP6
import Derived.OpenShut
set_option linter.unusedVariables false
set_option linter.unusedSimpArgs false
set_option maxRecDepth 10000
namespace Go.Proofs.YtppefblkmgihoaaDoor
open Go.ChangeShapes Go.WideShapes Go.Sh

theorem kept_of {W W' : World} (hf : Fr W.heap.size No W W') (may : MemPlace → Prop) : W.keptBut W' may := by
  refine ⟨hf.2.2.1, hf.2.2.2.2, fun i hi => ?_⟩
  rw [hf.2.1 i hi no_not]
  cases W.heap[i]? with
  | none => rfl
  | some o =>
    cases o with
    | cells c t f => exact ⟨rfl, rfl, rfl, fun _ _ => rfl⟩
    | map es c => exact .inr ⟨rfl, rfl⟩
    | _ => rfl
/-- What was there is as it was: so the arguments read as they did. -/
theorem post_old {H : Type} {enc : TypeId × Value → H} {P : Program} {f : Func} {s : ChangeSpec} {apart fresh handsOn again : Bool} {W W' : World} {args : Array Value} {v : Value} {ds gs : List (DataW H)} {before pa pv : List MemPlace}
    (hW : DataW.Whole enc P f.params.toList s.vars apart W args.toList ds gs before)
    (hres : ∀ (b : Nat) (sp : Nat → Bool) (hd : Bool), DataW.TrodAll enc P W' b sp hd f.resultTypes.toList (v.resultList f.resultTypes.size) (s.fn H (ds ++ gs)).results [])
    (hargs : ∀ sp : Nat → Bool, (∀ p ∈ before, sp p.block = true) → DataW.TrodAll enc P W' 0 sp true f.params.toList args.toList (s.fn H (ds ++ gs)).args pa)
    (hvars : ∀ sp : Nat → Bool, (∀ p ∈ before, sp p.block = true) → DataW.TrodVars enc P W' sp s.vars (s.fn H (ds ++ gs)).vars pv)
    (hps : before = pa ++ pv) (hf : Fr W.heap.size No W W')
    (hok : ∀ (j : Nat) (t : TypeId) (r : Value), f.resultTypes[j]? = some t → (v.resultList f.resultTypes.size)[j]? = some r → Value.okWide P W' .any 0 t r) :
    s.post enc P f apart fresh handsOn again W args v W' := by
  have hold : ∀ p ∈ before, (fun b => decide (b < W.heap.size)) p.block = true := fun p hp => by simpa using hW.lt p hp
  refine ⟨ds, gs, before, [], pa, pv, hW, hres _ _ _, hargs _ hold, hvars _ hold, World.keptBut_mono (fun p hp => ⟨hp, ?_⟩) (kept_of hf (· ∈ before)), fun _ => ?_⟩
  · rw [hps, List.mem_append] at hp
    exact Or.inr hp
  · have hlt := hW.lt
    obtain ⟨_, _, _, _, _, hz, hn⟩ := hW
    refine ⟨hok, _, _, ([] ++ pa) ++ pv, ⟨[] ++ pa, pv, trodAll_append (hargs _ (fun _ _ => rfl)) (hres _ _ _), hvars _ (fun _ _ => rfl), rfl, ?_, ?_⟩, ?_⟩
    · intro b off hp
      have hp' : MemPlace.cell b off ∈ before := by rw [hps]; simpa using hp
      have hb : b < W.heap.size := hlt _ hp'
      have e : W'.frozen? ⟨b, off, none⟩ = W.frozen? ⟨b, off, none⟩ := by
        unfold World.frozen?
        rw [show W'.heap[b]? = W.heap[b]? from hf.2.1 b hb no_not]
      rw [e]
      exact hz b off hp'
    · intro ha
      have := hn ha
      rw [hps] at this
      simpa using this
    · intro p hp _
      rw [hps]
      simpa using hp

theorem shut_yes {H : Type} {enc : TypeId × Value → H} {W : World} {base : Nat} {sp : Nat → Bool} {held : Bool} (b : Bool) : DataW.Trod enc Tryd.prog W base sp held 4 (.bool b) (.lit (.bool b)) [] := ⟨1, by simp [DataW.trod, Value.cells, Tryd.underlying4]⟩
theorem same_old {W W' : World} (hf : Fr W.heap.size No W W') {p : MemPlace} (hp : p.block < W.heap.size) : W.sameAt W' p := by
  cases p with
  | cell b o => exact World.cell?_of_block (w := W) (hf.2.1 b hp no_not)
  | map b => exact hf.2.1 b hp no_not
theorem cells36 : Tryd.prog.cellsOf 36 = 7 := by kernel_rfl
theorem script_of {H : Type} {enc : TypeId × Value → H} {W : World} {fuel : Nat} {v : Value} {x : DataW H × List MemPlace} (h : DataW.trod enc Tryd.prog W 0 (fun _ => true) true fuel 22 [v] = some x) (hx : Rows.uptoBulk x.1 ≤ 1048576) :
    ∃ A len c, v = .slice A len c ∧ ScriptV W.heap.size W A len ∧ len ≤ 1048576 := by
  rcases DataW.trod_slice Tryd.underlying22 h with ⟨e, rfl⟩ | ⟨a, len, cap, elems, rest, n, rfl, e, rfl, _, hl, hm, hlen, hel, _, _⟩
  · simp only [List.cons.injEq, and_true] at e
    subst e
    exact ⟨none, 0, 0, rfl, fun i hi => absurd hi (Nat.not_lt_zero _), Nat.zero_le _⟩
  · simp only [List.cons.injEq, and_true] at e
    subst e
    simp only [Rows.uptoBulk] at hx
    have h1 := bulk_len (elems.map (·.1) : List (DataW H))
    rw [List.length_map] at h1
    have hE : ∀ i (hi : i < len), ∃ cs1, W.cells? 0 (a.add (i * 7)) 7 = some cs1 ∧ DataW.trod enc Tryd.prog W 0 (fun _ => true) true n 36 cs1 = some (elems[i]'(by omega)) := fun i hi => by
      have := hel i hi
      rw [cells36, List.getElem?_eq_getElem (show i < elems.length by omega)] at this
      simpa only [Option.bind_eq_some_iff] using this
    refine ⟨some a, len, cap, rfl, fun i hi => ?_, by omega⟩
    have hsp : a.spot = none := by
      obtain ⟨cs1, hc1, _⟩ := hE 0 (by omega)
      obtain ⟨hl7, hg⟩ := cells_get hc1
      have h0 := hg 0 (by omega)
      rw [List.getElem?_eq_getElem (by omega)] at h0
      have e0 : (a.add (0 * 7)).add 0 = a := by simp [Addr.add]
      rw [e0] at h0
      exact World.cell?_spot h0
    obtain ⟨b, o, sp⟩ := a
    have hsp : sp = none := hsp
    subst hsp
    obtain ⟨cs1, hc1, hy1⟩ := hE i hi
    obtain ⟨hl7, hg⟩ := cells_get hc1
    have hbk : Rows.uptoBulk (elems[i]'(by omega)).1 ≤ 1048576 := by
      have := bulk_part (l := elems.map (·.1)) (d := (elems[i]'(by omega)).1) (List.mem_map.2 ⟨_, List.getElem_mem _, rfl⟩)
      omega
    obtain ⟨op, pv, kv, rfl, hop⟩ := op_of hy1 hbk
    obtain ⟨hr, hb⟩ := rdn_get (W := W) (b := b) (o := o + i * 7) (n := 7) hl7 (by decide) fun k hk => by
      have := hg k hk
      rw [add_mk, add_mk] at this
      exact this
    exact ⟨b, o, op, pv, kv, rfl, hb, hr, hop⟩

theorem contract (H : Type) (enc : TypeId × Value → H) (W : World) (base : Nat) (args : Array Value) (ds gs : List (DataW H)) (before : List MemPlace)
    (hval : ∀ (j : Nat) t v, Tryd.f3.params[j]? = some t → args[j]? = some v → Value.okWide Tryd.prog W .any base t v)
    (hW : DataW.Whole enc Tryd.prog Tryd.f3.params.toList Rows.diskPlaysSpec.vars false W args.toList ds gs before) (hc : Rows.uptoSmall H (ds ++ gs) = true) :
    Calls Tryd.prog 3 args W fun e W' => ∃ v, e = .returned v ∧ Rows.diskPlaysSpec.post enc Tryd.prog Tryd.f3 false true false false W args v W' := by
  have hW' := hW
  obtain ⟨p, q, hA0, hV, rfl, hfz, hnd⟩ := hW
  have hA : DataW.TrodAll enc Tryd.prog W 0 (fun _ => true) true Tryd.f3.params.toList args.toList ds p := hA0
  rw [Tryd.params3] at hA hval
  obtain ⟨v0, v1, d0, d1, p0, p1, rfl, rfl, rfl, h0, h1⟩ := trodAll_two hA
  obtain ⟨rfl, rfl⟩ := trodVars_none hV
  obtain ⟨n, rfl, rfl, rfl, hwn⟩ := open_int Tryd.underlying3 (hval 0 3 v0 rfl rfl) h0
  have h1k := h1
  obtain ⟨A0, len0, cap0, rfl⟩ := okWide_slice Tryd.underlying22 (hval 1 22 v1 rfl rfl)
  clear hA0
  simp only [List.append_nil, List.nil_append] at hW' hc
  have hb : Rows.uptoBulk d1 ≤ 1048576 := by
    have h := of_decide_eq_true hc
    simp only [Rows.uptoBulkAll] at h
    omega
  have hlt : ∀ x ∈ p1, x.block < W.heap.size := fun x hx => hW'.lt x (by simpa using hx)
  obtain ⟨fuel, hf⟩ := h1
  obtain ⟨A, len, c, e, hs, hl⟩ := script_of (x := (d1, p1)) hf hb
  injection e with e1 e2 e3
  subst e1; subst e2; subst e3
  refine plays (w := W) (R := fun v W' => Rows.diskPlaysSpec.post enc Tryd.prog Tryd.f3 false true false false W #[.int .i64 n, .slice A0 len0 cap0] v W') hs (by omega) fun W' hfr => ?_
  refine post_old (pa := [] ++ p1) (pv := []) hW' (fun _ _ _ => trodAll_mk1 (shut_yes true)) (fun sp hsp => ?_) (fun _ _ => rfl) (by simp) hfr (RowKit.ok_one (by kernel_rfl) rfl (RowKit.okWide_bool_mk Tryd.underlying4 _))
  have h1s : DataW.Trod enc Tryd.prog W' 0 sp true 22 (.slice A0 len0 cap0) d1 p1 := WideElems.Trod_stays (by kernel_rfl) (by kernel_rfl) (of_decide_eq_true (by kernel_rfl)) h1k (fun x hx => same_old hfr (hlt x hx)) (fun x hx => hsp x (by simpa using hx))
  exact trodAll_mk2 (shut_int Tryd.underlying3 hwn) h1s
end Go.Proofs.YtppefblkmgihoaaDoor
