/- The program's disk and the reference's in one world: a call on the one, the same call on the other. -/
import Derived.Test.YtppefblkmgihoaaDoorL4
set_option linter.unusedVariables false
set_option linter.unusedSimpArgs false
set_option maxRecDepth 10000
namespace Go.Proofs.YtppefblkmgihoaaDoor
open Go.Sh

theorem Hg.far {w w' : World} {d : Nat} {p : Pend} {hv : Value} (h : Hg w d p hv) {N : Nat} {S : Nat → Prop} (hf : Fr N S w w') (hB : ∀ b X e, e = 24 ∨ e = 9 ∨ e = 3 → w.heap[b]? = some (.cells X e (0, 0)) → b < N ∧ ¬ S b) : Hg w' d p hv := by
  cases p with
  | nothing => exact h
  | sync a => obtain ⟨x, y, e, h1, h2⟩ := h; exact ⟨x, y, e, h1.fr hf fun b => hB b _ _ (by decide), h2.fr hf fun b => hB b _ _ (by decide)⟩
  | trunc a n => obtain ⟨x, y, z, e, h1, h2, h3⟩ := h; exact ⟨x, y, z, e, h1.fr hf fun b => hB b _ _ (by decide), h2.fr hf fun b => hB b _ _ (by decide), h3.fr hf fun b => hB b _ _ (by decide)⟩
  | ren a b => obtain ⟨x, y, z, e, h1, h2, h3⟩ := h; exact ⟨x, y, z, e, h1.fr hf fun b => hB b _ _ (by decide), h2.fr hf fun b => hB b _ _ (by decide), h3.fr hf fun b => hB b _ _ (by decide)⟩
  | rem a => obtain ⟨x, y, e, h1, h2⟩ := h; exact ⟨x, y, e, h1.fr hf fun b => hB b _ _ (by decide), h2.fr hf fun b => hB b _ _ (by decide)⟩

/-- Blocks of the reference and of bytes are none of the disk's. -/
theorem dk_far {w w' : World} {d : Nat} {D : Dk} {S : Nat → Prop} (h : IsDk w d D) (hf : Fr w.heap.size S w w') (hS : ∀ b, b < w.heap.size → S b → ∃ Y e, w.heap[b]? = some (.cells Y e (0, 0)) ∧ (e = 5 ∨ e = 52 ∨ e = 96)) : IsDk w' d D := by
  obtain ⟨hv, es, c, h⟩ := h
  have hno : ∀ (b : Nat) (X : Array Value) (e : TypeId) (f : Nat × Nat), e ≠ 5 → e ≠ 52 → e ≠ 96 → w.heap[b]? = some (.cells X e f) → ¬ S b := by
    intro b X e f h5 h52 h96 hb hs
    obtain ⟨Y, e', hb', he⟩ := hS b (lt_at hb) hs
    rw [hb] at hb'; injection hb' with hb'; injection hb' with _ hb' _; subst hb'
    rcases he with he | he | he
    · exact h5 he
    · exact h52 he
    · exact h96 he
  have hm : ¬ S D.m := by
    intro hs
    obtain ⟨Y, e', hb', he⟩ := hS _ (lt_at h.map) hs
    rw [h.map] at hb'; cases hb'
  refine ⟨hv, es, c, hf.at h.blk (lt_at h.blk) (hno d _ _ _ (by decide) (by decide) (by decide) h.blk), hf.at h.map (lt_at h.map) hm, h.mp.imp fun p _ v hv => hv.fr hf fun b X f hb => ⟨lt_at hb, hno b _ _ _ (by decide) (by decide) (by decide) hb⟩, fun ho => (h.hg ho).far hf fun b X e he hb => ⟨lt_at hb, ?_⟩⟩
  rcases he with rfl | rfl | rfl <;> exact hno b _ _ _ (by decide) (by decide) (by decide) hb
theorem rk_far {N : Nat} {w w' : World} {d : Nat} {D : Dk} {x : Nat} {X : Rk} (hd : IsDk w d D) (h : IsRk N w x X) (hf : Fr w.heap.size (D.own d) w w') : IsRk N w' x X := by
  obtain ⟨hv, es, c, hd⟩ := hd
  obtain ⟨fv, h⟩ := h
  have hno : ∀ (b : Nat) (X : Array Value) (e : TypeId) (f : Nat × Nat), e ≠ 49 → w.heap[b]? = some (.cells X e f) → ¬ D.own d b := by
    rintro b X e f h49 hb (rfl | rfl)
    · rw [hd.blk] at hb; injection hb with hb; injection hb with _ hb _; exact h49 hb.symm
    · rw [hd.map] at hb; cases hb
  refine ⟨fv, hf.at h.blk (lt_at h.blk) (hno x _ _ _ (by decide) h.blk), h.fs.fr hf fun b X e f he hb => ⟨lt_at hb, ?_⟩, h.nx⟩
  rcases he with rfl | rfl | rfl <;> exact hno b _ _ _ (by decide) hb
theorem rks_kind {N : Nat} {w : World} {x : Nat} {X : Rk} (h : IsRk N w x X) {b : Nat} (hs : RkS N w x b) : ∃ Y e, w.heap[b]? = some (.cells Y e (0, 0)) ∧ (e = 5 ∨ e = 52 ∨ e = 96) := by
  obtain ⟨fv, h⟩ := h
  rcases hs with rfl | ⟨_, Y, hY⟩
  · exact ⟨_, _, h.blk, .inr (.inl rfl)⟩
  · exact ⟨_, _, hY, .inr (.inr rfl)⟩

/-- Both stand, and agree. -/
structure Pr (N : Nat) (w : World) (d : Nat) (D : Dk) (x : Nat) (X : Rk) : Prop where
  nd : N ≤ d
  nm : N ≤ D.m
  dk : IsDk w d D
  rk : IsRk N w x X
  sim : Sim D X
theorem Pr.ltd {N : Nat} {w : World} {d : Nat} {D : Dk} {x : Nat} {X : Rk} (h : Pr N w d D x X) : ∀ b, D.own d b → N ≤ b ∧ b < w.heap.size := by
  obtain ⟨hv, es, c, hd⟩ := h.dk
  rintro b (rfl | rfl)
  · exact ⟨h.nd, lt_at hd.blk⟩
  · exact ⟨h.nm, lt_at hd.map⟩
theorem Pr.le {N : Nat} {w : World} {d : Nat} {D : Dk} {x : Nat} {X : Rk} (h : Pr N w d D x X) : N ≤ w.heap.size := by
  obtain ⟨fv, h⟩ := h.rk; exact h.le
theorem Pr.young {N : Nat} {w w' : World} {d : Nat} {D : Dk} {x : Nat} {X : Rk} (h : Pr N w d D x X) (hf : Fr w.heap.size No w w') : Pr N w' d D x X := ⟨h.nd, h.nm, h.dk.young hf, h.rk.young hf, h.sim⟩

/-- The script's own copies stay. -/
def K36 (w w' : World) : Prop := ∀ (b : Nat) (Y : Array Value), w.heap[b]? = some (Obj.cells Y 36 (0, 0)) → w'.heap[b]? = some (Obj.cells Y 36 (0, 0))
theorem K36.young {w w' : World} (hf : Fr w.heap.size No w w') : K36 w w' := fun b Y hb => hf.at hb (lt_at hb) no_not
theorem K36.trans {w w' w'' : World} (h : K36 w w') (h' : K36 w' w'') : K36 w w'' := fun b Y hb => h' b Y (h b Y hb)

/-- A call on the one, and, something later, the call on the other: they answer the same. -/
def Tw (N : Nat) (wM w1 : World) (f g : FuncId) (A B : Array Value) (R : World → Prop) : Prop :=
  cl Tryd.prog f A w1 fun v w2 => Fr w1.heap.size (fun b => N ≤ b ∧ b < wM.heap.size ∧ ¬ ∃ Y, wM.heap[b]? = some (Obj.cells Y 36 (0, 0))) w1 w2 ∧ ∃ e : Int, v = .int .i64 e ∧
    ∀ w3 : World, Fr w2.heap.size (fun b => wM.heap.size ≤ b ∧ ∃ Y, w2.heap[b]? = some (Obj.cells Y 5 (0, 0))) w2 w3 →
      cl Tryd.prog g B w3 fun u w4 => u = .int .i64 e ∧ (∀ (b : Nat) (Y : Array Value), w3.heap[b]? = some (Obj.cells Y 36 (0, 0)) → w4.heap[b]? = w3.heap[b]?) ∧ R w4

theorem tw_one {N : Nat} {wM w1 : World} {d : Nat} {D : Dk} {x : Nat} {X X' : Rk} {f g : FuncId} {A B : Array Value} {e : Int} {R : World → Prop} (hp : Pr N wM d D x X) (hf : Fr wM.heap.size No wM w1)
    (h1 : IsDk w1 d D → ∀ R : Value → World → Prop, (∀ w2 D', D'.m = D.m → Sim D' X' → IsDk w2 d D' → Fr w1.heap.size (D.own d) w1 w2 → R (.int .i64 e) w2) → cl Tryd.prog f A w1 R)
    (h2 : ∀ w3, IsRk N w3 x X → Fr N No wM w3 → ∀ R : Value → World → Prop, (∀ w4, IsRk N w4 x X' → Fr w3.heap.size (RkS N w3 x) w3 w4 → R (.int .i64 e) w4) → cl Tryd.prog g B w3 R)
    (hR : ∀ w4 D', Pr N w4 d D' x X' → Fr N No wM w4 → K36 wM w4 → R w4) : Tw N wM w1 f g A B R := by
  have hle := hp.le
  have hp1 := hp.young hf
  have hkd : ∀ b Y, wM.heap[b]? = some (Obj.cells Y 36 (0, 0)) → ¬ D.own d b := by
    obtain ⟨hv, es, c, hd⟩ := hp.dk
    rintro b Y hb (rfl | rfl)
    · rw [hd.blk] at hb; injection hb with hb; injection hb with _ hb _; cases hb
    · rw [hd.map] at hb; cases hb
  unfold Tw
  refine h1 hp1.dk _ fun w2 D' hm hs hd hf2 => ⟨hf2.mono (Nat.le_refl _) fun b _ hb => ⟨(hp.ltd b hb).1, (hp.ltd b hb).2, fun ⟨Y, hY⟩ => hkd b Y hY hb⟩, e, rfl, fun w3 hf3 => ?_⟩
  have hfM2 : Fr wM.heap.size (D.own d) wM w2 := (hf.no (Nat.le_refl _)).then hf2 hf.1 fun _ _ h => h
  have hfM3 : Fr wM.heap.size (D.own d) wM w3 := hfM2.then hf3 hfM2.1 fun b hb h => absurd h.1 (by omega)
  have hrk3 : IsRk N w3 x X := rk_far hp.dk hp.rk hfM3
  have hdk3 : IsDk w3 d D' := dk_far hd hf3 fun b _ ⟨_, Y, hY⟩ => ⟨Y, 5, hY, .inl rfl⟩
  have hfN3 : Fr N No wM w3 := hfM3.mono hle fun b hb h => absurd (hp.ltd b h).1 (by omega)
  have hk3 : K36 wM w3 := fun b Y hb => hfM3.at hb (lt_at hb) (hkd b Y hb)
  have hk4 : ∀ w4, Fr w3.heap.size (RkS N w3 x) w3 w4 → K36 w3 w4 := fun w4 hf4 b Y hb => hf4.at hb (lt_at hb) fun hs => by
    obtain ⟨Z, e', hZ, he⟩ := rks_kind hrk3 hs
    rw [hb] at hZ; injection hZ with hZ; injection hZ with _ hZ _; subst hZ
    rcases he with he | he | he <;> cases he
  refine h2 w3 hrk3 hfN3 _ fun w4 hr4 hf4 => ⟨rfl, fun b Y hb => hf4.2.1 b (lt_at hb) fun hs => ?_, ?_⟩
  · obtain ⟨Z, e', hZ, he⟩ := rks_kind hrk3 hs
    rw [hb] at hZ; injection hZ with hZ; injection hZ with _ hZ _; subst hZ
    rcases he with he | he | he <;> cases he
  · refine hR w4 D' ⟨hp.nd, by rw [hm]; exact hp.nm, dk_far hdk3 hf4 fun b _ h => rks_kind hrk3 h, hr4, hs⟩ (hfN3.then hf4 (Nat.le_trans hle hfM3.1) fun b hb h => ?_) (hk3.trans (hk4 w4 hf4))
    obtain ⟨fv, hx⟩ := hrk3
    have := hx.nx
    rcases h with rfl | ⟨h, _⟩ <;> omega
theorem tw_nil {N : Nat} {wM w1 : World} {f g : FuncId} {A B : Array Value} {e : Int} {R : World → Prop} (hle : N ≤ wM.heap.size) (hf : Fr wM.heap.size No wM w1)
    (h1 : ∀ R : Value → World → Prop, (∀ w2, Fr w1.heap.size No w1 w2 → R (.int .i64 e) w2) → cl Tryd.prog f A w1 R)
    (h2 : ∀ w3, ∀ R : Value → World → Prop, (∀ w4, Fr w3.heap.size No w3 w4 → R (.int .i64 e) w4) → cl Tryd.prog g B w3 R)
    (hR : ∀ w4, Fr N No wM w4 → K36 wM w4 → R w4) : Tw N wM w1 f g A B R := by
  unfold Tw
  refine h1 _ fun w2 hf2 => ⟨hf2.no (Nat.le_refl _), e, rfl, fun w3 hf3 => ?_⟩
  have hfM2 : Fr wM.heap.size No wM w2 := hf.trans (hf2.no hf.1)
  have hfN3 : Fr N No wM w3 := (hfM2.no hle).then hf3 (Nat.le_trans hle hfM2.1) fun b hb h => absurd h.1 (by omega)
  have hk3 : K36 w2 w3 := fun b Y hb => hf3.at hb (lt_at hb) fun ⟨_, Z, hZ⟩ => by rw [hb] at hZ; injection hZ with hZ; injection hZ with _ hZ _; cases hZ
  exact h2 w3 _ fun w4 hf4 => ⟨rfl, fun b Y hb => hf4.2.1 b (lt_at hb) no_not, hR w4 (hfN3.trans (hf4.no (Nat.le_trans hle (Nat.le_trans hfM2.1 hf3.1)))) (((K36.young hfM2).trans hk3).trans (K36.young hf4))⟩

/-- Both are there, or neither. -/
def Pair (N : Nat) (w : World) (v u : Value) : Prop := (v = .pointer none ∧ u = .pointer none ∧ N ≤ w.heap.size) ∨ ∃ d D x X, v = ptr d ∧ u = ptr x ∧ Pr N w d D x X
theorem Pair.le {N : Nat} {w : World} {v u : Value} (h : Pair N w v u) : N ≤ w.heap.size := by
  rcases h with ⟨_, _, h⟩ | ⟨d, D, x, X, _, _, h⟩
  · exact h
  · exact h.le
theorem Pair.young {N : Nat} {w w' : World} {v u : Value} (h : Pair N w v u) (hf : Fr w.heap.size No w w') : Pair N w' v u := by
  rcases h with ⟨h1, h2, h⟩ | ⟨d, D, x, X, h1, h2, h⟩
  · exact .inl ⟨h1, h2, Nat.le_trans h hf.1⟩
  · exact .inr ⟨d, D, x, X, h1, h2, h.young hf⟩

theorem two_sync {N : Nat} {wM w1 : World} {v u : Value} {a : ByteArray} {R : World → Prop} (h : Pair N wM v u) (hf : Fr wM.heap.size No wM w1) (ha : a.size < 2 ^ 62) (hR : ∀ w4, Pair N w4 v u → Fr N No wM w4 → K36 wM w4 → R w4) : Tw N wM w1 18 19 #[v, .string a] #[u, .string a] R := by
  rcases h with ⟨rfl, rfl, hle⟩ | ⟨d, D, x, X, rfl, rfl, h⟩
  · refine tw_nil (e := if isName a = false then 1 else 7) hle hf (fun R hR => disk_Sync_nil ha hR) (fun w3 R hR => ref_Sync_nil ha fun w4 h4 => ?_) fun w4 h4 k4 => hR w4 (.inl ⟨rfl, rfl, Nat.le_trans hle h4.1⟩) h4 k4
    have e : badArgs 1 a ⟨#[]⟩ 0 = !isName a := by simp [badArgs]
    rw [e]; have := hR w4 h4; cases hn : isName a <;> simpa [hn] using this
  · have hs := sim_sync h.sim a
    exact tw_one (X' := (X.ask (.sync a) (badArgs 1 a ⟨#[]⟩ 0)).2) h hf (fun hd R hR => disk_Sync hd ha h.sim.dgood fun w' hd' hf' => hR w' _ (op_m D a _) hs.2 hd' hf') (fun w3 hr _ R hR => ref_Sync hr h.sim.xgood ha fun w4 hr4 hf4 => by rw [hs.1] at hR; exact hR w4 hr4 (hf4.mono (Nat.le_refl _) fun b _ e => .inl e)) fun w4 D' hp h4 k4 => hR w4 (.inr ⟨d, D', x, _, rfl, rfl, hp⟩) h4 k4
theorem two_remove {N : Nat} {wM w1 : World} {v u : Value} {a : ByteArray} {R : World → Prop} (h : Pair N wM v u) (hf : Fr wM.heap.size No wM w1) (ha : a.size < 2 ^ 62) (hR : ∀ w4, Pair N w4 v u → Fr N No wM w4 → K36 wM w4 → R w4) : Tw N wM w1 24 25 #[v, .string a] #[u, .string a] R := by
  rcases h with ⟨rfl, rfl, hle⟩ | ⟨d, D, x, X, rfl, rfl, h⟩
  · refine tw_nil (e := if isName a = false then 1 else 7) hle hf (fun R hR => disk_Remove_nil ha hR) (fun w3 R hR => ref_Remove_nil ha fun w4 h4 => ?_) fun w4 h4 k4 => hR w4 (.inl ⟨rfl, rfl, Nat.le_trans hle h4.1⟩) h4 k4
    have e : badArgs 4 a ⟨#[]⟩ 0 = !isName a := by simp [badArgs]
    rw [e]; have := hR w4 h4; cases hn : isName a <;> simpa [hn] using this
  · have hs := sim_remove h.sim a
    exact tw_one (X' := (X.ask (.rem a) (badArgs 4 a ⟨#[]⟩ 0)).2) h hf (fun hd R hR => disk_Remove hd ha h.sim.dgood fun w' hd' hf' => hR w' _ (op_m D a _) hs.2 hd' hf') (fun w3 hr _ R hR => ref_Remove hr h.sim.xgood ha fun w4 hr4 hf4 => by rw [hs.1] at hR; exact hR w4 hr4 (hf4.mono (Nat.le_refl _) fun b _ e => .inl e)) fun w4 D' hp h4 k4 => hR w4 (.inr ⟨d, D', x, _, rfl, rfl, hp⟩) h4 k4
theorem two_truncate {N : Nat} {wM w1 : World} {v u : Value} {a : ByteArray} {n : Int} {R : World → Prop} (h : Pair N wM v u) (hf : Fr wM.heap.size No wM w1) (ha : a.size < 2 ^ 62) (hn : n < 2 ^ 63) (hR : ∀ w4, Pair N w4 v u → Fr N No wM w4 → K36 wM w4 → R w4) : Tw N wM w1 20 21 #[v, .string a, .int .i64 n] #[u, .string a, .int .i64 n] R := by
  rcases h with ⟨rfl, rfl, hle⟩ | ⟨d, D, x, X, rfl, rfl, h⟩
  · refine tw_nil (e := if n < 0 then 1 else if isName a = false then 1 else 7) hle hf (fun R hR => disk_Truncate_nil ha hR) (fun w3 R hR => ref_Truncate_nil ha fun w4 h4 => ?_) fun w4 h4 k4 => hR w4 (.inl ⟨rfl, rfl, Nat.le_trans hle h4.1⟩) h4 k4
    have e : badArgs 2 a ⟨#[]⟩ n = (!isName a || decide (n < 0)) := by simp [badArgs]
    rw [e]; have := hR w4 h4; cases hnm : isName a <;> by_cases h0 : n < 0 <;> simpa [hnm, h0] using this
  · have hs := sim_truncate h.sim a hn
    exact tw_one (X' := (X.ask (.trunc a n.toNat) (badArgs 2 a ⟨#[]⟩ n)).2) h hf (fun hd R hR => disk_Truncate hd ha h.sim.dgood fun w' hd' hf' => hR w' _ (truncate_m D a _) hs.2 hd' hf') (fun w3 hr _ R hR => ref_Truncate hr h.sim.xgood ha hn fun w4 hr4 hf4 => by rw [hs.1] at hR; exact hR w4 hr4 (hf4.mono (Nat.le_refl _) fun b _ e => .inl e)) fun w4 D' hp h4 k4 => hR w4 (.inr ⟨d, D', x, _, rfl, rfl, hp⟩) h4 k4
theorem two_rename {N : Nat} {wM w1 : World} {v u : Value} {a b : ByteArray} {R : World → Prop} (h : Pair N wM v u) (hf : Fr wM.heap.size No wM w1) (ha : a.size < 2 ^ 62) (hb : b.size < 2 ^ 62) (hR : ∀ w4, Pair N w4 v u → Fr N No wM w4 → K36 wM w4 → R w4) : Tw N wM w1 22 23 #[v, .string a, .string b] #[u, .string a, .string b] R := by
  rcases h with ⟨rfl, rfl, hle⟩ | ⟨d, D, x, X, rfl, rfl, h⟩
  · refine tw_nil (e := if isName b = false then 1 else if isName a = false then 1 else 7) hle hf (fun R hR => disk_Rename_nil ha hb hR) (fun w3 R hR => ref_Rename_nil ha hb fun w4 h4 => ?_) fun w4 h4 k4 => hR w4 (.inl ⟨rfl, rfl, Nat.le_trans hle h4.1⟩) h4 k4
    have e : badArgs 3 a b 0 = (!isName a || !isName b) := by simp [badArgs]
    rw [e]; have := hR w4 h4; cases hnm : isName a <;> cases hnb : isName b <;> simpa [hnm, hnb] using this
  · have hs := sim_rename h.sim a b
    exact tw_one (X' := (X.ask (.ren a b) (badArgs 3 a b 0)).2) h hf (fun hd R hR => disk_Rename hd ha hb h.sim.dgood fun w' hd' hf' => hR w' _ (rename_m D a b) hs.2 hd' hf') (fun w3 hr _ R hR => ref_Rename hr h.sim.xgood ha hb fun w4 hr4 hf4 => by rw [hs.1] at hR; exact hR w4 hr4 (hf4.mono (Nat.le_refl _) fun b _ e => .inl e)) fun w4 D' hp h4 k4 => hR w4 (.inr ⟨d, D', x, _, rfl, rfl, hp⟩) h4 k4
theorem two_arm {N : Nat} {wM w1 : World} {v u : Value} {n : Int} {R : World → Prop} (h : Pair N wM v u) (hf : Fr wM.heap.size No wM w1) (hn : n < 2 ^ 63) (hR : ∀ w4, Pair N w4 v u → Fr N No wM w4 → K36 wM w4 → R w4) : Tw N wM w1 10 26 #[v, .int .i64 n] #[u, .int .i64 n] R := by
  rcases h with ⟨rfl, rfl, hle⟩ | ⟨d, D, x, X, rfl, rfl, h⟩
  · exact tw_nil (e := if n < 0 then 1 else 7) hle hf (fun R hR => disk_Arm_nil (hR _ Fr.refl)) (fun w3 R hR => ref_Arm_nil (hR _ Fr.refl)) fun w4 h4 k4 => hR w4 (.inl ⟨rfl, rfl, Nat.le_trans hle h4.1⟩) h4 k4
  · have hs := sim_arm h.sim hn
    exact tw_one (X' := (X.arm n).2) h hf (fun hd R hR => disk_Arm hd fun w' hd' hf' => hR w' _ (arm_m D n) hs.2 hd' hf') (fun w3 hr _ R hR => ref_Arm hr fun w4 hr4 hf4 => by rw [hs.1] at hR; exact hR w4 hr4 (hf4.mono (Nat.le_refl _) fun b _ e => .inl e)) fun w4 D' hp h4 k4 => hR w4 (.inr ⟨d, D', x, _, rfl, rfl, hp⟩) h4 k4
theorem two_append {N : Nat} {wM w1 : World} {v u : Value} {a : ByteArray} {ps : List UInt8} {pv qv : Value} {R : World → Prop} (h : Pair N wM v u) (hf : Fr wM.heap.size No wM w1) (ha : a.size < 2 ^ 62) (hps : small ps.length) (hp : BytesV w1 ps pv) (hq : ∀ w3, Fr N No wM w3 → BytesA No w3 ps qv) (hR : ∀ w4, Pair N w4 v u → Fr N No wM w4 → K36 wM w4 → R w4) : Tw N wM w1 9 17 #[v, .string a, pv] #[u, .string a, qv] R := by
  rcases h with ⟨rfl, rfl, hle⟩ | ⟨d, D, x, X, rfl, rfl, h⟩
  · exact tw_nil (e := if isName a = false then 1 else 7) hle hf (fun R hR => disk_Append_nil ha hR) (fun w3 R hR => ref_Append_nil ha hR) fun w4 h4 k4 => hR w4 (.inl ⟨rfl, rfl, Nat.le_trans hle h4.1⟩) h4 k4
  · have hs := sim_append h.sim a ps
    have hl := h.sim.dlen
    have ht := h.sim.tot
    exact tw_one (X' := (X.append a ps).2) h hf (fun hd R hR => disk_Append hd ha h.sim.dgood h.sim.dtot (by omega) hp.a hps fun w' hd' hf' => hR w' _ (append_m D a ps) hs.2 hd' hf') (fun w3 hr hf3 R hR => by
      obtain ⟨fv, hr⟩ := hr
      exact ref_Append hr h.sim.xgood (by omega) ha (hq w3 hf3) hps fun w4 hr4 hf4 => by rw [hs.1] at hR; exact hR w4 hr4 (hf4.mono (Nat.le_refl _) fun b _ e => .inl e)) fun w4 D' hp h4 k4 => hR w4 (.inr ⟨d, D', x, _, rfl, rfl, hp⟩) h4 k4
theorem ref_Restart_on {N : Nat} {w : World} {x : Nat} {X : Rk} {fv : Value} {done : Bool} {kv : Value} (h : RkAt N w x X fv) (ho : X.off = false) {R : Value → World → Prop} (hR : ∀ w', IsRk N w' x X → Fr w.heap.size (RkS N w x) w w' → R (.int .i64 14) w') : cl Tryd.prog 28 #[ptr x, .agg #[.bool done, kv]] w R := by
  refine C.r09_DocRestart ?_
  unfold F.r09_DocRestart
  simp only [bx_eq, cells_agg]
  generalize hw1 : w.alloc (.cells #[.bool done, kv] 34 (0, 0)) = w1
  have hf1 : Fr w.heap.size No w w1 := by rw [← hw1]; exact Fr.refl.alloc (Nat.le_refl _)
  have hX1 := h.young hf1
  have hblk1 := hX1.blk
  unfold Rk.cells at hblk1
  simp only [T.ty_28, T.fa_52_2, T.ld_4, T.st_4, T.fa_52_3, T.st_3, T.fa_34_0, T.fa_52_5, T.ld_3, T.fa_52_6, T.ld_9, T.fa_52_7, T.fa_52_8, T.fa_52_0, T.ld_50, T.ln_50, T.bs_31_0, T.ia_50, T.fa_96_1, T.ld_31, T.ap_31_31, T.fa_96_2, T.ld_32, T.ln_32, T.ia_32, T.fa_34_1, T.ia_31, T.st_5, T.st_31, T.st_32, bx_eq, mm_eq, nc_eq, cnd_eq, bcond_true, bcond_false, pk_eq, pk_int, ex_eq, ldc_some, un_not, un_neg, mn_eq, mx_eq, bin_add, bin_sub, bin_mul, bin_lss, bin_leq, bin_gtr, bin_geq, bin_eql, bin_neq, bin_peq, bin_pne, bin_beq, bin_bne, bin_leqn, bin_lnen, bin_seq, bin_sne, bin_sge, bin_slt, rdc_cells, mapEs_some, frz_none, Nat.zero_add, Nat.add_zero, List.getElem?_toArray, List.getElem?_cons_zero, List.getElem?_cons_succ, Option.isNone_some, Option.isNone_none, Bool.not_true, Bool.not_false, ite_true, ite_false, Bool.false_eq_true, true_and, and_true, forall_const, false_implies, reduceCtorEq, Bool.true_eq_false, Nat.reduceAdd, Nat.reduceMul, Nat.reduceLT, Nat.reduceSub, Int.reduceEq, Int.reduceLT, decide_true, decide_false, List.setIfInBounds_toArray, List.set_cons_zero, List.set_cons_succ, List.size_toArray, List.length_cons, List.length_nil, frz00, one_int, one_bool, one_ptr, one_str, one_slice, one_map, one_func, one_nil, one_niliface, size_put, size_alloc, put_same, st1_put, bsc_empty, List.nil_append, List.append_nil, List.map_cons, List.map_nil, cells_ptr, cells_str, cells_int, cells_bool, cells_slice, cells_agg, cells_map, fillB_one, fillB_nil, bdc, hblk1, ptr, st1_at hblk1]
  rw [bcond_iff]
  refine ⟨fun _ => hR w1 ⟨_, hX1⟩ (hf1.no (Nat.le_refl _)), fun hx => ?_⟩
  rw [ho] at hx; cases hx

theorem two_restart {N : Nat} {wM w1 : World} {v u : Value} {done : Bool} {keep : List Bool} {kv lv : Value} {R : World → Prop} (h : Pair N wM v u) (hf : Fr wM.heap.size No wM w1) (hks : small keep.length) (hk : FlagsV w1 keep kv) (hl : ∀ w3, Fr N No wM w3 → FlagsA (fun b => N ≤ b) w3 keep lv) (hR : ∀ w4, Pair N w4 v u → Fr N No wM w4 → K36 wM w4 → R w4) : Tw N wM w1 13 28 #[v, .agg #[.bool done, kv]] #[u, .agg #[.bool done, lv]] R := by
  rcases h with ⟨rfl, rfl, hle⟩ | ⟨d, D, x, X, rfl, rfl, h⟩
  · exact tw_nil (e := 7) hle hf (fun R hR => disk_Restart_nil hR) (fun w3 R hR => ref_Restart_nil hR) fun w4 h4 k4 => hR w4 (.inl ⟨rfl, rfl, Nat.le_trans hle h4.1⟩) h4 k4
  · cases ho : D.off with
    | false =>
      have hox : X.off = false := by rw [← h.sim.off]; exact ho
      -- nothing is pending, whatever the reference holds
      refine tw_one (X' := X) (e := 14) h hf (fun hd R hR => disk_Restart hd h.sim.dgood hk hks (fun _ w' hd' hf' => hR w' D rfl h.sim hd' hf') fun hx => by rw [ho] at hx; cases hx) (fun w3 hr hf3 R hR => ?_) fun w4 D' hp h4 k4 => hR w4 (.inr ⟨d, D', x, _, rfl, rfl, hp⟩) h4 k4
      obtain ⟨fv, hr⟩ := hr
      exact ref_Restart_on hr hox hR
    | true =>
      have hox : X.off = true := by rw [← h.sim.off]; exact ho
      obtain ⟨h1, h2, h3, h4⟩ := sim_back h.sim ho done
      have htot := h.sim.tot
      have hfew := h.sim.few
      have hok : Files.ok (X.back done D.pend).fs := fun p hp => by have := mem_total hp; unfold small; omega
      refine tw_one (X' := { X.back done D.pend with fs := (fateFs keep (X.back done D.pend).fs).1 }) (e := 0) h hf (fun hd R hR => disk_Restart hd h.sim.dgood hk hks (fun hx => by rw [ho] at hx; cases hx) fun _ => ⟨fun p hp => hok p (h1.mem_iff.1 hp), by rw [total_perm h1]; omega, by unfold small; rw [h1.length_eq]; omega, _, h1.symm, h2, fun w' fs' hfs hd' hf' => hR w' { D.back done with fs := fs' } rfl (sim_restart h.sim ho done keep hfs) hd' hf'⟩) (fun w3 hr hf3 R hR => ?_) fun w4 D' hp h4 k4 => hR w4 (.inr ⟨d, D', x, _, rfl, rfl, hp⟩) h4 k4
      obtain ⟨fv, hr⟩ := hr
      obtain ⟨le, hl3⟩ := hl w3 hf3
      have hnx := hr.nx
      exact ref_Restart hr h.sim.xgood (h.sim.pend ho).1 ⟨le, hl3.mono fun b hb _ hs => by
        rcases hs with rfl | ⟨h, _⟩
        · exact hb hnx
        · exact hb h⟩ hks (fun hx => by rw [hox] at hx; cases hx) fun _ => ⟨hok, by omega, by unfold small; omega, fun w' hr' hf' => hR w' hr' hf'⟩
end Go.Proofs.YtppefblkmgihoaaDoor
