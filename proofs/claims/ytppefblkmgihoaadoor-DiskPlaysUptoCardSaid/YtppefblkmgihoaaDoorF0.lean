/- What these functions of the program come to, operation by operation (printed by wip/shprint.py). -/
import Derived.Test.YtppefblkmgihoaaDoorEv
import Derived.Test.YtppefblkmgihoaaDoorM
set_option linter.unusedVariables false
set_option maxRecDepth 100000
namespace Go.Proofs.YtppefblkmgihoaaDoor
open Go.Sh

theorem T.ty_24 : tyK Tryd.prog 24 = 2 := by kernel_rfl
theorem T.ty_28 : tyK Tryd.prog 28 = 2 := by kernel_rfl
theorem T.ty_4 : tyK Tryd.prog 4 = 1 := by kernel_rfl
theorem T.ln_22 (A : Option Addr) (n c : Nat) (w : World) (K : Value → World → Prop) : ln Tryd.prog 22 (.slice A n c) w K = K (.int .i64 n) w := by kernel_rfl
theorem T.ia_22 (b o n c : Nat) (k : IntKind) (i : Int) (w : World) (K : Value → World → Prop) : ia Tryd.prog 22 (.slice (some ⟨b, o, none⟩) n c) (.int k i) w K = (0 ≤ i ∧ i < n ∧ K (.pointer (some ⟨b, o + i.toNat * 7, none⟩)) w) := by kernel_rfl
theorem T.ld_36 (b i : Nat) (w : World) (K : Value → World → Prop) : ld Tryd.prog 36 (.pointer (some ⟨b, i, none⟩)) w K = (ldn (rdn w.heap[b]? i 7) fun u => K u w) := by kernel_rfl
theorem T.al_36  (w : World) (K : Value → World → Prop) : al Tryd.prog 36 w K = K (.pointer (some ⟨w.heap.size, 0, none⟩)) (w.alloc (.cells #[.int .u8 0, .string ⟨#[]⟩, .string ⟨#[]⟩, .slice none 0 0, .int .i64 0, .bool false, .slice none 0 0] 36)) := by kernel_rfl
theorem T.st_36 (b i : Nat) (x : Value) (w : World) (K : World → Prop) : st Tryd.prog 36 (.pointer (some ⟨b, i, none⟩)) x w K = stN w b i 7 x K := by kernel_rfl
theorem T.fa_36_3 (b i : Nat) (w : World) (K : Value → World → Prop) : fa Tryd.prog 36 (.pointer (some ⟨b, i, none⟩)) 3 w K = K (.pointer (some ⟨b, i + 3, none⟩)) w := by kernel_rfl
theorem T.ld_31 (b i : Nat) (w : World) (K : Value → World → Prop) : ld Tryd.prog 31 (.pointer (some ⟨b, i, none⟩)) w K = (ldc (rdc w.heap[b]? i) fun u => K u w) := by kernel_rfl
theorem T.ln_31 (A : Option Addr) (n c : Nat) (w : World) (K : Value → World → Prop) : ln Tryd.prog 31 (.slice A n c) w K = K (.int .i64 n) w := by kernel_rfl
theorem T.sl_31 (A : Option Addr) (n c : Nat) (lo hi mx : Option Value) (w : World) (K : Value → World → Prop) : sl Tryd.prog 31 (.slice A n c) lo hi mx w K = (slc (bnd n c lo hi mx) fun l h m => K (.slice (if m = l then A else A.map (·.add (l * 1))) (h - l) (m - l)) w) := by kernel_rfl
theorem T.st_31 (b i : Nat) (x : Value) (w : World) (K : World → Prop) : st Tryd.prog 31 (.pointer (some ⟨b, i, none⟩)) x w K = st1 w b i x K := by kernel_rfl
theorem T.fa_36_1 (b i : Nat) (w : World) (K : Value → World → Prop) : fa Tryd.prog 36 (.pointer (some ⟨b, i, none⟩)) 1 w K = K (.pointer (some ⟨b, i + 1, none⟩)) w := by kernel_rfl
theorem T.ld_9 (b i : Nat) (w : World) (K : Value → World → Prop) : ld Tryd.prog 9 (.pointer (some ⟨b, i, none⟩)) w K = (ldc (rdc w.heap[b]? i) fun u => K u w) := by kernel_rfl
theorem T.fa_36_2 (b i : Nat) (w : World) (K : Value → World → Prop) : fa Tryd.prog 36 (.pointer (some ⟨b, i, none⟩)) 2 w K = K (.pointer (some ⟨b, i + 2, none⟩)) w := by kernel_rfl
theorem T.mk_31 (n m : Int) (k l : IntKind) (w : World) (K : Value → World → Prop) : mk Tryd.prog 31 (.int k n) (.int l m) w K = (0 ≤ n ∧ n ≤ m ∧ m ≤ 9223372036854775807 ∧ (1 : Nat) * m ≤ 281474976710656 ∧ K (.slice (some ⟨w.heap.size, 0, none⟩) n.toNat m.toNat) (w.alloc (.cells (zeros #[.int .u8 0] m.toNat).toArray 5))) := by kernel_rfl
theorem T.bs_31_1 (parts : Array (Nat × Value)) (w : World) (K : Value → World → Prop) : bs Tryd.prog 31 1 parts w K = (bsc 1 1 #[.int .u8 0] parts fun cs => K (.slice (some ⟨w.heap.size, 0, none⟩) 1 1) (w.alloc (.cells cs 5))) := by kernel_rfl
theorem T.bs_32_3 (parts : Array (Nat × Value)) (w : World) (K : Value → World → Prop) : bs Tryd.prog 32 3 parts w K = (bsc 3 1 #[.bool false] parts fun cs => K (.slice (some ⟨w.heap.size, 0, none⟩) 3 3) (w.alloc (.cells cs 4))) := by kernel_rfl
theorem T.bd_44_1  (x0 : Value) (w : World) (K : Value → World → Prop) : bd Tryd.prog 44 #[(1, x0)] w K = (bdc #[.bool false, .slice none 0 0] [(1, 1, x0)] fun u => K u w) := bd_bdc (z := .agg #[.bool false, .slice none 0 0]) (by kernel_rfl) [((1, 1, 1), x0)] (by kernel_rfl)
theorem T.ia_31 (b o n c : Nat) (k : IntKind) (i : Int) (w : World) (K : Value → World → Prop) : ia Tryd.prog 31 (.slice (some ⟨b, o, none⟩) n c) (.int k i) w K = (0 ≤ i ∧ i < n ∧ K (.pointer (some ⟨b, o + i.toNat * 1, none⟩)) w) := by kernel_rfl
theorem T.ld_5 (b i : Nat) (w : World) (K : Value → World → Prop) : ld Tryd.prog 5 (.pointer (some ⟨b, i, none⟩)) w K = (ldc (rdc w.heap[b]? i) fun u => K u w) := by kernel_rfl
theorem T.bd_49_0_1  (x0 : Value) (x1 : Value) (w : World) (K : Value → World → Prop) : bd Tryd.prog 49 #[(0, x0), (1, x1)] w K = (bdc #[.map none, .int .i64 0, .bool false, .int .i64 0, .int .i64 0, .nilFunc] [(0, 1, x0), (1, 1, x1)] fun u => K u w) := bd_bdc (z := .agg #[.map none, .int .i64 0, .bool false, .int .i64 0, .int .i64 0, .nilFunc]) (by kernel_rfl) [((0, 0, 1), x0), ((1, 1, 1), x1)] (by kernel_rfl)
theorem T.bd_52_1  (x0 : Value) (w : World) (K : Value → World → Prop) : bd Tryd.prog 52 #[(1, x0)] w K = (bdc #[.slice none 0 0, .int .i64 0, .bool false, .int .i64 0, .int .i64 0, .int .i64 0, .string ⟨#[]⟩, .string ⟨#[]⟩, .int .i64 0] [(1, 1, x0)] fun u => K u w) := bd_bdc (z := .agg #[.slice none 0 0, .int .i64 0, .bool false, .int .i64 0, .int .i64 0, .int .i64 0, .string ⟨#[]⟩, .string ⟨#[]⟩, .int .i64 0]) (by kernel_rfl) [((1, 1, 1), x0)] (by kernel_rfl)
theorem T.fa_36_0 (b i : Nat) (w : World) (K : Value → World → Prop) : fa Tryd.prog 36 (.pointer (some ⟨b, i, none⟩)) 0 w K = K (.pointer (some ⟨b, i + 0, none⟩)) w := by kernel_rfl
theorem T.st_5 (b i : Nat) (x : Value) (w : World) (K : World → Prop) : st Tryd.prog 5 (.pointer (some ⟨b, i, none⟩)) x w K = st1 w b i x K := by kernel_rfl
theorem T.fa_36_4 (b i : Nat) (w : World) (K : Value → World → Prop) : fa Tryd.prog 36 (.pointer (some ⟨b, i, none⟩)) 4 w K = K (.pointer (some ⟨b, i + 4, none⟩)) w := by kernel_rfl
theorem T.ld_3 (b i : Nat) (w : World) (K : Value → World → Prop) : ld Tryd.prog 3 (.pointer (some ⟨b, i, none⟩)) w K = (ldc (rdc w.heap[b]? i) fun u => K u w) := by kernel_rfl
theorem T.fa_36_5 (b i : Nat) (w : World) (K : Value → World → Prop) : fa Tryd.prog 36 (.pointer (some ⟨b, i, none⟩)) 5 w K = K (.pointer (some ⟨b, i + 5, none⟩)) w := by kernel_rfl
theorem T.ld_34 (b i : Nat) (w : World) (K : Value → World → Prop) : ld Tryd.prog 34 (.pointer (some ⟨b, i, none⟩)) w K = (ldn (rdn w.heap[b]? i 2) fun u => K u w) := by kernel_rfl
theorem T.fa_52_2 (b i : Nat) (w : World) (K : Value → World → Prop) : fa Tryd.prog 52 (.pointer (some ⟨b, i, none⟩)) 2 w K = K (.pointer (some ⟨b, i + 2, none⟩)) w := by kernel_rfl
theorem T.ld_4 (b i : Nat) (w : World) (K : Value → World → Prop) : ld Tryd.prog 4 (.pointer (some ⟨b, i, none⟩)) w K = (ldc (rdc w.heap[b]? i) fun u => K u w) := by kernel_rfl
theorem T.fa_52_4 (b i : Nat) (w : World) (K : Value → World → Prop) : fa Tryd.prog 52 (.pointer (some ⟨b, i, none⟩)) 4 w K = K (.pointer (some ⟨b, i + 4, none⟩)) w := by kernel_rfl
theorem T.fa_49_2 (b i : Nat) (w : World) (K : Value → World → Prop) : fa Tryd.prog 49 (.pointer (some ⟨b, i, none⟩)) 2 w K = K (.pointer (some ⟨b, i + 2, none⟩)) w := by kernel_rfl
theorem T.fa_49_3 (b i : Nat) (w : World) (K : Value → World → Prop) : fa Tryd.prog 49 (.pointer (some ⟨b, i, none⟩)) 3 w K = K (.pointer (some ⟨b, i + 3, none⟩)) w := by kernel_rfl
theorem T.st_3 (b i : Nat) (x : Value) (w : World) (K : World → Prop) : st Tryd.prog 3 (.pointer (some ⟨b, i, none⟩)) x w K = st1 w b i x K := by kernel_rfl
theorem T.fa_49_4 (b i : Nat) (w : World) (K : Value → World → Prop) : fa Tryd.prog 49 (.pointer (some ⟨b, i, none⟩)) 4 w K = K (.pointer (some ⟨b, i + 4, none⟩)) w := by kernel_rfl
theorem T.st_4 (b i : Nat) (x : Value) (w : World) (K : World → Prop) : st Tryd.prog 4 (.pointer (some ⟨b, i, none⟩)) x w K = st1 w b i x K := by kernel_rfl
theorem T.fa_44_0 (b i : Nat) (w : World) (K : Value → World → Prop) : fa Tryd.prog 44 (.pointer (some ⟨b, i, none⟩)) 0 w K = K (.pointer (some ⟨b, i + 0, none⟩)) w := by kernel_rfl
theorem T.fa_49_5 (b i : Nat) (w : World) (K : Value → World → Prop) : fa Tryd.prog 49 (.pointer (some ⟨b, i, none⟩)) 5 w K = K (.pointer (some ⟨b, i + 5, none⟩)) w := by kernel_rfl
theorem T.ld_1 (b i : Nat) (w : World) (K : Value → World → Prop) : ld Tryd.prog 1 (.pointer (some ⟨b, i, none⟩)) w K = (ldc (rdc w.heap[b]? i) fun u => K u w) := by kernel_rfl
theorem T.ln_71 (A : Option Addr) (n c : Nat) (w : World) (K : Value → World → Prop) : ln Tryd.prog 71 (.slice A n c) w K = K (.int .i64 n) w := by kernel_rfl
theorem T.ia_71 (b o n c : Nat) (k : IntKind) (i : Int) (w : World) (K : Value → World → Prop) : ia Tryd.prog 71 (.slice (some ⟨b, o, none⟩) n c) (.int k i) w K = (0 ≤ i ∧ i < n ∧ K (.pointer (some ⟨b, o + i.toNat * 1, none⟩)) w) := by kernel_rfl
theorem T.fa_49_0 (b i : Nat) (w : World) (K : Value → World → Prop) : fa Tryd.prog 49 (.pointer (some ⟨b, i, none⟩)) 0 w K = K (.pointer (some ⟨b, i + 0, none⟩)) w := by kernel_rfl
theorem T.ld_47 (b i : Nat) (w : World) (K : Value → World → Prop) : ld Tryd.prog 47 (.pointer (some ⟨b, i, none⟩)) w K = (ldc (rdc w.heap[b]? i) fun u => K u w) := by kernel_rfl
theorem T.lk_47 (m k : Value) (ok : Bool) (w : World) (K : Value → World → Prop) : lk Tryd.prog 47 m k ok w K = (lkc .string (.slice none 0 0) (mapEs w m) k ok fun u => K u w) := by kernel_rfl
theorem T.ln_75 (A : Option Addr) (n c : Nat) (w : World) (K : Value → World → Prop) : ln Tryd.prog 75 (.slice A n c) w K = K (.int .i64 n) w := by kernel_rfl
theorem T.ia_75 (b o n c : Nat) (k : IntKind) (i : Int) (w : World) (K : Value → World → Prop) : ia Tryd.prog 75 (.slice (some ⟨b, o, none⟩) n c) (.int k i) w K = (0 ≤ i ∧ i < n ∧ K (.pointer (some ⟨b, o + i.toNat * 33, none⟩)) w) := by kernel_rfl
theorem T.fa_82_1 (b i : Nat) (w : World) (K : Value → World → Prop) : fa Tryd.prog 82 (.pointer (some ⟨b, i, none⟩)) 1 w K = K (.pointer (some ⟨b, i + 32, none⟩)) w := by kernel_rfl
theorem T.fa_44_1 (b i : Nat) (w : World) (K : Value → World → Prop) : fa Tryd.prog 44 (.pointer (some ⟨b, i, none⟩)) 1 w K = K (.pointer (some ⟨b, i + 1, none⟩)) w := by kernel_rfl
theorem T.ld_32 (b i : Nat) (w : World) (K : Value → World → Prop) : ld Tryd.prog 32 (.pointer (some ⟨b, i, none⟩)) w K = (ldc (rdc w.heap[b]? i) fun u => K u w) := by kernel_rfl
theorem T.ln_32 (A : Option Addr) (n c : Nat) (w : World) (K : Value → World → Prop) : ln Tryd.prog 32 (.slice A n c) w K = K (.int .i64 n) w := by kernel_rfl
theorem T.ia_32 (b o n c : Nat) (k : IntKind) (i : Int) (w : World) (K : Value → World → Prop) : ia Tryd.prog 32 (.slice (some ⟨b, o, none⟩) n c) (.int k i) w K = (0 ≤ i ∧ i < n ∧ K (.pointer (some ⟨b, o + i.toNat * 1, none⟩)) w) := by kernel_rfl
theorem T.bd_82  (w : World) (K : Value → World → Prop) : bd Tryd.prog 82 #[] w K = (bdc #[.int .u8 0, .int .u8 0, .int .u8 0, .int .u8 0, .int .u8 0, .int .u8 0, .int .u8 0, .int .u8 0, .int .u8 0, .int .u8 0, .int .u8 0, .int .u8 0, .int .u8 0, .int .u8 0, .int .u8 0, .int .u8 0, .int .u8 0, .int .u8 0, .int .u8 0, .int .u8 0, .int .u8 0, .int .u8 0, .int .u8 0, .int .u8 0, .int .u8 0, .int .u8 0, .int .u8 0, .int .u8 0, .int .u8 0, .int .u8 0, .int .u8 0, .int .u8 0, .bool false] [] fun u => K u w) := bd_bdc (z := .agg #[.int .u8 0, .int .u8 0, .int .u8 0, .int .u8 0, .int .u8 0, .int .u8 0, .int .u8 0, .int .u8 0, .int .u8 0, .int .u8 0, .int .u8 0, .int .u8 0, .int .u8 0, .int .u8 0, .int .u8 0, .int .u8 0, .int .u8 0, .int .u8 0, .int .u8 0, .int .u8 0, .int .u8 0, .int .u8 0, .int .u8 0, .int .u8 0, .int .u8 0, .int .u8 0, .int .u8 0, .int .u8 0, .int .u8 0, .int .u8 0, .int .u8 0, .int .u8 0, .bool false]) (by kernel_rfl) [] (by kernel_rfl)
theorem T.st_82 (b i : Nat) (x : Value) (w : World) (K : World → Prop) : st Tryd.prog 82 (.pointer (some ⟨b, i, none⟩)) x w K = stN w b i 33 x K := by kernel_rfl
theorem T.mu_47 (r : Nat) (k v : Value) (w : World) (K : World → Prop) : mu Tryd.prog 47 (.map (some r)) k v w K = muc .string w r k v K := by kernel_rfl
theorem T.al_88  (w : World) (K : Value → World → Prop) : al Tryd.prog 88 w K = K (.pointer (some ⟨w.heap.size, 0, none⟩)) (w.alloc (.cells #[.slice none 0 0, .int .i64 0, .int .i8 0] 88)) := by kernel_rfl
theorem T.ld_82 (b i : Nat) (w : World) (K : Value → World → Prop) : ld Tryd.prog 82 (.pointer (some ⟨b, i, none⟩)) w K = (ldn (rdn w.heap[b]? i 33) fun u => K u w) := by kernel_rfl
theorem T.al_82  (w : World) (K : Value → World → Prop) : al Tryd.prog 82 w K = K (.pointer (some ⟨w.heap.size, 0, none⟩)) (w.alloc (.cells #[.int .u8 0, .int .u8 0, .int .u8 0, .int .u8 0, .int .u8 0, .int .u8 0, .int .u8 0, .int .u8 0, .int .u8 0, .int .u8 0, .int .u8 0, .int .u8 0, .int .u8 0, .int .u8 0, .int .u8 0, .int .u8 0, .int .u8 0, .int .u8 0, .int .u8 0, .int .u8 0, .int .u8 0, .int .u8 0, .int .u8 0, .int .u8 0, .int .u8 0, .int .u8 0, .int .u8 0, .int .u8 0, .int .u8 0, .int .u8 0, .int .u8 0, .int .u8 0, .bool false] 82)) := by kernel_rfl
theorem T.fa_82_0 (b i : Nat) (w : World) (K : Value → World → Prop) : fa Tryd.prog 82 (.pointer (some ⟨b, i, none⟩)) 0 w K = K (.pointer (some ⟨b, i + 0, none⟩)) w := by kernel_rfl
theorem T.sl_80 (a : Addr) (lo hi mx : Option Value) (w : World) (K : Value → World → Prop) : sl Tryd.prog 80 (.pointer (some a)) lo hi mx w K = (slc (bnd 32 32 lo hi mx) fun l h m => K (.slice (some (if m = l then a else a.add (l * 1))) (h - l) (m - l)) w) := by kernel_rfl
theorem T.bs_31_0 (parts : Array (Nat × Value)) (w : World) (K : Value → World → Prop) : bs Tryd.prog 31 0 parts w K = (bsc 0 1 #[.int .u8 0] parts fun cs => K (.slice (some ⟨w.heap.size, 0, none⟩) 0 0) (w.alloc (.cells cs 5))) := by kernel_rfl
theorem T.ap_31_31 (A : Option Addr) (n c : Nat) (x : Value) (w : World) (K : Value → World → Prop) : ap Tryd.prog 31 31 (.slice A n c) x w K = apc 5 1 1 #[.int .u8 0] A n c (src w 1 x) w K := by kernel_rfl
theorem T.bs_31_3 (parts : Array (Nat × Value)) (w : World) (K : Value → World → Prop) : bs Tryd.prog 31 3 parts w K = (bsc 3 1 #[.int .u8 0] parts fun cs => K (.slice (some ⟨w.heap.size, 0, none⟩) 3 3) (w.alloc (.cells cs 5))) := by kernel_rfl
theorem T.fa_52_0 (b i : Nat) (w : World) (K : Value → World → Prop) : fa Tryd.prog 52 (.pointer (some ⟨b, i, none⟩)) 0 w K = K (.pointer (some ⟨b, i + 0, none⟩)) w := by kernel_rfl
theorem T.ld_50 (b i : Nat) (w : World) (K : Value → World → Prop) : ld Tryd.prog 50 (.pointer (some ⟨b, i, none⟩)) w K = (ldc (rdc w.heap[b]? i) fun u => K u w) := by kernel_rfl
theorem T.ln_50 (A : Option Addr) (n c : Nat) (w : World) (K : Value → World → Prop) : ln Tryd.prog 50 (.slice A n c) w K = K (.int .i64 n) w := by kernel_rfl
theorem T.ia_50 (b o n c : Nat) (k : IntKind) (i : Int) (w : World) (K : Value → World → Prop) : ia Tryd.prog 50 (.slice (some ⟨b, o, none⟩) n c) (.int k i) w K = (0 ≤ i ∧ i < n ∧ K (.pointer (some ⟨b, o + i.toNat * 3, none⟩)) w) := by kernel_rfl
theorem T.ld_96 (b i : Nat) (w : World) (K : Value → World → Prop) : ld Tryd.prog 96 (.pointer (some ⟨b, i, none⟩)) w K = (ldn (rdn w.heap[b]? i 3) fun u => K u w) := by kernel_rfl
theorem T.al_96  (w : World) (K : Value → World → Prop) : al Tryd.prog 96 w K = K (.pointer (some ⟨w.heap.size, 0, none⟩)) (w.alloc (.cells #[.string ⟨#[]⟩, .slice none 0 0, .slice none 0 0] 96)) := by kernel_rfl
theorem T.st_96 (b i : Nat) (x : Value) (w : World) (K : World → Prop) : st Tryd.prog 96 (.pointer (some ⟨b, i, none⟩)) x w K = stN w b i 3 x K := by kernel_rfl
theorem T.fa_96_2 (b i : Nat) (w : World) (K : Value → World → Prop) : fa Tryd.prog 96 (.pointer (some ⟨b, i, none⟩)) 2 w K = K (.pointer (some ⟨b, i + 2, none⟩)) w := by kernel_rfl
theorem T.fa_52_1 (b i : Nat) (w : World) (K : Value → World → Prop) : fa Tryd.prog 52 (.pointer (some ⟨b, i, none⟩)) 1 w K = K (.pointer (some ⟨b, i + 1, none⟩)) w := by kernel_rfl
theorem T.bd_96_0  (x0 : Value) (w : World) (K : Value → World → Prop) : bd Tryd.prog 96 #[(0, x0)] w K = (bdc #[.string ⟨#[]⟩, .slice none 0 0, .slice none 0 0] [(0, 1, x0)] fun u => K u w) := bd_bdc (z := .agg #[.string ⟨#[]⟩, .slice none 0 0, .slice none 0 0]) (by kernel_rfl) [((0, 0, 1), x0)] (by kernel_rfl)
theorem T.fa_96_1 (b i : Nat) (w : World) (K : Value → World → Prop) : fa Tryd.prog 96 (.pointer (some ⟨b, i, none⟩)) 1 w K = K (.pointer (some ⟨b, i + 1, none⟩)) w := by kernel_rfl
theorem T.bs_32_0 (parts : Array (Nat × Value)) (w : World) (K : Value → World → Prop) : bs Tryd.prog 32 0 parts w K = (bsc 0 1 #[.bool false] parts fun cs => K (.slice (some ⟨w.heap.size, 0, none⟩) 0 0) (w.alloc (.cells cs 4))) := by kernel_rfl
theorem T.ap_32_32 (A : Option Addr) (n c : Nat) (x : Value) (w : World) (K : Value → World → Prop) : ap Tryd.prog 32 32 (.slice A n c) x w K = apc 4 1 1 #[.bool false] A n c (src w 1 x) w K := by kernel_rfl
theorem T.bd_96_0_1_2  (x0 : Value) (x1 : Value) (x2 : Value) (w : World) (K : Value → World → Prop) : bd Tryd.prog 96 #[(0, x0), (1, x1), (2, x2)] w K = (bdc #[.string ⟨#[]⟩, .slice none 0 0, .slice none 0 0] [(0, 1, x0), (1, 1, x1), (2, 1, x2)] fun u => K u w) := bd_bdc (z := .agg #[.string ⟨#[]⟩, .slice none 0 0, .slice none 0 0]) (by kernel_rfl) [((0, 0, 1), x0), ((1, 1, 1), x1), ((2, 2, 1), x2)] (by kernel_rfl)
theorem T.fa_52_5 (b i : Nat) (w : World) (K : Value → World → Prop) : fa Tryd.prog 52 (.pointer (some ⟨b, i, none⟩)) 5 w K = K (.pointer (some ⟨b, i + 5, none⟩)) w := by kernel_rfl
theorem T.ld_24 (b i : Nat) (w : World) (K : Value → World → Prop) : ld Tryd.prog 24 (.pointer (some ⟨b, i, none⟩)) w K = (ldc (rdc w.heap[b]? i) fun u => K u w) := by kernel_rfl
theorem T.fa_52_3 (b i : Nat) (w : World) (K : Value → World → Prop) : fa Tryd.prog 52 (.pointer (some ⟨b, i, none⟩)) 3 w K = K (.pointer (some ⟨b, i + 3, none⟩)) w := by kernel_rfl
theorem T.al_44  (w : World) (K : Value → World → Prop) : al Tryd.prog 44 w K = K (.pointer (some ⟨w.heap.size, 0, none⟩)) (w.alloc (.cells #[.bool false, .slice none 0 0] 44)) := by kernel_rfl
theorem T.fa_34_0 (b i : Nat) (w : World) (K : Value → World → Prop) : fa Tryd.prog 34 (.pointer (some ⟨b, i, none⟩)) 0 w K = K (.pointer (some ⟨b, i + 0, none⟩)) w := by kernel_rfl
theorem T.fa_34_1 (b i : Nat) (w : World) (K : Value → World → Prop) : fa Tryd.prog 34 (.pointer (some ⟨b, i, none⟩)) 1 w K = K (.pointer (some ⟨b, i + 1, none⟩)) w := by kernel_rfl
theorem T.bd_44_0_1  (x0 : Value) (x1 : Value) (w : World) (K : Value → World → Prop) : bd Tryd.prog 44 #[(0, x0), (1, x1)] w K = (bdc #[.bool false, .slice none 0 0] [(0, 1, x0), (1, 1, x1)] fun u => K u w) := bd_bdc (z := .agg #[.bool false, .slice none 0 0]) (by kernel_rfl) [((0, 0, 1), x0), ((1, 1, 1), x1)] (by kernel_rfl)
theorem T.st_44 (b i : Nat) (x : Value) (w : World) (K : World → Prop) : st Tryd.prog 44 (.pointer (some ⟨b, i, none⟩)) x w K = stN w b i 2 x K := by kernel_rfl
theorem T.ld_44 (b i : Nat) (w : World) (K : Value → World → Prop) : ld Tryd.prog 44 (.pointer (some ⟨b, i, none⟩)) w K = (ldn (rdn w.heap[b]? i 2) fun u => K u w) := by kernel_rfl
theorem T.fa_52_6 (b i : Nat) (w : World) (K : Value → World → Prop) : fa Tryd.prog 52 (.pointer (some ⟨b, i, none⟩)) 6 w K = K (.pointer (some ⟨b, i + 6, none⟩)) w := by kernel_rfl
theorem T.fa_52_7 (b i : Nat) (w : World) (K : Value → World → Prop) : fa Tryd.prog 52 (.pointer (some ⟨b, i, none⟩)) 7 w K = K (.pointer (some ⟨b, i + 7, none⟩)) w := by kernel_rfl
theorem T.fa_52_8 (b i : Nat) (w : World) (K : Value → World → Prop) : fa Tryd.prog 52 (.pointer (some ⟨b, i, none⟩)) 8 w K = K (.pointer (some ⟨b, i + 8, none⟩)) w := by kernel_rfl
theorem T.st_32 (b i : Nat) (x : Value) (w : World) (K : World → Prop) : st Tryd.prog 32 (.pointer (some ⟨b, i, none⟩)) x w K = st1 w b i x K := by kernel_rfl
theorem T.fa_96_0 (b i : Nat) (w : World) (K : Value → World → Prop) : fa Tryd.prog 96 (.pointer (some ⟨b, i, none⟩)) 0 w K = K (.pointer (some ⟨b, i + 0, none⟩)) w := by kernel_rfl
theorem T.bs_71_1 (parts : Array (Nat × Value)) (w : World) (K : Value → World → Prop) : bs Tryd.prog 71 1 parts w K = (bsc 1 1 #[.string ⟨#[]⟩] parts fun cs => K (.slice (some ⟨w.heap.size, 0, none⟩) 1 1) (w.alloc (.cells cs 9))) := by kernel_rfl
theorem T.ap_71_71 (A : Option Addr) (n c : Nat) (x : Value) (w : World) (K : Value → World → Prop) : ap Tryd.prog 71 71 (.slice A n c) x w K = apc 9 1 16 #[.string ⟨#[]⟩] A n c (src w 1 x) w K := by kernel_rfl
theorem T.rg_47 (r : Nat) (w : World) (K : Value → World → Prop) : rg Tryd.prog 47 (.map (some r)) w K = (rgc w.heap[r]? fun c => K (.pointer (some ⟨w.heap.size, 0, none⟩)) (w.alloc (.mapIter (some r) c #[] c))) := by kernel_rfl
theorem T.st_1 (b i : Nat) (x : Value) (w : World) (K : World → Prop) : st Tryd.prog 1 (.pointer (some ⟨b, i, none⟩)) x w K = st1 w b i x K := by kernel_rfl
theorem T.sl_75 (A : Option Addr) (n c : Nat) (lo hi mx : Option Value) (w : World) (K : Value → World → Prop) : sl Tryd.prog 75 (.slice A n c) lo hi mx w K = (slc (bnd n c lo hi mx) fun l h m => K (.slice (if m = l then A else A.map (·.add (l * 33))) (h - l) (m - l)) w) := by kernel_rfl
theorem T.ty_75 : tyK Tryd.prog 75 = 3 := by kernel_rfl
theorem T.bs_75_0 (parts : Array (Nat × Value)) (w : World) (K : Value → World → Prop) : bs Tryd.prog 75 0 parts w K = (bsc 0 33 #[.int .u8 0, .int .u8 0, .int .u8 0, .int .u8 0, .int .u8 0, .int .u8 0, .int .u8 0, .int .u8 0, .int .u8 0, .int .u8 0, .int .u8 0, .int .u8 0, .int .u8 0, .int .u8 0, .int .u8 0, .int .u8 0, .int .u8 0, .int .u8 0, .int .u8 0, .int .u8 0, .int .u8 0, .int .u8 0, .int .u8 0, .int .u8 0, .int .u8 0, .int .u8 0, .int .u8 0, .int .u8 0, .int .u8 0, .int .u8 0, .int .u8 0, .int .u8 0, .bool false] parts fun cs => K (.slice (some ⟨w.heap.size, 0, none⟩) 0 0) (w.alloc (.cells cs 82))) := by kernel_rfl
theorem T.ap_75_75 (A : Option Addr) (n c : Nat) (x : Value) (w : World) (K : Value → World → Prop) : ap Tryd.prog 75 75 (.slice A n c) x w K = apc 82 33 33 #[.int .u8 0, .int .u8 0, .int .u8 0, .int .u8 0, .int .u8 0, .int .u8 0, .int .u8 0, .int .u8 0, .int .u8 0, .int .u8 0, .int .u8 0, .int .u8 0, .int .u8 0, .int .u8 0, .int .u8 0, .int .u8 0, .int .u8 0, .int .u8 0, .int .u8 0, .int .u8 0, .int .u8 0, .int .u8 0, .int .u8 0, .int .u8 0, .int .u8 0, .int .u8 0, .int .u8 0, .int .u8 0, .int .u8 0, .int .u8 0, .int .u8 0, .int .u8 0, .bool false] A n c (src w 33 x) w K := by kernel_rfl
theorem T.ln_9 (s : ByteArray) (w : World) (K : Value → World → Prop) : ln Tryd.prog 9 (.string s) w K = K (.int .i64 s.size) w := by kernel_rfl
theorem T.ix_9 (s : ByteArray) (k : IntKind) (i : Int) (w : World) (K : Value → World → Prop) : ix Tryd.prog 9 (.string s) (.int k i) w K = (0 ≤ i ∧ ixs s[i.toNat]? fun u => K u w) := by kernel_rfl
theorem T.bs_50_1 (parts : Array (Nat × Value)) (w : World) (K : Value → World → Prop) : bs Tryd.prog 50 1 parts w K = (bsc 1 3 #[.string ⟨#[]⟩, .slice none 0 0, .slice none 0 0] parts fun cs => K (.slice (some ⟨w.heap.size, 0, none⟩) 1 1) (w.alloc (.cells cs 96))) := by kernel_rfl
theorem T.ap_50_50 (A : Option Addr) (n c : Nat) (x : Value) (w : World) (K : Value → World → Prop) : ap Tryd.prog 50 50 (.slice A n c) x w K = apc 96 3 64 #[.string ⟨#[]⟩, .slice none 0 0, .slice none 0 0] A n c (src w 3 x) w K := by kernel_rfl
theorem T.st_50 (b i : Nat) (x : Value) (w : World) (K : World → Prop) : st Tryd.prog 50 (.pointer (some ⟨b, i, none⟩)) x w K = st1 w b i x K := by kernel_rfl
theorem T.mk_32 (n m : Int) (k l : IntKind) (w : World) (K : Value → World → Prop) : mk Tryd.prog 32 (.int k n) (.int l m) w K = (0 ≤ n ∧ n ≤ m ∧ m ≤ 9223372036854775807 ∧ (1 : Nat) * m ≤ 281474976710656 ∧ K (.slice (some ⟨w.heap.size, 0, none⟩) n.toNat m.toNat) (w.alloc (.cells (zeros #[.bool false] m.toNat).toArray 4))) := by kernel_rfl
theorem T.st_9 (b i : Nat) (x : Value) (w : World) (K : World → Prop) : st Tryd.prog 9 (.pointer (some ⟨b, i, none⟩)) x w K = st1 w b i x K := by kernel_rfl
theorem T.dl_47 (r : Nat) (k : Value) (w : World) (K : Value → World → Prop) : dl Tryd.prog 47 (.map (some r)) k w K = (dlc .string w r k fun w => K (.tuple #[]) w) := by kernel_rfl

/-- passbook/passbooklaw09.DiskPlays (function 3); slots: 0:sectors 1:script 2:sectors 3:script 5:d 6:e 7:x 8:f 9:i 10:o -/
def F.l09_DiskPlays (a0 a1 : Value) (w : World) (R : Value → World → Prop) : Prop :=
  cl Tryd.prog 4 #[] w fun v11 w =>
  un .not v11 w fun v12 w =>
  cnd v12
  (R (.bool false) w)
  (cl Tryd.prog 5 #[a0] w fun v15 w =>
  ex v15 0 w fun v16 w =>
  ex v15 1 w fun v17 w =>
  cl Tryd.prog 6 #[a0] w fun v20 w =>
  ex v20 0 w fun v21 w =>
  ex v20 1 w fun v22 w =>
  cutF [] (fun R1 =>
  bin Tryd.prog .neq 3 (.tmp 23) (.tmp 24) v17 v22 w fun v25 w =>
  cnd v25
  (R (.bool false) w)
  (bin Tryd.prog .eql 24 (.tmp 27) (.const (.pointer .none)) v16 (.pointer .none) w fun v28 w =>
  bin Tryd.prog .eql 28 (.tmp 29) (.const (.pointer .none)) v21 (.pointer .none) w fun v30 w =>
  bin Tryd.prog .neq 4 (.tmp 28) (.tmp 30) v28 v30 w fun v31 w =>
  cnd v31
  (R (.bool false) w)
  (R1 [] w)))
  fun g1 w =>
  ln Tryd.prog 22 a1 w fun v34 w =>
  loopF [35] [(.int .i64 0)] w fun g2 w C2 =>
  bin Tryd.prog .lss 3 (.tmp 35) (.tmp 34) (g2 35) v34 w fun v36 w =>
  cnd v36
  (ia Tryd.prog 22 a1 (g2 35) w fun v38 w =>
  ld Tryd.prog 36 v38 w fun v39 w =>
  al Tryd.prog 36 w fun v10 w =>
  st Tryd.prog 36 v10 v39 w fun w =>
  bin Tryd.prog .geq 3 (.tmp 40) (.const (.int .i64 200)) (g2 35) (.int .i64 200) w fun v41 w =>
  cnd v41
  (R (.bool true) w)
  (fa Tryd.prog 36 v10 3 w fun v42 w =>
  ld Tryd.prog 31 v42 w fun v43 w =>
  fa Tryd.prog 36 v10 3 w fun v44 w =>
  ld Tryd.prog 31 v44 w fun v45 w =>
  ln Tryd.prog 31 v45 w fun v46 w =>
  mn v46 (.int .i64 2000) w fun v47 w =>
  sl Tryd.prog 31 v43 none (some v47) none w fun v48 w =>
  fa Tryd.prog 36 v10 3 w fun v49 w =>
  st Tryd.prog 31 v49 v48 w fun w =>
  ld Tryd.prog 36 v10 w fun v52 w =>
  cl Tryd.prog 7 #[v16, v21, v52] w fun v53 w =>
  un .not v53 w fun v54 w =>
  cnd v54
  (R (.bool false) w)
  (fa Tryd.prog 36 v10 1 w fun v58 w =>
  ld Tryd.prog 9 v58 w fun v59 w =>
  cl Tryd.prog 8 #[v16, v21, v59] w fun v60 w =>
  un .not v60 w fun v61 w =>
  cnd v61
  (R (.bool false) w)
  (fa Tryd.prog 36 v10 2 w fun v66 w =>
  ld Tryd.prog 9 v66 w fun v67 w =>
  cl Tryd.prog 8 #[v16, v21, v67] w fun v68 w =>
  un .not v68 w fun v69 w =>
  cnd v69
  (R (.bool false) w)
  (bin Tryd.prog .add 3 (.tmp 35) (.const (.int .i64 1)) (g2 35) (.int .i64 1) w fun v71 w =>
  C2 [v71] w)))))
  (R (.bool true) w))

theorem C.l09_DiskPlays {a0 a1 : Value} {w : World} {R : Value → World → Prop} (h : F.l09_DiskPlays a0 a1 w R) : cl Tryd.prog 3 #[a0, a1] w R :=
  calls_of_vc (args := [a0, a1]) (an := (anL [(8, [35])])) (jn := (jnL [(7, [])])) mixed Tryd.func3 (by kernel_rfl) (by kernel_rfl) (of_decide_eq_true (by kernel_rfl)) (Eq.mp (by kernel_rfl) h)

/-- passbook/passbooklaw09.awake (function 4); slots: 1:d 2:e 3:f 4:p 5:g -/
def F.l09_awake (w : World) (R : Value → World → Prop) : Prop :=
  cl Tryd.prog 5 #[(.int .i64 4)] w fun v7 w =>
  ex v7 0 w fun v8 w =>
  ex v7 1 w fun v9 w =>
  cutF [] (fun R1 =>
  bin Tryd.prog .neq 25 (.tmp 10) (.const (.int .i64 0)) v9 (.int .i64 0) w fun v11 w =>
  cnd v11
  (R (.bool false) w)
  (bin Tryd.prog .eql 24 (.tmp 13) (.const (.pointer .none)) v8 (.pointer .none) w fun v14 w =>
  cnd v14
  (R (.bool false) w)
  (mk Tryd.prog 31 (.int .i64 33) (.int .i64 33) w fun v18 w =>
  cl Tryd.prog 9 #[v8, (.string ⟨#[97]⟩), v18] w fun v19 w =>
  bin Tryd.prog .neq 25 (.tmp 19) (.const (.int .i64 0)) v19 (.int .i64 0) w fun v20 w =>
  cnd v20
  (R (.bool false) w)
  (mk Tryd.prog 31 (.int .i64 96) (.int .i64 96) w fun v24 w =>
  cl Tryd.prog 9 #[v8, (.string ⟨#[98]⟩), v24] w fun v25 w =>
  bin Tryd.prog .neq 25 (.tmp 25) (.const (.int .i64 17)) v25 (.int .i64 17) w fun v26 w =>
  cnd v26
  (R (.bool false) w)
  (cl Tryd.prog 10 #[v8, (.int .i64 1)] w fun v30 w =>
  bin Tryd.prog .neq 25 (.tmp 30) (.const (.int .i64 0)) v30 (.int .i64 0) w fun v31 w =>
  cnd v31
  (R (.bool false) w)
  (bs Tryd.prog 31 1 #[(0, (.int .u8 7))] w fun v35 w =>
  cl Tryd.prog 9 #[v8, (.string ⟨#[97]⟩), v35] w fun v36 w =>
  bin Tryd.prog .neq 25 (.tmp 36) (.const (.int .i64 18)) v36 (.int .i64 18) w fun v37 w =>
  cnd v37
  (R (.bool false) w)
  (cl Tryd.prog 11 #[v8] w fun v41 w =>
  cnd v41
  (R (.bool false) w)
  (cl Tryd.prog 12 #[v8] w fun v45 w =>
  bin Tryd.prog .neq 3 (.tmp 45) (.const (.int .i64 2)) v45 (.int .i64 2) w fun v46 w =>
  cnd v46
  (R (.bool false) w)
  (R1 [] w)))))))))
  fun g1 w =>
  bs Tryd.prog 32 3 #[(0, (.bool false)), (1, (.bool true)), (2, (.bool true))] w fun v49 w =>
  bd Tryd.prog 44 #[(1, v49)] w fun v50 w =>
  cl Tryd.prog 13 #[v8, v50] w fun v51 w =>
  cl Tryd.prog 14 #[v8, (.string ⟨#[97]⟩)] w fun v54 w =>
  ex v54 0 w fun v55 w =>
  ex v54 1 w fun v56 w =>
  bin Tryd.prog .eql 25 (.tmp 57) (.const (.int .i64 0)) v51 (.int .i64 0) w fun v58 w =>
  cnd v58
  (bin Tryd.prog .eql 25 (.tmp 60) (.const (.int .i64 0)) v56 (.int .i64 0) w fun v61 w =>
  cnd v61
  (ln Tryd.prog 31 v55 w fun v65 w =>
  bin Tryd.prog .eql 3 (.tmp 65) (.const (.int .i64 96)) v65 (.int .i64 96) w fun v66 w =>
  cnd v66
  (ia Tryd.prog 31 v55 (.int .i64 64) w fun v70 w =>
  ld Tryd.prog 5 v70 w fun v71 w =>
  bin Tryd.prog .eql 5 (.tmp 71) (.const (.int .u8 7)) v71 (.int .u8 7) w fun v72 w =>
  R v72 w)
  (R (.bool false) w))
  (R (.bool false) w))
  (R (.bool false) w)

theorem C.l09_awake {w : World} {R : Value → World → Prop} (h : F.l09_awake w R) : cl Tryd.prog 4 #[] w R :=
  calls_of_vc (args := []) (an := (anL [])) (jn := (jnL [(4, [])])) mixed Tryd.func4 (by kernel_rfl) (by kernel_rfl) (of_decide_eq_true (by kernel_rfl)) (Eq.mp (by kernel_rfl) h)

/-- passbook/disk.New (function 5); slots: 0:sectors 1:sectors -/
def F.disk_New (a0 : Value) (w : World) (R : Value → World → Prop) : Prop :=
  bin Tryd.prog .lss 3 (.tmp 4) (.const (.int .i64 1)) a0 (.int .i64 1) w fun v5 w =>
  cnd v5
  (R (.tuple #[(.pointer .none), (.int .i64 1)]) w)
  (bin Tryd.prog .gtr 3 (.tmp 7) (.const (.int .i64 65536)) a0 (.int .i64 65536) w fun v8 w =>
  cnd v8
  (R (.tuple #[(.pointer .none), (.int .i64 1)]) w)
  (mm w fun v10 w =>
  bd Tryd.prog 49 #[(0, v10), (1, a0)] w fun v12 w =>
  bx 49 v12 w fun v13 w =>
  R (.tuple #[v13, (.int .i64 0)]) w))

theorem C.disk_New {a0 : Value} {w : World} {R : Value → World → Prop} (h : F.disk_New a0 w R) : cl Tryd.prog 5 #[a0] w R :=
  calls_of_vc (args := [a0]) (an := (anL [])) (jn := (jnL [])) mixed Tryd.func5 (by kernel_rfl) (by kernel_rfl) (of_decide_eq_true (by kernel_rfl)) (Eq.mp (by kernel_rfl) h)

/-- passbook/passbookref09.DocNew (function 6); slots: 0:sectors 1:sectors -/
def F.r09_DocNew (a0 : Value) (w : World) (R : Value → World → Prop) : Prop :=
  bin Tryd.prog .lss 3 (.tmp 4) (.const (.int .i64 1)) a0 (.int .i64 1) w fun v5 w =>
  cnd v5
  (R (.tuple #[(.pointer .none), (.int .i64 1)]) w)
  (bin Tryd.prog .gtr 3 (.tmp 7) (.const (.int .i64 65536)) a0 (.int .i64 65536) w fun v8 w =>
  cnd v8
  (R (.tuple #[(.pointer .none), (.int .i64 1)]) w)
  (bd Tryd.prog 52 #[(1, a0)] w fun v11 w =>
  bx 52 v11 w fun v12 w =>
  R (.tuple #[v12, (.int .i64 0)]) w))

theorem C.r09_DocNew {a0 : Value} {w : World} {R : Value → World → Prop} (h : F.r09_DocNew a0 w R) : cl Tryd.prog 6 #[a0] w R :=
  calls_of_vc (args := [a0]) (an := (anL [])) (jn := (jnL [])) mixed Tryd.func6 (by kernel_rfl) (by kernel_rfl) (of_decide_eq_true (by kernel_rfl)) (Eq.mp (by kernel_rfl) h)

/-- passbook/passbooklaw09.call (function 7); slots: 0:d 1:x 2:o 3:d 4:x 5:o 7:p 8:full 9:e 10:kept 11:i -/
def F.l09_call (a0 a1 a2 : Value) (w : World) (R : Value → World → Prop) : Prop :=
  bx 36 a2 w fun v5 w =>
  fa Tryd.prog 36 v5 0 w fun v12 w =>
  ld Tryd.prog 5 v12 w fun v13 w =>
  bin Tryd.prog .eql 5 (.tmp 13) (.const (.int .u8 0)) v13 (.int .u8 0) w fun v15 w =>
  cnd v15
  (fa Tryd.prog 36 v5 3 w fun v17 w =>
  ld Tryd.prog 31 v17 w fun v18 w =>
  cl Tryd.prog 15 #[v18] w fun v19 w =>
  ex v19 0 w fun v20 w =>
  ex v19 1 w fun v21 w =>
  fa Tryd.prog 36 v5 1 w fun v23 w =>
  ld Tryd.prog 9 v23 w fun v24 w =>
  cl Tryd.prog 9 #[a0, v24, v20] w fun v26 w =>
  fa Tryd.prog 36 v5 3 w fun v28 w =>
  ld Tryd.prog 31 v28 w fun v29 w =>
  cl Tryd.prog 16 #[v21, v29] w fun v30 w =>
  ln Tryd.prog 31 v21 w fun v32 w =>
  loopF [33] [(.int .i64 0)] w fun g1 w C1 =>
  bin Tryd.prog .lss 3 (.tmp 33) (.tmp 32) (g1 33) v32 w fun v34 w =>
  cnd v34
  (ia Tryd.prog 31 v21 (g1 33) w fun v38 w =>
  ld Tryd.prog 5 v38 w fun v39 w =>
  bin Tryd.prog .xor 5 (.tmp 39) (.const (.int .u8 1)) v39 (.int .u8 1) w fun v40 w =>
  ia Tryd.prog 31 v21 (g1 33) w fun v41 w =>
  st Tryd.prog 5 v41 v40 w fun w =>
  bin Tryd.prog .add 3 (.tmp 33) (.const (.int .i64 1)) (g1 33) (.int .i64 1) w fun v42 w =>
  C1 [v42] w)
  (fa Tryd.prog 36 v5 1 w fun v45 w =>
  ld Tryd.prog 9 v45 w fun v46 w =>
  fa Tryd.prog 36 v5 3 w fun v47 w =>
  ld Tryd.prog 31 v47 w fun v48 w =>
  cl Tryd.prog 17 #[a1, v46, v48] w fun v49 w =>
  bin Tryd.prog .eql 3 (.tmp 43) (.tmp 49) v26 v49 w fun v50 w =>
  cnd v50
  (R v30 w)
  (R (.bool false) w)))
  (bin Tryd.prog .eql 5 (.tmp 13) (.const (.int .u8 1)) v13 (.int .u8 1) w fun v55 w =>
  cnd v55
  (drawE w fun S1 w =>
  opS S1 (fa Tryd.prog 36 v5 1) fun v57 =>
  opS S1 (ld Tryd.prog 9 v57) fun v58 =>
  opS S1 (fa Tryd.prog 36 v5 1) fun v61 =>
  opS S1 (ld Tryd.prog 9 v61) fun v62 =>
  cl Tryd.prog 18 #[a0, v58] w fun v59 w =>
  S1 w ∧ (cl Tryd.prog 19 #[a1, v62] w fun v63 w =>
  S1 w ∧ (opS S1 (bin Tryd.prog .eql 3 (.tmp 59) (.tmp 63) v59 v63) fun v64 =>
  R v64 w)))
  (bin Tryd.prog .eql 5 (.tmp 13) (.const (.int .u8 2)) v13 (.int .u8 2) w fun v66 w =>
  cnd v66
  (drawE w fun S2 w =>
  opS S2 (fa Tryd.prog 36 v5 1) fun v68 =>
  opS S2 (ld Tryd.prog 9 v68) fun v69 =>
  opS S2 (fa Tryd.prog 36 v5 4) fun v70 =>
  opS S2 (ld Tryd.prog 3 v70) fun v71 =>
  opS S2 (fa Tryd.prog 36 v5 1) fun v74 =>
  opS S2 (ld Tryd.prog 9 v74) fun v75 =>
  opS S2 (fa Tryd.prog 36 v5 4) fun v76 =>
  opS S2 (ld Tryd.prog 3 v76) fun v77 =>
  cl Tryd.prog 20 #[a0, v69, v71] w fun v72 w =>
  S2 w ∧ (cl Tryd.prog 21 #[a1, v75, v77] w fun v78 w =>
  S2 w ∧ (opS S2 (bin Tryd.prog .eql 3 (.tmp 72) (.tmp 78) v72 v78) fun v79 =>
  R v79 w)))
  (bin Tryd.prog .eql 5 (.tmp 13) (.const (.int .u8 3)) v13 (.int .u8 3) w fun v81 w =>
  cnd v81
  (drawE w fun S3 w =>
  opS S3 (fa Tryd.prog 36 v5 1) fun v83 =>
  opS S3 (ld Tryd.prog 9 v83) fun v84 =>
  opS S3 (fa Tryd.prog 36 v5 2) fun v85 =>
  opS S3 (ld Tryd.prog 9 v85) fun v86 =>
  opS S3 (fa Tryd.prog 36 v5 1) fun v89 =>
  opS S3 (ld Tryd.prog 9 v89) fun v90 =>
  opS S3 (fa Tryd.prog 36 v5 2) fun v91 =>
  opS S3 (ld Tryd.prog 9 v91) fun v92 =>
  cl Tryd.prog 22 #[a0, v84, v86] w fun v87 w =>
  S3 w ∧ (cl Tryd.prog 23 #[a1, v90, v92] w fun v93 w =>
  S3 w ∧ (opS S3 (bin Tryd.prog .eql 3 (.tmp 87) (.tmp 93) v87 v93) fun v94 =>
  R v94 w)))
  (bin Tryd.prog .eql 5 (.tmp 13) (.const (.int .u8 4)) v13 (.int .u8 4) w fun v96 w =>
  cnd v96
  (drawE w fun S4 w =>
  opS S4 (fa Tryd.prog 36 v5 1) fun v98 =>
  opS S4 (ld Tryd.prog 9 v98) fun v99 =>
  opS S4 (fa Tryd.prog 36 v5 1) fun v102 =>
  opS S4 (ld Tryd.prog 9 v102) fun v103 =>
  cl Tryd.prog 24 #[a0, v99] w fun v100 w =>
  S4 w ∧ (cl Tryd.prog 25 #[a1, v103] w fun v104 w =>
  S4 w ∧ (opS S4 (bin Tryd.prog .eql 3 (.tmp 100) (.tmp 104) v100 v104) fun v105 =>
  R v105 w)))
  (bin Tryd.prog .eql 5 (.tmp 13) (.const (.int .u8 5)) v13 (.int .u8 5) w fun v107 w =>
  cnd v107
  (drawE w fun S5 w =>
  opS S5 (fa Tryd.prog 36 v5 4) fun v109 =>
  opS S5 (ld Tryd.prog 3 v109) fun v110 =>
  opS S5 (fa Tryd.prog 36 v5 4) fun v113 =>
  opS S5 (ld Tryd.prog 3 v113) fun v114 =>
  cl Tryd.prog 10 #[a0, v110] w fun v111 w =>
  S5 w ∧ (cl Tryd.prog 26 #[a1, v114] w fun v115 w =>
  S5 w ∧ (opS S5 (bin Tryd.prog .eql 3 (.tmp 111) (.tmp 115) v111 v115) fun v116 =>
  R v116 w)))
  (bin Tryd.prog .eql 5 (.tmp 13) (.const (.int .u8 6)) v13 (.int .u8 6) w fun v118 w =>
  cnd v118
  (drawE w fun S6 w =>
  opS S6 (fa Tryd.prog 36 v5 5) fun v120 =>
  opS S6 (ld Tryd.prog 34 v120) fun v121 =>
  opS S6 (fa Tryd.prog 36 v5 5) fun v125 =>
  opS S6 (ld Tryd.prog 34 v125) fun v126 =>
  cl Tryd.prog 27 #[v121] w fun v122 w =>
  S6 w ∧ (cl Tryd.prog 13 #[a0, v122] w fun v123 w =>
  S6 w ∧ (cl Tryd.prog 28 #[a1, v126] w fun v127 w =>
  S6 w ∧ (opS S6 (bin Tryd.prog .eql 3 (.tmp 123) (.tmp 127) v123 v127) fun v128 =>
  R v128 w))))
  (R (.bool true) w)))))))

theorem C.l09_call {a0 a1 a2 : Value} {w : World} {R : Value → World → Prop} (h : F.l09_call a0 a1 a2 w R) : cl Tryd.prog 7 #[a0, a1, a2] w R :=
  calls_of_vc (args := [a0, a1, a2]) (an := (anL [(7, [33])])) (jn := (jnL [])) mixed Tryd.func7 (by kernel_rfl) (by kernel_rfl) (of_decide_eq_true (by kernel_rfl)) (Eq.mp (by kernel_rfl) h)

/-- passbook/passbooklaw09.looks (function 8); slots: 0:d 1:x 2:name 3:d 4:x 5:name 7:p 8:e 9:q 10:n 11:f 12:k 13:g 14:same 15:i -/
def F.l09_looks (a0 a1 a2 : Value) (w : World) (R : Value → World → Prop) : Prop :=
  cl Tryd.prog 14 #[a0, a2] w fun v19 w =>
  ex v19 0 w fun v20 w =>
  ex v19 1 w fun v21 w =>
  cl Tryd.prog 29 #[a1, a2] w fun v25 w =>
  ex v25 0 w fun v26 w =>
  ex v25 1 w fun v27 w =>
  ex v25 2 w fun v28 w =>
  cl Tryd.prog 30 #[a0, a2] w fun v32 w =>
  ex v32 0 w fun v33 w =>
  ex v32 1 w fun v34 w =>
  cutF [14] (fun R1 =>
  cl Tryd.prog 31 #[v20, v26] w fun v37 w =>
  cnd v37
  (bin Tryd.prog .eql 3 (.tmp 39) (.tmp 40) v21 v28 w fun v41 w =>
  cnd v41
  (bin Tryd.prog .eql 3 (.tmp 44) (.tmp 45) v33 v27 w fun v46 w =>
  cnd v46
  (bin Tryd.prog .eql 3 (.tmp 49) (.tmp 50) v34 v28 w fun v51 w =>
  cnd v51
  (cl Tryd.prog 33 #[a0] w fun v55 w =>
  cl Tryd.prog 34 #[a1] w fun v57 w =>
  cl Tryd.prog 32 #[v55, v57] w fun v58 w =>
  R1 [v58] w)
  (R1 [(.bool false)] w))
  (R1 [(.bool false)] w))
  (R1 [(.bool false)] w))
  (R1 [(.bool false)] w))
  fun g1 w =>
  ln Tryd.prog 31 v20 w fun v61 w =>
  loopF [62] [(.int .i64 0)] w fun g2 w C2 =>
  bin Tryd.prog .lss 3 (.tmp 62) (.tmp 61) (g2 62) v61 w fun v63 w =>
  cnd v63
  (ia Tryd.prog 31 v20 (g2 62) w fun v67 w =>
  ld Tryd.prog 5 v67 w fun v68 w =>
  bin Tryd.prog .xor 5 (.tmp 68) (.const (.int .u8 1)) v68 (.int .u8 1) w fun v69 w =>
  ia Tryd.prog 31 v20 (g2 62) w fun v70 w =>
  st Tryd.prog 5 v70 v69 w fun w =>
  bin Tryd.prog .add 3 (.tmp 62) (.const (.int .i64 1)) (g2 62) (.int .i64 1) w fun v71 w =>
  C2 [v71] w)
  (bin Tryd.prog .eql 28 (.tmp 72) (.const (.pointer .none)) a1 (.pointer .none) w fun v73 w =>
  cnd v73
  (cnd (g1 14)
  (cl Tryd.prog 11 #[a0] w fun v77 w =>
  un .not v77 w fun v78 w =>
  cnd v78
  (cl Tryd.prog 12 #[a0] w fun v82 w =>
  bin Tryd.prog .eql 3 (.tmp 82) (.const (.int .i64 0)) v82 (.int .i64 0) w fun v83 w =>
  R v83 w)
  (R (.bool false) w))
  (R (.bool false) w))
  (drawE w fun S1 w =>
  cnd (g1 14)
  (nc a1 fun v90 =>
  opS S1 (fa Tryd.prog 52 v90 2) fun v91 =>
  opS S1 (ld Tryd.prog 4 v91) fun v92 =>
  opS S1 (un .not v92) fun v93 =>
  cl Tryd.prog 11 #[a0] w fun v88 w =>
  S1 w ∧ (opS S1 (bin Tryd.prog .eql 4 (.tmp 88) (.tmp 93) v88 v93) fun v94 =>
  cnd v94
  (nc a1 fun v100 =>
  opS S1 (fa Tryd.prog 52 v100 4) fun v101 =>
  opS S1 (ld Tryd.prog 3 v101) fun v102 =>
  cl Tryd.prog 12 #[a0] w fun v98 w =>
  S1 w ∧ (opS S1 (bin Tryd.prog .eql 3 (.tmp 98) (.tmp 102) v98 v102) fun v103 =>
  R v103 w))
  (S1 w ∧ (R (.bool false) w))))
  (S1 w ∧ (S1 w ∧ (R (.bool false) w)))))

theorem C.l09_looks {a0 a1 a2 : Value} {w : World} {R : Value → World → Prop} (h : F.l09_looks a0 a1 a2 w R) : cl Tryd.prog 8 #[a0, a1, a2] w R :=
  calls_of_vc (args := [a0, a1, a2]) (an := (anL [(6, [62])])) (jn := (jnL [(5, [14])])) mixed Tryd.func8 (by kernel_rfl) (by kernel_rfl) (of_decide_eq_true (by kernel_rfl)) (Eq.mp (by kernel_rfl) h)

/-- (*passbook/disk.Disk).Arm (function 10); slots: 0:d 1:n 2:d 3:n -/
def F.disk_Disk_Arm (a0 a1 : Value) (w : World) (R : Value → World → Prop) : Prop :=
  bin Tryd.prog .lss 3 (.tmp 6) (.const (.int .i64 0)) a1 (.int .i64 0) w fun v7 w =>
  cnd v7
  (R (.int .i64 1) w)
  (bin Tryd.prog .eql 24 (.tmp 9) (.const (.pointer .none)) a0 (.pointer .none) w fun v10 w =>
  cnd v10
  (R (.int .i64 7) w)
  (nc a0 fun v13 =>
  fa Tryd.prog 49 v13 2 w fun v14 w =>
  ld Tryd.prog 4 v14 w fun v15 w =>
  cnd v15
  (R (.int .i64 18) w)
  (nc a0 fun v18 =>
  fa Tryd.prog 49 v18 3 w fun v19 w =>
  st Tryd.prog 3 v19 a1 w fun w =>
  R (.int .i64 0) w)))

theorem C.disk_Disk_Arm {a0 a1 : Value} {w : World} {R : Value → World → Prop} (h : F.disk_Disk_Arm a0 a1 w R) : cl Tryd.prog 10 #[a0, a1] w R :=
  calls_of_vc (args := [a0, a1]) (an := (anL [])) (jn := (jnL [])) mixed Tryd.func10 (by kernel_rfl) (by kernel_rfl) (of_decide_eq_true (by kernel_rfl)) (Eq.mp (by kernel_rfl) h)

/-- (*passbook/disk.Disk).On (function 11); slots: 0:d 1:d -/
def F.disk_Disk_On (a0 : Value) (w : World) (R : Value → World → Prop) : Prop :=
  bin Tryd.prog .neq 24 (.tmp 3) (.const (.pointer .none)) a0 (.pointer .none) w fun v4 w =>
  cnd v4
  (nc a0 fun v7 =>
  fa Tryd.prog 49 v7 2 w fun v8 w =>
  ld Tryd.prog 4 v8 w fun v9 w =>
  un .not v9 w fun v10 w =>
  R v10 w)
  (R (.bool false) w)

theorem C.disk_Disk_On {a0 : Value} {w : World} {R : Value → World → Prop} (h : F.disk_Disk_On a0 w R) : cl Tryd.prog 11 #[a0] w R :=
  calls_of_vc (args := [a0]) (an := (anL [])) (jn := (jnL [])) mixed Tryd.func11 (by kernel_rfl) (by kernel_rfl) (of_decide_eq_true (by kernel_rfl)) (Eq.mp (by kernel_rfl) h)

/-- (*passbook/disk.Disk).Ops (function 12); slots: 0:d 1:d -/
def F.disk_Disk_Ops (a0 : Value) (w : World) (R : Value → World → Prop) : Prop :=
  bin Tryd.prog .eql 24 (.tmp 3) (.const (.pointer .none)) a0 (.pointer .none) w fun v4 w =>
  cnd v4
  (R (.int .i64 0) w)
  (nc a0 fun v6 =>
  fa Tryd.prog 49 v6 4 w fun v7 w =>
  ld Tryd.prog 3 v7 w fun v8 w =>
  R v8 w)

theorem C.disk_Disk_Ops {a0 : Value} {w : World} {R : Value → World → Prop} (h : F.disk_Disk_Ops a0 w R) : cl Tryd.prog 12 #[a0] w R :=
  calls_of_vc (args := [a0]) (an := (anL [])) (jn := (jnL [])) mixed Tryd.func12 (by kernel_rfl) (by kernel_rfl) (of_decide_eq_true (by kernel_rfl)) (Eq.mp (by kernel_rfl) h)

/-- (*passbook/disk.Disk).Restart (function 13); slots: 0:d 1:f 2:d 3:f 5:i 6:_ 7:name 8:l 9:j -/
def F.disk_Disk_Restart (a0 a1 : Value) (w : World) (R : Value → World → Prop) : Prop :=
  bx 44 a1 w fun v3 w =>
  bin Tryd.prog .eql 24 (.tmp 11) (.const (.pointer .none)) a0 (.pointer .none) w fun v12 w =>
  cnd v12
  (R (.int .i64 7) w)
  (nc a0 fun v15 =>
  fa Tryd.prog 49 v15 2 w fun v16 w =>
  ld Tryd.prog 4 v16 w fun v17 w =>
  un .not v17 w fun v18 w =>
  cnd v18
  (R (.int .i64 14) w)
  (nc a0 fun v21 =>
  fa Tryd.prog 49 v21 2 w fun v22 w =>
  st Tryd.prog 4 v22 (.bool false) w fun w =>
  nc a0 fun v23 =>
  fa Tryd.prog 49 v23 3 w fun v24 w =>
  st Tryd.prog 3 v24 (.int .i64 0) w fun w =>
  cutF [] (fun R1 =>
  fa Tryd.prog 44 v3 0 w fun v25 w =>
  ld Tryd.prog 4 v25 w fun v26 w =>
  cnd v26
  (nc a0 fun v28 =>
  fa Tryd.prog 49 v28 5 w fun v29 w =>
  ld Tryd.prog 1 v29 w fun v30 w =>
  cf Tryd.prog .plain v30 #[] w fun v31 w =>
  R1 [] w)
  (R1 [] w))
  fun g1 w =>
  cl Tryd.prog 33 #[a0] w fun v33 w =>
  ln Tryd.prog 71 v33 w fun v34 w =>
  loopF [5, 35] [(.int .i64 0), (.int .i64 0)] w fun g2 w C2 =>
  bin Tryd.prog .lss 3 (.tmp 35) (.tmp 34) (g2 35) v34 w fun v36 w =>
  cnd v36
  (ia Tryd.prog 71 v33 (g2 35) w fun v37 w =>
  ld Tryd.prog 9 v37 w fun v38 w =>
  nc a0 fun v40 =>
  fa Tryd.prog 49 v40 0 w fun v41 w =>
  ld Tryd.prog 47 v41 w fun v42 w =>
  lk Tryd.prog 47 v42 v38 false w fun v44 w =>
  cl Tryd.prog 41 #[v44] w fun v45 w =>
  ln Tryd.prog 75 v45 w fun v47 w =>
  loopF [5, 48] [(g2 5), (.int .i64 0)] w fun g3 w C3 =>
  bin Tryd.prog .lss 3 (.tmp 48) (.tmp 47) (g3 48) v47 w fun v49 w =>
  cnd v49
  (cutF [5] (fun R2 =>
  ia Tryd.prog 75 v45 (g3 48) w fun v53 w =>
  fa Tryd.prog 82 v53 1 w fun v54 w =>
  ld Tryd.prog 4 v54 w fun v55 w =>
  un .not v55 w fun v56 w =>
  cnd v56
  (cutF [] (fun R3 =>
  fa Tryd.prog 44 v3 1 w fun v58 w =>
  ld Tryd.prog 32 v58 w fun v59 w =>
  ln Tryd.prog 32 v59 w fun v60 w =>
  bin Tryd.prog .geq 3 (.tmp 57) (.tmp 60) (g3 5) v60 w fun v61 w =>
  cnd v61
  (bd Tryd.prog 82 #[] w fun v72 w =>
  ia Tryd.prog 75 v45 (g3 48) w fun v73 w =>
  st Tryd.prog 82 v73 v72 w fun w =>
  R3 [] w)
  (fa Tryd.prog 44 v3 1 w fun v63 w =>
  ld Tryd.prog 32 v63 w fun v64 w =>
  ia Tryd.prog 32 v64 (g3 5) w fun v66 w =>
  ld Tryd.prog 4 v66 w fun v67 w =>
  un .not v67 w fun v68 w =>
  cnd v68
  (bd Tryd.prog 82 #[] w fun v72 w =>
  ia Tryd.prog 75 v45 (g3 48) w fun v73 w =>
  st Tryd.prog 82 v73 v72 w fun w =>
  R3 [] w)
  (R3 [] w)))
  fun g5 w =>
  bin Tryd.prog .add 3 (.tmp 74) (.const (.int .i64 1)) (g3 5) (.int .i64 1) w fun v75 w =>
  ia Tryd.prog 75 v45 (g3 48) w fun v78 w =>
  fa Tryd.prog 82 v78 1 w fun v79 w =>
  st Tryd.prog 4 v79 (.bool true) w fun w =>
  R2 [v75] w)
  (ia Tryd.prog 75 v45 (g3 48) w fun v78 w =>
  fa Tryd.prog 82 v78 1 w fun v79 w =>
  st Tryd.prog 4 v79 (.bool true) w fun w =>
  R2 [(g3 5)] w))
  fun g4 w =>
  bin Tryd.prog .add 3 (.tmp 48) (.const (.int .i64 1)) (g3 48) (.int .i64 1) w fun v80 w =>
  C3 [(g4 5), v80] w)
  (nc a0 fun v82 =>
  fa Tryd.prog 49 v82 0 w fun v83 w =>
  ld Tryd.prog 47 v83 w fun v84 w =>
  mu Tryd.prog 47 v84 v38 v45 w fun w =>
  bin Tryd.prog .add 3 (.tmp 35) (.const (.int .i64 1)) (g2 35) (.int .i64 1) w fun v87 w =>
  C2 [(g3 5), v87] w))
  (R (.int .i64 0) w)))

theorem C.disk_Disk_Restart {a0 a1 : Value} {w : World} {R : Value → World → Prop} (h : F.disk_Disk_Restart a0 a1 w R) : cl Tryd.prog 13 #[a0, a1] w R :=
  calls_of_vc (args := [a0, a1]) (an := (anL [(10, [5, 35]), (14, [5, 48])])) (jn := (jnL [(8, []), (21, [5]), (19, [])])) mixed Tryd.func13 (by kernel_rfl) (by kernel_rfl) (of_decide_eq_true (by kernel_rfl)) (Eq.mp (by kernel_rfl) h)

/-- (*passbook/disk.Disk).Read (function 14); slots: 0:d 1:name 2:d 3:name 6:e 7:b 8:_ 9:s -/
def F.disk_Disk_Read (a0 a1 : Value) (w : World) (R : Value → World → Prop) : Prop :=
  cl Tryd.prog 35 #[a0, a1, (.bool true)] w fun v12 w =>
  bin Tryd.prog .neq 25 (.tmp 13) (.const (.int .i64 0)) v12 (.int .i64 0) w fun v14 w =>
  cnd v14
  (R (.tuple #[(.slice .none 0 0), v12]) w)
  (al Tryd.prog 88 w fun v7 w =>
  nc a0 fun v17 =>
  fa Tryd.prog 49 v17 0 w fun v18 w =>
  ld Tryd.prog 47 v18 w fun v19 w =>
  lk Tryd.prog 47 v19 a1 false w fun v21 w =>
  ln Tryd.prog 75 v21 w fun v22 w =>
  loopF [23] [(.int .i64 0)] w fun g1 w C1 =>
  bin Tryd.prog .lss 3 (.tmp 23) (.tmp 22) (g1 23) v22 w fun v24 w =>
  cnd v24
  (ia Tryd.prog 75 v21 (g1 23) w fun v25 w =>
  ld Tryd.prog 82 v25 w fun v26 w =>
  al Tryd.prog 82 w fun v9 w =>
  st Tryd.prog 82 v9 v26 w fun w =>
  fa Tryd.prog 82 v9 0 w fun v27 w =>
  sl Tryd.prog 80 v27 none none none w fun v28 w =>
  cl Tryd.prog 42 #[v7, v28] w fun v29 w =>
  bin Tryd.prog .add 3 (.tmp 23) (.const (.int .i64 1)) (g1 23) (.int .i64 1) w fun v30 w =>
  C1 [v30] w)
  (cl Tryd.prog 43 #[v7] w fun v31 w =>
  R (.tuple #[v31, (.int .i64 0)]) w))

theorem C.disk_Disk_Read {a0 a1 : Value} {w : World} {R : Value → World → Prop} (h : F.disk_Disk_Read a0 a1 w R) : cl Tryd.prog 14 #[a0, a1] w R :=
  calls_of_vc (args := [a0, a1]) (an := (anL [(6, [23])])) (jn := (jnL [])) mixed Tryd.func14 (by kernel_rfl) (by kernel_rfl) (of_decide_eq_true (by kernel_rfl)) (Eq.mp (by kernel_rfl) h)

/-- passbook/passbookref01.Spare (function 15); slots: 0:a 1:a 4:full -/
def F.r01_Spare (a0 : Value) (w : World) (R : Value → World → Prop) : Prop :=
  bs Tryd.prog 31 0 #[] w fun v5 w =>
  ap Tryd.prog 31 31 v5 a0 w fun v7 w =>
  bs Tryd.prog 31 3 #[(0, (.int .u8 165)), (1, (.int .u8 90)), (2, (.int .u8 165))] w fun v8 w =>
  ap Tryd.prog 31 31 v7 v8 w fun v9 w =>
  ln Tryd.prog 31 a0 w fun v12 w =>
  sl Tryd.prog 31 v9 none (some v12) none w fun v13 w =>
  R (.tuple #[v13, v9]) w

theorem C.r01_Spare {a0 : Value} {w : World} {R : Value → World → Prop} (h : F.r01_Spare a0 w R) : cl Tryd.prog 15 #[a0] w R :=
  calls_of_vc (args := [a0]) (an := (anL [])) (jn := (jnL [])) mixed Tryd.func15 (by kernel_rfl) (by kernel_rfl) (of_decide_eq_true (by kernel_rfl)) (Eq.mp (by kernel_rfl) h)

/-- passbook/passbookref01.Kept (function 16); slots: 0:full 1:a 2:full 3:a 5:n -/
def F.r01_Kept (a0 a1 : Value) (w : World) (R : Value → World → Prop) : Prop :=
  ln Tryd.prog 31 a1 w fun v7 w =>
  ln Tryd.prog 31 a0 w fun v9 w =>
  bin Tryd.prog .add 3 (.tmp 10) (.const (.int .i64 3)) v7 (.int .i64 3) w fun v11 w =>
  bin Tryd.prog .eql 3 (.tmp 9) (.tmp 11) v9 v11 w fun v12 w =>
  cnd v12
  (sl Tryd.prog 31 a0 none (some v7) none w fun v16 w =>
  cl Tryd.prog 31 #[v16, a1] w fun v18 w =>
  cnd v18
  (ia Tryd.prog 31 a0 v7 w fun v23 w =>
  ld Tryd.prog 5 v23 w fun v24 w =>
  bin Tryd.prog .eql 5 (.tmp 24) (.const (.int .u8 165)) v24 (.int .u8 165) w fun v25 w =>
  cnd v25
  (bin Tryd.prog .add 3 (.tmp 29) (.const (.int .i64 1)) v7 (.int .i64 1) w fun v30 w =>
  ia Tryd.prog 31 a0 v30 w fun v31 w =>
  ld Tryd.prog 5 v31 w fun v32 w =>
  bin Tryd.prog .eql 5 (.tmp 32) (.const (.int .u8 90)) v32 (.int .u8 90) w fun v33 w =>
  cnd v33
  (bin Tryd.prog .add 3 (.tmp 37) (.const (.int .i64 2)) v7 (.int .i64 2) w fun v38 w =>
  ia Tryd.prog 31 a0 v38 w fun v39 w =>
  ld Tryd.prog 5 v39 w fun v40 w =>
  bin Tryd.prog .eql 5 (.tmp 40) (.const (.int .u8 165)) v40 (.int .u8 165) w fun v41 w =>
  R v41 w)
  (R (.bool false) w))
  (R (.bool false) w))
  (R (.bool false) w))
  (R (.bool false) w)

theorem C.r01_Kept {a0 a1 : Value} {w : World} {R : Value → World → Prop} (h : F.r01_Kept a0 a1 w R) : cl Tryd.prog 16 #[a0, a1] w R :=
  calls_of_vc (args := [a0, a1]) (an := (anL [])) (jn := (jnL [])) mixed Tryd.func16 (by kernel_rfl) (by kernel_rfl) (of_decide_eq_true (by kernel_rfl)) (Eq.mp (by kernel_rfl) h)

/-- passbook/passbookref09.DocAppend (function 17); slots: 0:d 1:name 2:p 3:d 4:name 5:p 7:n 8:all 9:_ 10:f 11:i 12:f 13:bytes -/
def F.r09_DocAppend (a0 a1 a2 : Value) (w : World) (R : Value → World → Prop) : Prop :=
  cl Tryd.prog 44 #[a1] w fun v15 w =>
  un .not v15 w fun v16 w =>
  cnd v16
  (R (.int .i64 1) w)
  (bin Tryd.prog .eql 28 (.tmp 17) (.const (.pointer .none)) a0 (.pointer .none) w fun v18 w =>
  cnd v18
  (R (.int .i64 7) w)
  (ln Tryd.prog 31 a2 w fun v20 w =>
  bin Tryd.prog .quo 3 (.tmp 20) (.const (.int .i64 32)) v20 (.int .i64 32) w fun v21 w =>
  cutF [7] (fun R1 =>
  ln Tryd.prog 31 a2 w fun v23 w =>
  bin Tryd.prog .rem 3 (.tmp 23) (.const (.int .i64 32)) v23 (.int .i64 32) w fun v24 w =>
  bin Tryd.prog .gtr 3 (.tmp 24) (.const (.int .i64 0)) v24 (.int .i64 0) w fun v25 w =>
  cnd v25
  (bin Tryd.prog .add 3 (.tmp 26) (.const (.int .i64 1)) v21 (.int .i64 1) w fun v27 w =>
  R1 [v27] w)
  (R1 [v21] w))
  fun g1 w =>
  nc a0 fun v30 =>
  fa Tryd.prog 52 v30 0 w fun v31 w =>
  ld Tryd.prog 50 v31 w fun v32 w =>
  ln Tryd.prog 50 v32 w fun v33 w =>
  loopF [8, 34] [(g1 7), (.int .i64 0)] w fun g2 w C2 =>
  bin Tryd.prog .lss 3 (.tmp 34) (.tmp 33) (g2 34) v33 w fun v35 w =>
  cnd v35
  (ia Tryd.prog 50 v32 (g2 34) w fun v36 w =>
  ld Tryd.prog 96 v36 w fun v37 w =>
  al Tryd.prog 96 w fun v10 w =>
  st Tryd.prog 96 v10 v37 w fun w =>
  fa Tryd.prog 96 v10 2 w fun v39 w =>
  ld Tryd.prog 32 v39 w fun v40 w =>
  ln Tryd.prog 32 v40 w fun v41 w =>
  bin Tryd.prog .add 3 (.tmp 38) (.tmp 41) (g2 8) v41 w fun v42 w =>
  bin Tryd.prog .add 3 (.tmp 34) (.const (.int .i64 1)) (g2 34) (.int .i64 1) w fun v43 w =>
  C2 [v42, v43] w)
  (cl Tryd.prog 45 #[a0, a1] w fun v46 w =>
  cutF [] (fun R2 =>
  nc a0 fun v49 =>
  fa Tryd.prog 52 v49 1 w fun v50 w =>
  ld Tryd.prog 3 v50 w fun v51 w =>
  bin Tryd.prog .gtr 3 (.tmp 47) (.tmp 51) (g2 8) v51 w fun v52 w =>
  cnd v52
  (R (.int .i64 17) w)
  (bin Tryd.prog .lss 3 (.tmp 54) (.const (.int .i64 0)) v46 (.int .i64 0) w fun v55 w =>
  cnd v55
  (nc a0 fun v58 =>
  fa Tryd.prog 52 v58 0 w fun v59 w =>
  ld Tryd.prog 50 v59 w fun v60 w =>
  ln Tryd.prog 50 v60 w fun v61 w =>
  bin Tryd.prog .geq 3 (.tmp 61) (.const (.int .i64 64)) v61 (.int .i64 64) w fun v62 w =>
  cnd v62
  (R (.int .i64 17) w)
  (R2 [] w))
  (R2 [] w)))
  fun g3 w =>
  nc a0 fun v66 =>
  fa Tryd.prog 52 v66 2 w fun v67 w =>
  ld Tryd.prog 4 v67 w fun v68 w =>
  cnd v68
  (R (.int .i64 18) w)
  (bd Tryd.prog 96 #[(0, a1)] w fun v70 w =>
  al Tryd.prog 96 w fun v12 w =>
  st Tryd.prog 96 v12 v70 w fun w =>
  cutF [] (fun R3 =>
  bin Tryd.prog .geq 3 (.tmp 71) (.const (.int .i64 0)) v46 (.int .i64 0) w fun v72 w =>
  cnd v72
  (nc a0 fun v74 =>
  fa Tryd.prog 52 v74 0 w fun v75 w =>
  ld Tryd.prog 50 v75 w fun v76 w =>
  ia Tryd.prog 50 v76 v46 w fun v78 w =>
  ld Tryd.prog 96 v78 w fun v79 w =>
  st Tryd.prog 96 v12 v79 w fun w =>
  R3 [] w)
  (R3 [] w))
  fun g4 w =>
  bs Tryd.prog 31 0 #[] w fun v80 w =>
  fa Tryd.prog 96 v12 1 w fun v81 w =>
  ld Tryd.prog 31 v81 w fun v82 w =>
  ap Tryd.prog 31 31 v80 v82 w fun v83 w =>
  ap Tryd.prog 31 31 v83 a2 w fun v86 w =>
  loopF [13] [v86] w fun g5 w C5 =>
  ln Tryd.prog 31 (g5 13) w fun v88 w =>
  bin Tryd.prog .rem 3 (.tmp 88) (.const (.int .i64 32)) v88 (.int .i64 32) w fun v89 w =>
  bin Tryd.prog .gtr 3 (.tmp 89) (.const (.int .i64 0)) v89 (.int .i64 0) w fun v90 w =>
  cnd v90
  (bs Tryd.prog 31 1 #[(0, (.int .u8 0))] w fun v92 w =>
  ap Tryd.prog 31 31 (g5 13) v92 w fun v93 w =>
  C5 [v93] w)
  (bs Tryd.prog 32 0 #[] w fun v97 w =>
  fa Tryd.prog 96 v12 2 w fun v98 w =>
  ld Tryd.prog 32 v98 w fun v99 w =>
  ap Tryd.prog 32 32 v97 v99 w fun v100 w =>
  cl Tryd.prog 47 #[(g1 7), (.bool false)] w fun v102 w =>
  ap Tryd.prog 32 32 v100 v102 w fun v103 w =>
  bd Tryd.prog 96 #[(0, a1), (1, (g5 13)), (2, v103)] w fun v104 w =>
  cl Tryd.prog 46 #[a0, v104] w fun v105 w =>
  cl Tryd.prog 48 #[a0] w fun v107 w =>
  cnd v107
  (nc a0 fun v109 =>
  fa Tryd.prog 52 v109 5 w fun v110 w =>
  st Tryd.prog 3 v110 (.int .i64 0) w fun w =>
  R (.int .i64 18) w)
  (R (.int .i64 0) w))))))

theorem C.r09_DocAppend {a0 a1 a2 : Value} {w : World} {R : Value → World → Prop} (h : F.r09_DocAppend a0 a1 a2 w R) : cl Tryd.prog 17 #[a0, a1, a2] w R :=
  calls_of_vc (args := [a0, a1, a2]) (an := (anL [(10, [8, 34]), (24, [13])])) (jn := (jnL [(8, [7]), (17, []), (22, [])])) mixed Tryd.func17 (by kernel_rfl) (by kernel_rfl) (of_decide_eq_true (by kernel_rfl)) (Eq.mp (by kernel_rfl) h)

/-- (*passbook/disk.Disk).Sync (function 18); slots: 0:d 1:name 2:d 3:name 5:e -/
def F.disk_Disk_Sync (a0 a1 : Value) (w : World) (R : Value → World → Prop) : Prop :=
  bx 24 a0 w fun v2 w =>
  bx 9 a1 w fun v3 w =>
  ld Tryd.prog 24 v2 w fun v6 w =>
  ld Tryd.prog 9 v3 w fun v7 w =>
  cl Tryd.prog 35 #[v6, v7, (.bool true)] w fun v8 w =>
  bin Tryd.prog .neq 25 (.tmp 9) (.const (.int .i64 0)) v8 (.int .i64 0) w fun v10 w =>
  cnd v10
  (R v8 w)
  (ld Tryd.prog 24 v2 w fun v12 w =>
  cl Tryd.prog 38 #[v12, (.func (.func 49) #[] #[v2, v3])] w fun v14 w =>
  R v14 w)

theorem C.disk_Disk_Sync {a0 a1 : Value} {w : World} {R : Value → World → Prop} (h : F.disk_Disk_Sync a0 a1 w R) : cl Tryd.prog 18 #[a0, a1] w R :=
  calls_of_vc (args := [a0, a1]) (an := (anL [])) (jn := (jnL [])) mixed Tryd.func18 (by kernel_rfl) (by kernel_rfl) (of_decide_eq_true (by kernel_rfl)) (Eq.mp (by kernel_rfl) h)

/-- passbook/passbookref09.DocSync (function 19); slots: 0:d 1:name 2:d 3:name -/
def F.r09_DocSync (a0 a1 : Value) (w : World) (R : Value → World → Prop) : Prop :=
  cl Tryd.prog 51 #[a0, (.int .i64 1), a1, (.string ⟨#[]⟩), (.int .i64 0)] w fun v7 w =>
  R v7 w

theorem C.r09_DocSync {a0 a1 : Value} {w : World} {R : Value → World → Prop} (h : F.r09_DocSync a0 a1 w R) : cl Tryd.prog 19 #[a0, a1] w R :=
  calls_of_vc (args := [a0, a1]) (an := (anL [])) (jn := (jnL [])) mixed Tryd.func19 (by kernel_rfl) (by kernel_rfl) (of_decide_eq_true (by kernel_rfl)) (Eq.mp (by kernel_rfl) h)

/-- (*passbook/disk.Disk).Truncate (function 20); slots: 0:d 1:name 2:n 3:d 4:name 5:n 7:e -/
def F.disk_Disk_Truncate (a0 a1 a2 : Value) (w : World) (R : Value → World → Prop) : Prop :=
  bx 24 a0 w fun v3 w =>
  bx 9 a1 w fun v4 w =>
  bx 3 a2 w fun v5 w =>
  ld Tryd.prog 3 v5 w fun v8 w =>
  bin Tryd.prog .lss 3 (.tmp 8) (.const (.int .i64 0)) v8 (.int .i64 0) w fun v9 w =>
  cnd v9
  (R (.int .i64 1) w)
  (ld Tryd.prog 24 v3 w fun v10 w =>
  ld Tryd.prog 9 v4 w fun v11 w =>
  cl Tryd.prog 35 #[v10, v11, (.bool true)] w fun v12 w =>
  bin Tryd.prog .neq 25 (.tmp 13) (.const (.int .i64 0)) v12 (.int .i64 0) w fun v14 w =>
  cnd v14
  (R v12 w)
  (ld Tryd.prog 24 v3 w fun v16 w =>
  cl Tryd.prog 38 #[v16, (.func (.func 52) #[] #[v3, v4, v5])] w fun v18 w =>
  R v18 w))

theorem C.disk_Disk_Truncate {a0 a1 a2 : Value} {w : World} {R : Value → World → Prop} (h : F.disk_Disk_Truncate a0 a1 a2 w R) : cl Tryd.prog 20 #[a0, a1, a2] w R :=
  calls_of_vc (args := [a0, a1, a2]) (an := (anL [])) (jn := (jnL [])) mixed Tryd.func20 (by kernel_rfl) (by kernel_rfl) (of_decide_eq_true (by kernel_rfl)) (Eq.mp (by kernel_rfl) h)

/-- passbook/passbookref09.DocTruncate (function 21); slots: 0:d 1:name 2:n 3:d 4:name 5:n -/
def F.r09_DocTruncate (a0 a1 a2 : Value) (w : World) (R : Value → World → Prop) : Prop :=
  cl Tryd.prog 51 #[a0, (.int .i64 2), a1, (.string ⟨#[]⟩), a2] w fun v10 w =>
  R v10 w

theorem C.r09_DocTruncate {a0 a1 a2 : Value} {w : World} {R : Value → World → Prop} (h : F.r09_DocTruncate a0 a1 a2 w R) : cl Tryd.prog 21 #[a0, a1, a2] w R :=
  calls_of_vc (args := [a0, a1, a2]) (an := (anL [])) (jn := (jnL [])) mixed Tryd.func21 (by kernel_rfl) (by kernel_rfl) (of_decide_eq_true (by kernel_rfl)) (Eq.mp (by kernel_rfl) h)

/-- (*passbook/disk.Disk).Rename (function 22); slots: 0:d 1:a 2:b 3:d 4:a 5:b 7:e -/
def F.disk_Disk_Rename (a0 a1 a2 : Value) (w : World) (R : Value → World → Prop) : Prop :=
  bx 24 a0 w fun v3 w =>
  bx 9 a1 w fun v4 w =>
  bx 9 a2 w fun v5 w =>
  ld Tryd.prog 9 v5 w fun v8 w =>
  cl Tryd.prog 53 #[v8] w fun v9 w =>
  un .not v9 w fun v10 w =>
  cnd v10
  (R (.int .i64 1) w)
  (ld Tryd.prog 24 v3 w fun v11 w =>
  ld Tryd.prog 9 v4 w fun v12 w =>
  cl Tryd.prog 35 #[v11, v12, (.bool true)] w fun v13 w =>
  bin Tryd.prog .neq 25 (.tmp 14) (.const (.int .i64 0)) v13 (.int .i64 0) w fun v15 w =>
  cnd v15
  (R v13 w)
  (ld Tryd.prog 24 v3 w fun v17 w =>
  cl Tryd.prog 38 #[v17, (.func (.func 54) #[] #[v3, v4, v5])] w fun v19 w =>
  R v19 w))

theorem C.disk_Disk_Rename {a0 a1 a2 : Value} {w : World} {R : Value → World → Prop} (h : F.disk_Disk_Rename a0 a1 a2 w R) : cl Tryd.prog 22 #[a0, a1, a2] w R :=
  calls_of_vc (args := [a0, a1, a2]) (an := (anL [])) (jn := (jnL [])) mixed Tryd.func22 (by kernel_rfl) (by kernel_rfl) (of_decide_eq_true (by kernel_rfl)) (Eq.mp (by kernel_rfl) h)

/-- passbook/passbookref09.DocRename (function 23); slots: 0:d 1:a 2:b 3:d 4:a 5:b -/
def F.r09_DocRename (a0 a1 a2 : Value) (w : World) (R : Value → World → Prop) : Prop :=
  cl Tryd.prog 51 #[a0, (.int .i64 3), a1, a2, (.int .i64 0)] w fun v10 w =>
  R v10 w

theorem C.r09_DocRename {a0 a1 a2 : Value} {w : World} {R : Value → World → Prop} (h : F.r09_DocRename a0 a1 a2 w R) : cl Tryd.prog 23 #[a0, a1, a2] w R :=
  calls_of_vc (args := [a0, a1, a2]) (an := (anL [])) (jn := (jnL [])) mixed Tryd.func23 (by kernel_rfl) (by kernel_rfl) (of_decide_eq_true (by kernel_rfl)) (Eq.mp (by kernel_rfl) h)

/-- (*passbook/disk.Disk).Remove (function 24); slots: 0:d 1:name 2:d 3:name 5:e -/
def F.disk_Disk_Remove (a0 a1 : Value) (w : World) (R : Value → World → Prop) : Prop :=
  bx 24 a0 w fun v2 w =>
  bx 9 a1 w fun v3 w =>
  ld Tryd.prog 24 v2 w fun v6 w =>
  ld Tryd.prog 9 v3 w fun v7 w =>
  cl Tryd.prog 35 #[v6, v7, (.bool true)] w fun v8 w =>
  bin Tryd.prog .neq 25 (.tmp 9) (.const (.int .i64 0)) v8 (.int .i64 0) w fun v10 w =>
  cnd v10
  (R v8 w)
  (ld Tryd.prog 24 v2 w fun v12 w =>
  cl Tryd.prog 38 #[v12, (.func (.func 55) #[] #[v2, v3])] w fun v14 w =>
  R v14 w)

theorem C.disk_Disk_Remove {a0 a1 : Value} {w : World} {R : Value → World → Prop} (h : F.disk_Disk_Remove a0 a1 w R) : cl Tryd.prog 24 #[a0, a1] w R :=
  calls_of_vc (args := [a0, a1]) (an := (anL [])) (jn := (jnL [])) mixed Tryd.func24 (by kernel_rfl) (by kernel_rfl) (of_decide_eq_true (by kernel_rfl)) (Eq.mp (by kernel_rfl) h)

/-- passbook/passbookref09.DocRemove (function 25); slots: 0:d 1:name 2:d 3:name -/
def F.r09_DocRemove (a0 a1 : Value) (w : World) (R : Value → World → Prop) : Prop :=
  cl Tryd.prog 51 #[a0, (.int .i64 4), a1, (.string ⟨#[]⟩), (.int .i64 0)] w fun v7 w =>
  R v7 w

theorem C.r09_DocRemove {a0 a1 : Value} {w : World} {R : Value → World → Prop} (h : F.r09_DocRemove a0 a1 w R) : cl Tryd.prog 25 #[a0, a1] w R :=
  calls_of_vc (args := [a0, a1]) (an := (anL [])) (jn := (jnL [])) mixed Tryd.func25 (by kernel_rfl) (by kernel_rfl) (of_decide_eq_true (by kernel_rfl)) (Eq.mp (by kernel_rfl) h)

/-- passbook/passbookref09.DocArm (function 26); slots: 0:d 1:n 2:d 3:n -/
def F.r09_DocArm (a0 a1 : Value) (w : World) (R : Value → World → Prop) : Prop :=
  bin Tryd.prog .lss 3 (.tmp 6) (.const (.int .i64 0)) a1 (.int .i64 0) w fun v7 w =>
  cnd v7
  (R (.int .i64 1) w)
  (bin Tryd.prog .eql 28 (.tmp 9) (.const (.pointer .none)) a0 (.pointer .none) w fun v10 w =>
  cnd v10
  (R (.int .i64 7) w)
  (nc a0 fun v13 =>
  fa Tryd.prog 52 v13 2 w fun v14 w =>
  ld Tryd.prog 4 v14 w fun v15 w =>
  cnd v15
  (R (.int .i64 18) w)
  (nc a0 fun v18 =>
  fa Tryd.prog 52 v18 3 w fun v19 w =>
  st Tryd.prog 3 v19 a1 w fun w =>
  R (.int .i64 0) w)))

theorem C.r09_DocArm {a0 a1 : Value} {w : World} {R : Value → World → Prop} (h : F.r09_DocArm a0 a1 w R) : cl Tryd.prog 26 #[a0, a1] w R :=
  calls_of_vc (args := [a0, a1]) (an := (anL [])) (jn := (jnL [])) mixed Tryd.func26 (by kernel_rfl) (by kernel_rfl) (of_decide_eq_true (by kernel_rfl)) (Eq.mp (by kernel_rfl) h)

/-- passbook/passbooklaw09.fate (function 27); slots: 0:f 1:f -/
def F.l09_fate (a0 : Value) (w : World) (R : Value → World → Prop) : Prop :=
  bx 34 a0 w fun v1 w =>
  al Tryd.prog 44 w fun v2 w =>
  drawE w fun S1 w =>
  opS S1 (fa Tryd.prog 34 v1 0) fun v3 =>
  opS S1 (ld Tryd.prog 4 v3) fun v4 =>
  opS S1 (fa Tryd.prog 34 v1 1) fun v6 =>
  opS S1 (ld Tryd.prog 32 v6) fun v7 =>
  bs Tryd.prog 32 0 #[] w fun v5 w =>
  S1 w ∧ (ap Tryd.prog 32 32 v5 v7 w fun v8 w =>
  S1 w ∧ (opS S1 (bd Tryd.prog 44 #[(0, v4), (1, v8)]) fun v9 =>
  st Tryd.prog 44 v2 v9 w fun w =>
  retC Tryd.prog [.inr (v2, 44)] w R))

theorem C.l09_fate {a0 : Value} {w : World} {R : Value → World → Prop} (h : F.l09_fate a0 w R) : cl Tryd.prog 27 #[a0] w R :=
  calls_of_vc (args := [a0]) (an := (anL [])) (jn := (jnL [])) mixed Tryd.func27 (by kernel_rfl) (by kernel_rfl) (of_decide_eq_true (by kernel_rfl)) (Eq.mp (by kernel_rfl) h)

/-- passbook/passbookref09.DocRestart (function 28); slots: 0:d 1:f 2:d 3:f 5:k 6:i 7:bytes 8:j 9:synced 10:b -/
def F.r09_DocRestart (a0 a1 : Value) (w : World) (R : Value → World → Prop) : Prop :=
  bx 34 a1 w fun v3 w =>
  bin Tryd.prog .eql 28 (.tmp 11) (.const (.pointer .none)) a0 (.pointer .none) w fun v12 w =>
  cnd v12
  (R (.int .i64 7) w)
  (nc a0 fun v14 =>
  fa Tryd.prog 52 v14 2 w fun v15 w =>
  ld Tryd.prog 4 v15 w fun v16 w =>
  un .not v16 w fun v17 w =>
  cnd v17
  (R (.int .i64 14) w)
  (nc a0 fun v20 =>
  fa Tryd.prog 52 v20 2 w fun v21 w =>
  st Tryd.prog 4 v21 (.bool false) w fun w =>
  nc a0 fun v22 =>
  fa Tryd.prog 52 v22 3 w fun v23 w =>
  st Tryd.prog 3 v23 (.int .i64 0) w fun w =>
  cutF [] (fun R1 =>
  cutF [32] (fun R2 =>
  fa Tryd.prog 34 v3 0 w fun v24 w =>
  ld Tryd.prog 4 v24 w fun v25 w =>
  cnd v25
  (nc a0 fun v28 =>
  fa Tryd.prog 52 v28 5 w fun v29 w =>
  ld Tryd.prog 3 v29 w fun v30 w =>
  bin Tryd.prog .neq 3 (.tmp 30) (.const (.int .i64 0)) v30 (.int .i64 0) w fun v31 w =>
  R2 [v31] w)
  (R2 [(.bool false)] w))
  fun g2 w =>
  cnd (g2 32)
  (drawE w fun S1 w =>
  nc a0 fun v35 =>
  opS S1 (fa Tryd.prog 52 v35 5) fun v36 =>
  opS S1 (ld Tryd.prog 3 v36) fun v37 =>
  nc a0 fun v39 =>
  opS S1 (fa Tryd.prog 52 v39 6) fun v40 =>
  opS S1 (ld Tryd.prog 9 v40) fun v41 =>
  nc a0 fun v43 =>
  opS S1 (fa Tryd.prog 52 v43 7) fun v44 =>
  opS S1 (ld Tryd.prog 9 v44) fun v45 =>
  nc a0 fun v47 =>
  opS S1 (fa Tryd.prog 52 v47 8) fun v48 =>
  opS S1 (ld Tryd.prog 3 v48) fun v49 =>
  cl Tryd.prog 56 #[a0, v37, v41, v45, v49] w fun v50 w =>
  R1 [] w)
  (R1 [] w))
  fun g1 w =>
  nc a0 fun v52 =>
  fa Tryd.prog 52 v52 5 w fun v53 w =>
  st Tryd.prog 3 v53 (.int .i64 0) w fun w =>
  nc a0 fun v55 =>
  fa Tryd.prog 52 v55 0 w fun v56 w =>
  ld Tryd.prog 50 v56 w fun v57 w =>
  ln Tryd.prog 50 v57 w fun v58 w =>
  loopF [5, 59] [(.int .i64 0), (.int .i64 0)] w fun g3 w C3 =>
  bin Tryd.prog .lss 3 (.tmp 59) (.tmp 58) (g3 59) v58 w fun v60 w =>
  cnd v60
  (bs Tryd.prog 31 0 #[] w fun v62 w =>
  nc a0 fun v64 =>
  fa Tryd.prog 52 v64 0 w fun v65 w =>
  ld Tryd.prog 50 v65 w fun v66 w =>
  ia Tryd.prog 50 v66 (g3 59) w fun v68 w =>
  fa Tryd.prog 96 v68 1 w fun v69 w =>
  ld Tryd.prog 31 v69 w fun v70 w =>
  ap Tryd.prog 31 31 v62 v70 w fun v71 w =>
  nc a0 fun v73 =>
  fa Tryd.prog 52 v73 0 w fun v74 w =>
  ld Tryd.prog 50 v74 w fun v75 w =>
  ia Tryd.prog 50 v75 (g3 59) w fun v77 w =>
  fa Tryd.prog 96 v77 2 w fun v78 w =>
  ld Tryd.prog 32 v78 w fun v79 w =>
  ln Tryd.prog 32 v79 w fun v80 w =>
  loopF [5, 81] [(g3 5), (.int .i64 0)] w fun g4 w C4 =>
  bin Tryd.prog .lss 3 (.tmp 81) (.tmp 80) (g4 81) v80 w fun v82 w =>
  cnd v82
  (cutF [5] (fun R3 =>
  ia Tryd.prog 32 v79 (g4 81) w fun v84 w =>
  ld Tryd.prog 4 v84 w fun v85 w =>
  cnd v85
  (R3 [(g4 5)] w)
  (cutF [] (fun R4 =>
  cutF [99] (fun R5 =>
  fa Tryd.prog 34 v3 1 w fun v88 w =>
  ld Tryd.prog 32 v88 w fun v89 w =>
  ln Tryd.prog 32 v89 w fun v90 w =>
  bin Tryd.prog .geq 3 (.tmp 87) (.tmp 90) (g4 5) v90 w fun v91 w =>
  cnd v91
  (R5 [(.bool true)] w)
  (fa Tryd.prog 34 v3 1 w fun v93 w =>
  ld Tryd.prog 32 v93 w fun v94 w =>
  ia Tryd.prog 32 v94 (g4 5) w fun v96 w =>
  ld Tryd.prog 4 v96 w fun v97 w =>
  un .not v97 w fun v98 w =>
  R5 [v98] w))
  fun g7 w =>
  cnd (g7 99)
  (bin Tryd.prog .mul 3 (.const (.int .i64 32)) (.tmp 100) (.int .i64 32) (g4 81) w fun v101 w =>
  loopF [10] [v101] w fun g8 w C8 =>
  bin Tryd.prog .mul 3 (.const (.int .i64 32)) (.tmp 103) (.int .i64 32) (g4 81) w fun v104 w =>
  bin Tryd.prog .add 3 (.tmp 104) (.const (.int .i64 32)) v104 (.int .i64 32) w fun v105 w =>
  bin Tryd.prog .lss 3 (.tmp 102) (.tmp 105) (g8 10) v105 w fun v106 w =>
  cnd v106
  (ia Tryd.prog 31 v71 (g8 10) w fun v111 w =>
  st Tryd.prog 5 v111 (.int .u8 0) w fun w =>
  bin Tryd.prog .add 3 (.tmp 107) (.const (.int .i64 1)) (g8 10) (.int .i64 1) w fun v108 w =>
  C8 [v108] w)
  (R4 [] w))
  (R4 [] w))
  fun g6 w =>
  bin Tryd.prog .add 3 (.tmp 112) (.const (.int .i64 1)) (g4 5) (.int .i64 1) w fun v113 w =>
  R3 [v113] w))
  fun g5 w =>
  bin Tryd.prog .add 3 (.tmp 81) (.const (.int .i64 1)) (g4 81) (.int .i64 1) w fun v114 w =>
  C4 [(g5 5), v114] w)
  (drawE w fun S2 w =>
  nc a0 fun v116 =>
  opS S2 (fa Tryd.prog 52 v116 0) fun v117 =>
  opS S2 (ld Tryd.prog 50 v117) fun v118 =>
  nc a0 fun v121 =>
  opS S2 (fa Tryd.prog 52 v121 0) fun v122 =>
  opS S2 (ld Tryd.prog 50 v122) fun v123 =>
  nc a0 fun v127 =>
  opS S2 (fa Tryd.prog 52 v127 0) fun v128 =>
  opS S2 (ld Tryd.prog 50 v128) fun v129 =>
  opS S2 (ia Tryd.prog 50 v129 (g3 59)) fun v131 =>
  opS S2 (fa Tryd.prog 96 v131 2) fun v132 =>
  opS S2 (ld Tryd.prog 32 v132) fun v133 =>
  opS S2 (ln Tryd.prog 32 v133) fun v134 =>
  cl Tryd.prog 47 #[v134, (.bool true)] w fun v135 w =>
  S2 w ∧ (opS S2 (ia Tryd.prog 50 v118 (g3 59)) fun v136 =>
  opS S2 (fa Tryd.prog 96 v136 1) fun v137 =>
  st Tryd.prog 31 v137 v71 w fun w =>
  S2 w ∧ (opS S2 (ia Tryd.prog 50 v123 (g3 59)) fun v138 =>
  opS S2 (fa Tryd.prog 96 v138 2) fun v139 =>
  st Tryd.prog 32 v139 v135 w fun w =>
  bin Tryd.prog .add 3 (.tmp 59) (.const (.int .i64 1)) (g3 59) (.int .i64 1) w fun v140 w =>
  C3 [(g4 5), v140] w))))
  (R (.int .i64 0) w)))

theorem C.r09_DocRestart {a0 a1 : Value} {w : World} {R : Value → World → Prop} (h : F.r09_DocRestart a0 a1 w R) : cl Tryd.prog 28 #[a0, a1] w R :=
  calls_of_vc (args := [a0, a1]) (an := (anL [(11, [5, 59]), (15, [5, 81]), (20, [10])])) (jn := (jnL [(8, []), (7, [32]), (24, [5]), (23, []), (19, [99])])) mixed Tryd.func28 (by kernel_rfl) (by kernel_rfl) (of_decide_eq_true (by kernel_rfl)) (Eq.mp (by kernel_rfl) h)

/-- passbook/passbookref09.DocRead (function 29); slots: 0:d 1:name 2:d 3:name 7:f -/
def F.r09_DocRead (a0 a1 : Value) (w : World) (R : Value → World → Prop) : Prop :=
  cutF [] (fun R1 =>
  cl Tryd.prog 44 #[a1] w fun v10 w =>
  un .not v10 w fun v11 w =>
  cnd v11
  (R (.tuple #[(.slice .none 0 0), (.int .i64 0), (.int .i64 1)]) w)
  (bin Tryd.prog .eql 28 (.tmp 13) (.const (.pointer .none)) a0 (.pointer .none) w fun v14 w =>
  cnd v14
  (R (.tuple #[(.slice .none 0 0), (.int .i64 0), (.int .i64 7)]) w)
  (cl Tryd.prog 45 #[a0, a1] w fun v18 w =>
  bin Tryd.prog .lss 3 (.tmp 18) (.const (.int .i64 0)) v18 (.int .i64 0) w fun v19 w =>
  cnd v19
  (R (.tuple #[(.slice .none 0 0), (.int .i64 0), (.int .i64 7)]) w)
  (nc a0 fun v23 =>
  fa Tryd.prog 52 v23 2 w fun v24 w =>
  ld Tryd.prog 4 v24 w fun v25 w =>
  cnd v25
  (R (.tuple #[(.slice .none 0 0), (.int .i64 0), (.int .i64 18)]) w)
  (R1 [] w)))))
  fun g1 w =>
  drawE w fun S1 w =>
  nc a0 fun v27 =>
  opS S1 (fa Tryd.prog 52 v27 0) fun v28 =>
  opS S1 (ld Tryd.prog 50 v28) fun v29 =>
  (cl Tryd.prog 45 #[a0, a1] w fun v32 w =>
  S1 w ∧ (opS S1 (ia Tryd.prog 50 v29 v32) fun v33 =>
  opS S1 (ld Tryd.prog 96 v33) fun v34 =>
  al Tryd.prog 96 w fun v7 w =>
  S1 w ∧ (st Tryd.prog 96 v7 v34 w fun w =>
  drawE w fun S2 w =>
  opS S2 (fa Tryd.prog 96 v7 1) fun v35 =>
  opS S2 (ld Tryd.prog 31 v35) fun v36 =>
  opS S2 (fa Tryd.prog 96 v7 2) fun v37 =>
  opS S2 (ld Tryd.prog 32 v37) fun v38 =>
  opS S2 (ln Tryd.prog 32 v38) fun v39 =>
  R (.tuple #[v36, v39, (.int .i64 0)]) w))) ∧
  (al Tryd.prog 96 w fun v7 w =>
  S1 w ∧ (cl Tryd.prog 45 #[a0, a1] w fun v32 w =>
  S1 w ∧ (opS S1 (ia Tryd.prog 50 v29 v32) fun v33 =>
  opS S1 (ld Tryd.prog 96 v33) fun v34 =>
  st Tryd.prog 96 v7 v34 w fun w =>
  drawE w fun S3 w =>
  opS S3 (fa Tryd.prog 96 v7 1) fun v35 =>
  opS S3 (ld Tryd.prog 31 v35) fun v36 =>
  opS S3 (fa Tryd.prog 96 v7 2) fun v37 =>
  opS S3 (ld Tryd.prog 32 v37) fun v38 =>
  opS S3 (ln Tryd.prog 32 v38) fun v39 =>
  R (.tuple #[v36, v39, (.int .i64 0)]) w)))

theorem C.r09_DocRead {a0 a1 : Value} {w : World} {R : Value → World → Prop} (h : F.r09_DocRead a0 a1 w R) : cl Tryd.prog 29 #[a0, a1] w R :=
  calls_of_vc (args := [a0, a1]) (an := (anL [])) (jn := (jnL [(7, [])])) mixed Tryd.func29 (by kernel_rfl) (by kernel_rfl) (of_decide_eq_true (by kernel_rfl)) (Eq.mp (by kernel_rfl) h)

/-- (*passbook/disk.Disk).Size (function 30); slots: 0:d 1:name 2:d 3:name 6:e -/
def F.disk_Disk_Size (a0 a1 : Value) (w : World) (R : Value → World → Prop) : Prop :=
  cl Tryd.prog 35 #[a0, a1, (.bool true)] w fun v9 w =>
  bin Tryd.prog .neq 25 (.tmp 10) (.const (.int .i64 0)) v9 (.int .i64 0) w fun v11 w =>
  cnd v11
  (R (.tuple #[(.int .i64 0), v9]) w)
  (nc a0 fun v14 =>
  fa Tryd.prog 49 v14 0 w fun v15 w =>
  ld Tryd.prog 47 v15 w fun v16 w =>
  lk Tryd.prog 47 v16 a1 false w fun v18 w =>
  ln Tryd.prog 75 v18 w fun v19 w =>
  R (.tuple #[v19, (.int .i64 0)]) w)

theorem C.disk_Disk_Size {a0 a1 : Value} {w : World} {R : Value → World → Prop} (h : F.disk_Disk_Size a0 a1 w R) : cl Tryd.prog 30 #[a0, a1] w R :=
  calls_of_vc (args := [a0, a1]) (an := (anL [])) (jn := (jnL [])) mixed Tryd.func30 (by kernel_rfl) (by kernel_rfl) (of_decide_eq_true (by kernel_rfl)) (Eq.mp (by kernel_rfl) h)

/-- passbook/passbookref01.SameBytes (function 31); slots: 0:a 1:b 2:a 3:b 5:i -/
def F.r01_SameBytes (a0 a1 : Value) (w : World) (R : Value → World → Prop) : Prop :=
  ln Tryd.prog 31 a0 w fun v7 w =>
  ln Tryd.prog 31 a1 w fun v9 w =>
  bin Tryd.prog .neq 3 (.tmp 7) (.tmp 9) v7 v9 w fun v10 w =>
  cnd v10
  (R (.bool false) w)
  (ln Tryd.prog 31 a0 w fun v12 w =>
  loopF [13] [(.int .i64 0)] w fun g1 w C1 =>
  bin Tryd.prog .lss 3 (.tmp 13) (.tmp 12) (g1 13) v12 w fun v14 w =>
  cnd v14
  (drawE w fun S1 w =>
  opS S1 (ia Tryd.prog 31 a0 (g1 13)) fun v18 =>
  opS S1 (ld Tryd.prog 5 v18) fun v19 =>
  opS S1 (ia Tryd.prog 31 a1 (g1 13)) fun v22 =>
  opS S1 (ld Tryd.prog 5 v22) fun v23 =>
  opS S1 (bin Tryd.prog .neq 5 (.tmp 19) (.tmp 23) v19 v23) fun v24 =>
  cnd v24
  (R (.bool false) w)
  (bin Tryd.prog .add 3 (.tmp 13) (.const (.int .i64 1)) (g1 13) (.int .i64 1) w fun v25 w =>
  C1 [v25] w))
  (R (.bool true) w))

theorem C.r01_SameBytes {a0 a1 : Value} {w : World} {R : Value → World → Prop} (h : F.r01_SameBytes a0 a1 w R) : cl Tryd.prog 31 #[a0, a1] w R :=
  calls_of_vc (args := [a0, a1]) (an := (anL [(4, [13])])) (jn := (jnL [])) mixed Tryd.func31 (by kernel_rfl) (by kernel_rfl) (of_decide_eq_true (by kernel_rfl)) (Eq.mp (by kernel_rfl) h)

/-- passbook/passbookref09.SameNames (function 32); slots: 0:a 1:b 2:a 3:b 5:i -/
def F.r09_SameNames (a0 a1 : Value) (w : World) (R : Value → World → Prop) : Prop :=
  ln Tryd.prog 71 a0 w fun v7 w =>
  ln Tryd.prog 71 a1 w fun v9 w =>
  bin Tryd.prog .neq 3 (.tmp 7) (.tmp 9) v7 v9 w fun v10 w =>
  cnd v10
  (R (.bool false) w)
  (ln Tryd.prog 71 a0 w fun v12 w =>
  loopF [13] [(.int .i64 0)] w fun g1 w C1 =>
  bin Tryd.prog .lss 3 (.tmp 13) (.tmp 12) (g1 13) v12 w fun v14 w =>
  cnd v14
  (drawE w fun S1 w =>
  opS S1 (ia Tryd.prog 71 a0 (g1 13)) fun v18 =>
  opS S1 (ld Tryd.prog 9 v18) fun v19 =>
  opS S1 (ia Tryd.prog 71 a1 (g1 13)) fun v22 =>
  opS S1 (ld Tryd.prog 9 v22) fun v23 =>
  opS S1 (bin Tryd.prog .neq 9 (.tmp 19) (.tmp 23) v19 v23) fun v24 =>
  cnd v24
  (R (.bool false) w)
  (bin Tryd.prog .add 3 (.tmp 13) (.const (.int .i64 1)) (g1 13) (.int .i64 1) w fun v25 w =>
  C1 [v25] w))
  (R (.bool true) w))

theorem C.r09_SameNames {a0 a1 : Value} {w : World} {R : Value → World → Prop} (h : F.r09_SameNames a0 a1 w R) : cl Tryd.prog 32 #[a0, a1] w R :=
  calls_of_vc (args := [a0, a1]) (an := (anL [(4, [13])])) (jn := (jnL [])) mixed Tryd.func32 (by kernel_rfl) (by kernel_rfl) (of_decide_eq_true (by kernel_rfl)) (Eq.mp (by kernel_rfl) h)

/-- (*passbook/disk.Disk).Names (function 33); slots: 0:d 1:d -/
def F.disk_Disk_Names (a0 : Value) (w : World) (R : Value → World → Prop) : Prop :=
  bin Tryd.prog .eql 24 (.tmp 3) (.const (.pointer .none)) a0 (.pointer .none) w fun v4 w =>
  cnd v4
  (R (.slice .none 0 0) w)
  (nc a0 fun v7 =>
  fa Tryd.prog 49 v7 2 w fun v8 w =>
  ld Tryd.prog 4 v8 w fun v9 w =>
  cnd v9
  (R (.slice .none 0 0) w)
  (nc a0 fun v12 =>
  fa Tryd.prog 49 v12 0 w fun v13 w =>
  ld Tryd.prog 47 v13 w fun v14 w =>
  cl Tryd.prog 58 #[v14] w fun v15 w =>
  cl Tryd.prog 57 #[v15] w fun v16 w =>
  R v16 w))

theorem C.disk_Disk_Names {a0 : Value} {w : World} {R : Value → World → Prop} (h : F.disk_Disk_Names a0 w R) : cl Tryd.prog 33 #[a0] w R :=
  calls_of_vc (args := [a0]) (an := (anL [])) (jn := (jnL [])) mixed Tryd.func33 (by kernel_rfl) (by kernel_rfl) (of_decide_eq_true (by kernel_rfl)) (Eq.mp (by kernel_rfl) h)

/-- passbook/passbookref09.Names (function 34); slots: 0:d 1:d 3:l 4:_ 5:f -/
def F.r09_Names (a0 : Value) (w : World) (R : Value → World → Prop) : Prop :=
  cutF [14] (fun R1 =>
  bin Tryd.prog .neq 28 (.tmp 6) (.const (.pointer .none)) a0 (.pointer .none) w fun v7 w =>
  cnd v7
  (nc a0 fun v10 =>
  fa Tryd.prog 52 v10 2 w fun v11 w =>
  ld Tryd.prog 4 v11 w fun v12 w =>
  un .not v12 w fun v13 w =>
  R1 [v13] w)
  (R1 [(.bool false)] w))
  fun g1 w =>
  cnd (g1 14)
  (nc a0 fun v16 =>
  fa Tryd.prog 52 v16 0 w fun v17 w =>
  ld Tryd.prog 50 v17 w fun v18 w =>
  ln Tryd.prog 50 v18 w fun v19 w =>
  loopF [3, 20] [(.slice .none 0 0), (.int .i64 0)] w fun g2 w C2 =>
  bin Tryd.prog .lss 3 (.tmp 20) (.tmp 19) (g2 20) v19 w fun v21 w =>
  cnd v21
  (ia Tryd.prog 50 v18 (g2 20) w fun v22 w =>
  ld Tryd.prog 96 v22 w fun v23 w =>
  al Tryd.prog 96 w fun v5 w =>
  st Tryd.prog 96 v5 v23 w fun w =>
  fa Tryd.prog 96 v5 0 w fun v25 w =>
  ld Tryd.prog 9 v25 w fun v26 w =>
  bs Tryd.prog 71 1 #[(0, v26)] w fun v27 w =>
  ap Tryd.prog 71 71 (g2 3) v27 w fun v28 w =>
  bin Tryd.prog .add 3 (.tmp 20) (.const (.int .i64 1)) (g2 20) (.int .i64 1) w fun v29 w =>
  C2 [v28, v29] w)
  (R (g2 3) w))
  (R (.slice .none 0 0) w)

theorem C.r09_Names {a0 : Value} {w : World} {R : Value → World → Prop} (h : F.r09_Names a0 w R) : cl Tryd.prog 34 #[a0] w R :=
  calls_of_vc (args := [a0]) (an := (anL [(4, [3, 20])])) (jn := (jnL [(3, [14])])) mixed Tryd.func34 (by kernel_rfl) (by kernel_rfl) (of_decide_eq_true (by kernel_rfl)) (Eq.mp (by kernel_rfl) h)

/-- (*passbook/disk.Disk).check (function 35); slots: 0:d 1:name 2:there 3:d 4:name 5:there 7:_ 8:ok -/
def F.disk_Disk_check (a0 a1 a2 : Value) (w : World) (R : Value → World → Prop) : Prop :=
  cl Tryd.prog 53 #[a1] w fun v10 w =>
  un .not v10 w fun v11 w =>
  cnd v11
  (R (.int .i64 1) w)
  (bin Tryd.prog .eql 24 (.tmp 12) (.const (.pointer .none)) a0 (.pointer .none) w fun v13 w =>
  cnd v13
  (R (.int .i64 7) w)
  (nc a0 fun v16 =>
  fa Tryd.prog 49 v16 0 w fun v17 w =>
  ld Tryd.prog 47 v17 w fun v18 w =>
  lk Tryd.prog 47 v18 a1 true w fun v20 w =>
  ex v20 0 w fun v21 w =>
  ex v20 1 w fun v22 w =>
  cnd a2
  (un .not v22 w fun v26 w =>
  cnd v26
  (R (.int .i64 7) w)
  (nc a0 fun v29 =>
  fa Tryd.prog 49 v29 2 w fun v30 w =>
  ld Tryd.prog 4 v30 w fun v31 w =>
  cnd v31
  (R (.int .i64 18) w)
  (R (.int .i64 0) w)))
  (nc a0 fun v29 =>
  fa Tryd.prog 49 v29 2 w fun v30 w =>
  ld Tryd.prog 4 v30 w fun v31 w =>
  cnd v31
  (R (.int .i64 18) w)
  (R (.int .i64 0) w))))

theorem C.disk_Disk_check {a0 a1 a2 : Value} {w : World} {R : Value → World → Prop} (h : F.disk_Disk_check a0 a1 a2 w R) : cl Tryd.prog 35 #[a0, a1, a2] w R :=
  calls_of_vc (args := [a0, a1, a2]) (an := (anL [])) (jn := (jnL [])) mixed Tryd.func35 (by kernel_rfl) (by kernel_rfl) (of_decide_eq_true (by kernel_rfl)) (Eq.mp (by kernel_rfl) h)

/-- (*passbook/disk.Disk).used (function 36); slots: 0:d 1:d 3:n 4:_ 5:l -/
def F.disk_Disk_used (a0 : Value) (w : World) (R : Value → World → Prop) : Prop :=
  nc a0 fun v7 =>
  fa Tryd.prog 49 v7 0 w fun v8 w =>
  ld Tryd.prog 47 v8 w fun v9 w =>
  rg Tryd.prog 47 v9 w fun v10 w =>
  loopF [3] [(.int .i64 0)] w fun g1 w C1 =>
  nx v10 w fun v11 w =>
  ex v11 0 w fun v12 w =>
  cnd v12
  (en v10 w fun v13 w =>
  ex v13 1 w fun v14 w =>
  ln Tryd.prog 75 v14 w fun v17 w =>
  bin Tryd.prog .add 3 (.tmp 15) (.tmp 17) (g1 3) v17 w fun v18 w =>
  C1 [v18] w)
  (R (g1 3) w)

theorem C.disk_Disk_used {a0 : Value} {w : World} {R : Value → World → Prop} (h : F.disk_Disk_used a0 w R) : cl Tryd.prog 36 #[a0] w R :=
  calls_of_vc (args := [a0]) (an := (anL [(3, [3])])) (jn := (jnL [])) mixed Tryd.func36 (by kernel_rfl) (by kernel_rfl) (of_decide_eq_true (by kernel_rfl)) (Eq.mp (by kernel_rfl) h)

/-- (*passbook/disk.Disk).do (function 38); slots: 0:d 1:f 2:d 3:f -/
def F.disk_Disk_do (a0 a1 : Value) (w : World) (R : Value → World → Prop) : Prop :=
  nc a0 fun v6 =>
  fa Tryd.prog 49 v6 4 w fun v7 w =>
  ld Tryd.prog 3 v7 w fun v8 w =>
  bin Tryd.prog .add 3 (.tmp 8) (.const (.int .i64 1)) v8 (.int .i64 1) w fun v9 w =>
  nc a0 fun v10 =>
  fa Tryd.prog 49 v10 4 w fun v11 w =>
  st Tryd.prog 3 v11 v9 w fun w =>
  nc a0 fun v13 =>
  fa Tryd.prog 49 v13 3 w fun v14 w =>
  ld Tryd.prog 3 v14 w fun v15 w =>
  bin Tryd.prog .gtr 3 (.tmp 15) (.const (.int .i64 0)) v15 (.int .i64 0) w fun v16 w =>
  cnd v16
  (nc a0 fun v18 =>
  fa Tryd.prog 49 v18 3 w fun v19 w =>
  ld Tryd.prog 3 v19 w fun v20 w =>
  bin Tryd.prog .sub 3 (.tmp 20) (.const (.int .i64 1)) v20 (.int .i64 1) w fun v21 w =>
  nc a0 fun v22 =>
  fa Tryd.prog 49 v22 3 w fun v23 w =>
  st Tryd.prog 3 v23 v21 w fun w =>
  nc a0 fun v25 =>
  fa Tryd.prog 49 v25 3 w fun v26 w =>
  ld Tryd.prog 3 v26 w fun v27 w =>
  bin Tryd.prog .eql 3 (.tmp 27) (.const (.int .i64 0)) v27 (.int .i64 0) w fun v28 w =>
  cnd v28
  (nc a0 fun v32 =>
  fa Tryd.prog 49 v32 2 w fun v33 w =>
  st Tryd.prog 4 v33 (.bool true) w fun w =>
  nc a0 fun v34 =>
  fa Tryd.prog 49 v34 5 w fun v35 w =>
  st Tryd.prog 1 v35 a1 w fun w =>
  R (.int .i64 18) w)
  (cf Tryd.prog .plain a1 #[] w fun v37 w =>
  R (.int .i64 0) w))
  (cf Tryd.prog .plain a1 #[] w fun v37 w =>
  R (.int .i64 0) w)

theorem C.disk_Disk_do {a0 a1 : Value} {w : World} {R : Value → World → Prop} (h : F.disk_Disk_do a0 a1 w R) : cl Tryd.prog 38 #[a0, a1] w R :=
  calls_of_vc (args := [a0, a1]) (an := (anL [])) (jn := (jnL [])) mixed Tryd.func38 (by kernel_rfl) (by kernel_rfl) (of_decide_eq_true (by kernel_rfl)) (Eq.mp (by kernel_rfl) h)

/-- (*passbook/disk.Disk).Append$1 (function 39); slots:  -/
def F.disk_Disk_Append_1 (w : World) (R : Value → World → Prop) : Prop :=
  R (.tuple #[]) w

theorem C.disk_Disk_Append_1 {w : World} {R : Value → World → Prop} (h : F.disk_Disk_Append_1 w R) : cl Tryd.prog 39 #[] w R :=
  calls_of_vc (args := []) (an := (anL [])) (jn := (jnL [])) mixed Tryd.func39 (by kernel_rfl) (by kernel_rfl) (of_decide_eq_true (by kernel_rfl)) (Eq.mp (by kernel_rfl) h)

/-- slices.Clip[[]passbook/disk.sector,passbook/disk.sector] (function 40); slots: 0:s 1:s -/
def F.slices_Clip_disk_sector_disk_sector (a0 : Value) (w : World) (R : Value → World → Prop) : Prop :=
  ln Tryd.prog 75 a0 w fun v5 w =>
  ln Tryd.prog 75 a0 w fun v7 w =>
  sl Tryd.prog 75 a0 none (some v5) (some v7) w fun v8 w =>
  R v8 w

theorem C.slices_Clip_disk_sector_disk_sector {a0 : Value} {w : World} {R : Value → World → Prop} (h : F.slices_Clip_disk_sector_disk_sector a0 w R) : cl Tryd.prog 40 #[a0] w R :=
  calls_of_vc (args := [a0]) (an := (anL [])) (jn := (jnL [])) mixed Tryd.func40 (by kernel_rfl) (by kernel_rfl) (of_decide_eq_true (by kernel_rfl)) (Eq.mp (by kernel_rfl) h)

/-- slices.Clone[[]passbook/disk.sector,passbook/disk.sector] (function 41); slots: 0:s 1:s -/
def F.slices_Clone_disk_sector_disk_sector (a0 : Value) (w : World) (R : Value → World → Prop) : Prop :=
  bin Tryd.prog .eql 75 (.tmp 3) (.const (.slice .none 0 0)) a0 (.slice .none 0 0) w fun v4 w =>
  cnd v4
  (R (.slice .none 0 0) w)
  (bs Tryd.prog 75 0 #[] w fun v5 w =>
  ap Tryd.prog 75 75 v5 a0 w fun v7 w =>
  R v7 w)

theorem C.slices_Clone_disk_sector_disk_sector {a0 : Value} {w : World} {R : Value → World → Prop} (h : F.slices_Clone_disk_sector_disk_sector a0 w R) : cl Tryd.prog 41 #[a0] w R :=
  calls_of_vc (args := [a0]) (an := (anL [])) (jn := (jnL [])) mixed Tryd.func41 (by kernel_rfl) (by kernel_rfl) (of_decide_eq_true (by kernel_rfl)) (Eq.mp (by kernel_rfl) h)

/-- passbook/passbookref09.Name (function 44); slots: 0:s 1:s 3:i 4:letter 5:figure -/
def F.r09_Name (a0 : Value) (w : World) (R : Value → World → Prop) : Prop :=
  cutF [] (fun R1 =>
  ln Tryd.prog 9 a0 w fun v7 w =>
  bin Tryd.prog .lss 3 (.tmp 7) (.const (.int .i64 1)) v7 (.int .i64 1) w fun v8 w =>
  cnd v8
  (R (.bool false) w)
  (ln Tryd.prog 9 a0 w fun v11 w =>
  bin Tryd.prog .gtr 3 (.tmp 11) (.const (.int .i64 16)) v11 (.int .i64 16) w fun v12 w =>
  cnd v12
  (R (.bool false) w)
  (R1 [] w)))
  fun g1 w =>
  loopF [3] [(.int .i64 0)] w fun g2 w C2 =>
  ln Tryd.prog 9 a0 w fun v16 w =>
  bin Tryd.prog .lss 3 (.tmp 14) (.tmp 16) (g2 3) v16 w fun v17 w =>
  cnd v17
  (cutF [] (fun R2 =>
  cutF [4, 5] (fun R3 =>
  drawE w fun S1 w =>
  opS S1 (ix Tryd.prog 9 a0 (g2 3)) fun v22 =>
  opS S1 (bin Tryd.prog .geq 5 (.tmp 22) (.const (.int .u8 97)) v22 (.int .u8 97)) fun v23 =>
  cnd v23
  (opS S1 (ix Tryd.prog 9 a0 (g2 3)) fun v27 =>
  opS S1 (bin Tryd.prog .leq 5 (.tmp 27) (.const (.int .u8 122)) v27 (.int .u8 122)) fun v28 =>
  opS S1 (ix Tryd.prog 9 a0 (g2 3)) fun v32 =>
  opS S1 (bin Tryd.prog .geq 5 (.tmp 32) (.const (.int .u8 48)) v32 (.int .u8 48)) fun v33 =>
  cnd v33
  (opS S1 (ix Tryd.prog 9 a0 (g2 3)) fun v37 =>
  opS S1 (bin Tryd.prog .leq 5 (.tmp 37) (.const (.int .u8 57)) v37 (.int .u8 57)) fun v38 =>
  R3 [v28, v38] w)
  (R3 [v28, (.bool false)] w))
  (opS S1 (ix Tryd.prog 9 a0 (g2 3)) fun v32 =>
  opS S1 (bin Tryd.prog .geq 5 (.tmp 32) (.const (.int .u8 48)) v32 (.int .u8 48)) fun v33 =>
  cnd v33
  (opS S1 (ix Tryd.prog 9 a0 (g2 3)) fun v37 =>
  opS S1 (bin Tryd.prog .leq 5 (.tmp 37) (.const (.int .u8 57)) v37 (.int .u8 57)) fun v38 =>
  R3 [(.bool false), v38] w)
  (R3 [(.bool false), (.bool false)] w)))
  fun g4 w =>
  un .not (g4 4) w fun v41 w =>
  cnd v41
  (un .not (g4 5) w fun v44 w =>
  cnd v44
  (R (.bool false) w)
  (R2 [] w))
  (R2 [] w))
  fun g3 w =>
  bin Tryd.prog .add 3 (.tmp 18) (.const (.int .i64 1)) (g2 3) (.int .i64 1) w fun v19 w =>
  C2 [v19] w)
  (R (.bool true) w)

theorem C.r09_Name {a0 : Value} {w : World} {R : Value → World → Prop} (h : F.r09_Name a0 w R) : cl Tryd.prog 44 #[a0] w R :=
  calls_of_vc (args := [a0]) (an := (anL [(4, [3])])) (jn := (jnL [(3, []), (5, []), (7, [4, 5])])) mixed Tryd.func44 (by kernel_rfl) (by kernel_rfl) (of_decide_eq_true (by kernel_rfl)) (Eq.mp (by kernel_rfl) h)

/-- passbook/passbookref09.find (function 45); slots: 0:d 1:name 2:d 3:name 5:i 6:f -/
def F.r09_find (a0 a1 : Value) (w : World) (R : Value → World → Prop) : Prop :=
  nc a0 fun v8 =>
  fa Tryd.prog 52 v8 0 w fun v9 w =>
  ld Tryd.prog 50 v9 w fun v10 w =>
  ln Tryd.prog 50 v10 w fun v11 w =>
  loopF [12] [(.int .i64 0)] w fun g1 w C1 =>
  bin Tryd.prog .lss 3 (.tmp 12) (.tmp 11) (g1 12) v11 w fun v13 w =>
  cnd v13
  (ia Tryd.prog 50 v10 (g1 12) w fun v15 w =>
  ld Tryd.prog 96 v15 w fun v16 w =>
  al Tryd.prog 96 w fun v6 w =>
  st Tryd.prog 96 v6 v16 w fun w =>
  fa Tryd.prog 96 v6 0 w fun v17 w =>
  ld Tryd.prog 9 v17 w fun v18 w =>
  bin Tryd.prog .eql 9 (.tmp 18) (.tmp 19) v18 a1 w fun v20 w =>
  cnd v20
  (R (g1 12) w)
  (bin Tryd.prog .add 3 (.tmp 12) (.const (.int .i64 1)) (g1 12) (.int .i64 1) w fun v22 w =>
  C1 [v22] w))
  (R (.int .i64 (-1)) w)

theorem C.r09_find {a0 a1 : Value} {w : World} {R : Value → World → Prop} (h : F.r09_find a0 a1 w R) : cl Tryd.prog 45 #[a0, a1] w R :=
  calls_of_vc (args := [a0, a1]) (an := (anL [(2, [12])])) (jn := (jnL [])) mixed Tryd.func45 (by kernel_rfl) (by kernel_rfl) (of_decide_eq_true (by kernel_rfl)) (Eq.mp (by kernel_rfl) h)

/-- passbook/passbookref09.put (function 46); slots: 0:d 1:f 2:d 3:f 4:l 5:done 6:_ 7:x -/
def F.r09_put (a0 a1 : Value) (w : World) (R : Value → World → Prop) : Prop :=
  bx 96 a1 w fun v3 w =>
  nc a0 fun v9 =>
  fa Tryd.prog 52 v9 0 w fun v10 w =>
  ld Tryd.prog 50 v10 w fun v11 w =>
  ln Tryd.prog 50 v11 w fun v12 w =>
  loopF [4, 5, 13] [(.slice .none 0 0), (.bool false), (.int .i64 0)] w fun g1 w C1 =>
  bin Tryd.prog .lss 3 (.tmp 13) (.tmp 12) (g1 13) v12 w fun v14 w =>
  cnd v14
  (cutF [4, 5] (fun R1 =>
  ia Tryd.prog 50 v11 (g1 13) w fun v15 w =>
  ld Tryd.prog 96 v15 w fun v16 w =>
  al Tryd.prog 96 w fun v7 w =>
  st Tryd.prog 96 v7 v16 w fun w =>
  cutF [4, 5] (fun R2 =>
  fa Tryd.prog 96 v7 0 w fun v17 w =>
  ld Tryd.prog 9 v17 w fun v18 w =>
  fa Tryd.prog 96 v3 0 w fun v19 w =>
  ld Tryd.prog 9 v19 w fun v20 w =>
  bin Tryd.prog .geq 9 (.tmp 18) (.tmp 20) v18 v20 w fun v21 w =>
  cnd v21
  (un .not (g1 5) w fun v24 w =>
  cnd v24
  (ld Tryd.prog 96 v3 w fun v27 w =>
  bs Tryd.prog 50 1 #[(0, v27)] w fun v28 w =>
  ap Tryd.prog 50 50 (g1 4) v28 w fun v29 w =>
  R2 [v29, (.bool true)] w)
  (R2 [(g1 4), (g1 5)] w))
  (R2 [(g1 4), (g1 5)] w))
  fun g3 w =>
  fa Tryd.prog 96 v7 0 w fun v30 w =>
  ld Tryd.prog 9 v30 w fun v31 w =>
  fa Tryd.prog 96 v3 0 w fun v32 w =>
  ld Tryd.prog 9 v32 w fun v33 w =>
  bin Tryd.prog .neq 9 (.tmp 31) (.tmp 33) v31 v33 w fun v34 w =>
  cnd v34
  (ld Tryd.prog 96 v7 w fun v36 w =>
  bs Tryd.prog 50 1 #[(0, v36)] w fun v37 w =>
  ap Tryd.prog 50 50 (g3 4) v37 w fun v38 w =>
  R1 [v38, (g3 5)] w)
  (R1 [(g3 4), (g3 5)] w))
  fun g2 w =>
  bin Tryd.prog .add 3 (.tmp 13) (.const (.int .i64 1)) (g1 13) (.int .i64 1) w fun v39 w =>
  C1 [(g2 4), (g2 5), v39] w)
  (un .not (g1 5) w fun v41 w =>
  cnd v41
  (ld Tryd.prog 96 v3 w fun v43 w =>
  bs Tryd.prog 50 1 #[(0, v43)] w fun v44 w =>
  ap Tryd.prog 50 50 (g1 4) v44 w fun v45 w =>
  nc a0 fun v48 =>
  fa Tryd.prog 52 v48 0 w fun v49 w =>
  st Tryd.prog 50 v49 v45 w fun w =>
  R (.tuple #[]) w)
  (nc a0 fun v48 =>
  fa Tryd.prog 52 v48 0 w fun v49 w =>
  st Tryd.prog 50 v49 (g1 4) w fun w =>
  R (.tuple #[]) w))

theorem C.r09_put {a0 a1 : Value} {w : World} {R : Value → World → Prop} (h : F.r09_put a0 a1 w R) : cl Tryd.prog 46 #[a0, a1] w R :=
  calls_of_vc (args := [a0, a1]) (an := (anL [(4, [4, 5, 13])])) (jn := (jnL [(11, [4, 5]), (9, [4, 5])])) mixed Tryd.func46 (by kernel_rfl) (by kernel_rfl) (of_decide_eq_true (by kernel_rfl)) (Eq.mp (by kernel_rfl) h)

/-- passbook/passbookref09.flags (function 47); slots: 0:n 1:x 2:n 3:x 5:l 6:i -/
def F.r09_flags (a0 a1 : Value) (w : World) (R : Value → World → Prop) : Prop :=
  mk Tryd.prog 32 a0 a0 w fun v8 w =>
  ln Tryd.prog 32 v8 w fun v10 w =>
  loopF [11] [(.int .i64 0)] w fun g1 w C1 =>
  bin Tryd.prog .lss 3 (.tmp 11) (.tmp 10) (g1 11) v10 w fun v12 w =>
  cnd v12
  (ia Tryd.prog 32 v8 (g1 11) w fun v17 w =>
  st Tryd.prog 4 v17 a1 w fun w =>
  bin Tryd.prog .add 3 (.tmp 11) (.const (.int .i64 1)) (g1 11) (.int .i64 1) w fun v18 w =>
  C1 [v18] w)
  (R v8 w)

theorem C.r09_flags {a0 a1 : Value} {w : World} {R : Value → World → Prop} (h : F.r09_flags a0 a1 w R) : cl Tryd.prog 47 #[a0, a1] w R :=
  calls_of_vc (args := [a0, a1]) (an := (anL [(3, [11])])) (jn := (jnL [])) mixed Tryd.func47 (by kernel_rfl) (by kernel_rfl) (of_decide_eq_true (by kernel_rfl)) (Eq.mp (by kernel_rfl) h)

/-- passbook/passbookref09.goes (function 48); slots: 0:d 1:d -/
def F.r09_goes (a0 : Value) (w : World) (R : Value → World → Prop) : Prop :=
  nc a0 fun v4 =>
  fa Tryd.prog 52 v4 4 w fun v5 w =>
  ld Tryd.prog 3 v5 w fun v6 w =>
  bin Tryd.prog .add 3 (.tmp 6) (.const (.int .i64 1)) v6 (.int .i64 1) w fun v7 w =>
  nc a0 fun v8 =>
  fa Tryd.prog 52 v8 4 w fun v9 w =>
  st Tryd.prog 3 v9 v7 w fun w =>
  nc a0 fun v11 =>
  fa Tryd.prog 52 v11 3 w fun v12 w =>
  ld Tryd.prog 3 v12 w fun v13 w =>
  bin Tryd.prog .eql 3 (.tmp 13) (.const (.int .i64 0)) v13 (.int .i64 0) w fun v14 w =>
  cnd v14
  (R (.bool false) w)
  (nc a0 fun v16 =>
  fa Tryd.prog 52 v16 3 w fun v17 w =>
  ld Tryd.prog 3 v17 w fun v18 w =>
  bin Tryd.prog .sub 3 (.tmp 18) (.const (.int .i64 1)) v18 (.int .i64 1) w fun v19 w =>
  nc a0 fun v20 =>
  fa Tryd.prog 52 v20 3 w fun v21 w =>
  st Tryd.prog 3 v21 v19 w fun w =>
  nc a0 fun v24 =>
  fa Tryd.prog 52 v24 3 w fun v25 w =>
  ld Tryd.prog 3 v25 w fun v26 w =>
  bin Tryd.prog .eql 3 (.tmp 26) (.const (.int .i64 0)) v26 (.int .i64 0) w fun v27 w =>
  nc a0 fun v28 =>
  fa Tryd.prog 52 v28 2 w fun v29 w =>
  st Tryd.prog 4 v29 v27 w fun w =>
  nc a0 fun v31 =>
  fa Tryd.prog 52 v31 2 w fun v32 w =>
  ld Tryd.prog 4 v32 w fun v33 w =>
  R v33 w)

theorem C.r09_goes {a0 : Value} {w : World} {R : Value → World → Prop} (h : F.r09_goes a0 w R) : cl Tryd.prog 48 #[a0] w R :=
  calls_of_vc (args := [a0]) (an := (anL [])) (jn := (jnL [])) mixed Tryd.func48 (by kernel_rfl) (by kernel_rfl) (of_decide_eq_true (by kernel_rfl)) (Eq.mp (by kernel_rfl) h)

/-- (*passbook/disk.Disk).Sync$1 (function 49); slots:  -/
def F.disk_Disk_Sync_1 (a0 a1 : Value) (w : World) (R : Value → World → Prop) : Prop :=
  drawE w fun S1 w =>
  opS S1 (ld Tryd.prog 24 a0) fun v2 =>
  nc v2 fun v3 =>
  opS S1 (fa Tryd.prog 49 v3 0) fun v4 =>
  opS S1 (ld Tryd.prog 47 v4) fun v5 =>
  opS S1 (ld Tryd.prog 9 a1) fun v6 =>
  opS S1 (ld Tryd.prog 24 a0) fun v7 =>
  nc v7 fun v8 =>
  opS S1 (fa Tryd.prog 49 v8 0) fun v9 =>
  opS S1 (ld Tryd.prog 47 v9) fun v10 =>
  opS S1 (ld Tryd.prog 9 a1) fun v11 =>
  opS S1 (lk Tryd.prog 47 v10 v11 false) fun v12 =>
  cl Tryd.prog 50 #[v12] w fun v13 w =>
  S1 w ∧ (mu Tryd.prog 47 v5 v6 v13 w fun w =>
  R (.tuple #[]) w)

theorem C.disk_Disk_Sync_1 {a0 a1 : Value} {w : World} {R : Value → World → Prop} (h : F.disk_Disk_Sync_1 a0 a1 w R) : cl Tryd.prog 49 #[a0, a1] w R :=
  calls_of_vc (args := [a0, a1]) (an := (anL [])) (jn := (jnL [])) mixed Tryd.func49 (by kernel_rfl) (by kernel_rfl) (of_decide_eq_true (by kernel_rfl)) (Eq.mp (by kernel_rfl) h)

/-- passbook/disk.synced (function 50); slots: 0:l 1:l 3:i -/
def F.disk_synced (a0 : Value) (w : World) (R : Value → World → Prop) : Prop :=
  cl Tryd.prog 41 #[a0] w fun v5 w =>
  ln Tryd.prog 75 v5 w fun v7 w =>
  loopF [8] [(.int .i64 0)] w fun g1 w C1 =>
  bin Tryd.prog .lss 3 (.tmp 8) (.tmp 7) (g1 8) v7 w fun v9 w =>
  cnd v9
  (ia Tryd.prog 75 v5 (g1 8) w fun v13 w =>
  fa Tryd.prog 82 v13 1 w fun v14 w =>
  st Tryd.prog 4 v14 (.bool true) w fun w =>
  bin Tryd.prog .add 3 (.tmp 8) (.const (.int .i64 1)) (g1 8) (.int .i64 1) w fun v15 w =>
  C1 [v15] w)
  (R v5 w)

theorem C.disk_synced {a0 : Value} {w : World} {R : Value → World → Prop} (h : F.disk_synced a0 w R) : cl Tryd.prog 50 #[a0] w R :=
  calls_of_vc (args := [a0]) (an := (anL [(3, [8])])) (jn := (jnL [])) mixed Tryd.func50 (by kernel_rfl) (by kernel_rfl) (of_decide_eq_true (by kernel_rfl)) (Eq.mp (by kernel_rfl) h)

/-- passbook/passbookref09.operate (function 51); slots: 0:d 1:op 2:a 3:b 4:n 5:d 6:op 7:a 8:b 9:n -/
def F.r09_operate (a0 a1 a2 a3 a4 : Value) (w : World) (R : Value → World → Prop) : Prop :=
  cutF [] (fun R1 =>
  cutF [11] (fun R2 =>
  cl Tryd.prog 44 #[a2] w fun v13 w =>
  un .not v13 w fun v14 w =>
  cnd v14
  (R2 [(.bool true)] w)
  (bin Tryd.prog .eql 3 (.tmp 16) (.const (.int .i64 3)) a1 (.int .i64 3) w fun v17 w =>
  cnd v17
  (cl Tryd.prog 44 #[a3] w fun v20 w =>
  un .not v20 w fun v21 w =>
  cnd v21
  (R2 [(.bool true)] w)
  (bin Tryd.prog .eql 3 (.tmp 25) (.const (.int .i64 2)) a1 (.int .i64 2) w fun v26 w =>
  cnd v26
  (bin Tryd.prog .lss 3 (.tmp 28) (.const (.int .i64 0)) a4 (.int .i64 0) w fun v29 w =>
  R2 [v29] w)
  (R2 [(.bool false)] w)))
  (bin Tryd.prog .eql 3 (.tmp 25) (.const (.int .i64 2)) a1 (.int .i64 2) w fun v26 w =>
  cnd v26
  (bin Tryd.prog .lss 3 (.tmp 28) (.const (.int .i64 0)) a4 (.int .i64 0) w fun v29 w =>
  R2 [v29] w)
  (R2 [(.bool false)] w))))
  fun g2 w =>
  cnd (g2 11)
  (R (.int .i64 1) w)
  (bin Tryd.prog .eql 28 (.tmp 33) (.const (.pointer .none)) a0 (.pointer .none) w fun v34 w =>
  cnd v34
  (R (.int .i64 7) w)
  (cl Tryd.prog 45 #[a0, a2] w fun v38 w =>
  bin Tryd.prog .lss 3 (.tmp 38) (.const (.int .i64 0)) v38 (.int .i64 0) w fun v39 w =>
  cnd v39
  (R (.int .i64 7) w)
  (nc a0 fun v43 =>
  fa Tryd.prog 52 v43 2 w fun v44 w =>
  ld Tryd.prog 4 v44 w fun v45 w =>
  cnd v45
  (R (.int .i64 18) w)
  (R1 [] w)))))
  fun g1 w =>
  cl Tryd.prog 48 #[a0] w fun v47 w =>
  cnd v47
  (nc a0 fun v56 =>
  fa Tryd.prog 52 v56 5 w fun v57 w =>
  st Tryd.prog 3 v57 a1 w fun w =>
  nc a0 fun v58 =>
  fa Tryd.prog 52 v58 6 w fun v59 w =>
  st Tryd.prog 9 v59 a2 w fun w =>
  nc a0 fun v60 =>
  fa Tryd.prog 52 v60 7 w fun v61 w =>
  st Tryd.prog 9 v61 a3 w fun w =>
  nc a0 fun v62 =>
  fa Tryd.prog 52 v62 8 w fun v63 w =>
  st Tryd.prog 3 v63 a4 w fun w =>
  R (.int .i64 18) w)
  (cl Tryd.prog 56 #[a0, a1, a2, a3, a4] w fun v69 w =>
  R (.int .i64 0) w)

theorem C.r09_operate {a0 a1 a2 a3 a4 : Value} {w : World} {R : Value → World → Prop} (h : F.r09_operate a0 a1 a2 a3 a4 w R) : cl Tryd.prog 51 #[a0, a1, a2, a3, a4] w R :=
  calls_of_vc (args := [a0, a1, a2, a3, a4]) (an := (anL [])) (jn := (jnL [(7, []), (2, [11])])) mixed Tryd.func51 (by kernel_rfl) (by kernel_rfl) (of_decide_eq_true (by kernel_rfl)) (Eq.mp (by kernel_rfl) h)

/-- (*passbook/disk.Disk).Truncate$1 (function 52); slots:  -/
def F.disk_Disk_Truncate_1 (a0 a1 a2 : Value) (w : World) (R : Value → World → Prop) : Prop :=
  drawE w fun S1 w =>
  opS S1 (ld Tryd.prog 24 a0) fun v3 =>
  nc v3 fun v4 =>
  opS S1 (fa Tryd.prog 49 v4 0) fun v5 =>
  opS S1 (ld Tryd.prog 47 v5) fun v6 =>
  opS S1 (ld Tryd.prog 9 a1) fun v7 =>
  opS S1 (ld Tryd.prog 24 a0) fun v8 =>
  nc v8 fun v9 =>
  opS S1 (fa Tryd.prog 49 v9 0) fun v10 =>
  opS S1 (ld Tryd.prog 47 v10) fun v11 =>
  opS S1 (ld Tryd.prog 9 a1) fun v12 =>
  opS S1 (lk Tryd.prog 47 v11 v12 false) fun v13 =>
  opS S1 (ld Tryd.prog 3 a2) fun v14 =>
  opS S1 (ld Tryd.prog 24 a0) fun v15 =>
  nc v15 fun v16 =>
  opS S1 (fa Tryd.prog 49 v16 0) fun v17 =>
  opS S1 (ld Tryd.prog 47 v17) fun v18 =>
  opS S1 (ld Tryd.prog 9 a1) fun v19 =>
  opS S1 (lk Tryd.prog 47 v18 v19 false) fun v20 =>
  opS S1 (ln Tryd.prog 75 v20) fun v21 =>
  opS S1 (mn v14 v21) fun v22 =>
  opS S1 (sl Tryd.prog 75 v13 none (some v22) none) fun v23 =>
  cl Tryd.prog 50 #[v23] w fun v24 w =>
  S1 w ∧ (mu Tryd.prog 47 v6 v7 v24 w fun w =>
  R (.tuple #[]) w)

theorem C.disk_Disk_Truncate_1 {a0 a1 a2 : Value} {w : World} {R : Value → World → Prop} (h : F.disk_Disk_Truncate_1 a0 a1 a2 w R) : cl Tryd.prog 52 #[a0, a1, a2] w R :=
  calls_of_vc (args := [a0, a1, a2]) (an := (anL [])) (jn := (jnL [])) mixed Tryd.func52 (by kernel_rfl) (by kernel_rfl) (of_decide_eq_true (by kernel_rfl)) (Eq.mp (by kernel_rfl) h)

/-- passbook/disk.named (function 53); slots: 0:s 1:s 3:i -/
def F.disk_named (a0 : Value) (w : World) (R : Value → World → Prop) : Prop :=
  ln Tryd.prog 9 a0 w fun v5 w =>
  loopF [6] [(.int .i64 0)] w fun g1 w C1 =>
  bin Tryd.prog .lss 3 (.tmp 6) (.tmp 5) (g1 6) v5 w fun v7 w =>
  cnd v7
  (cutF [30] (fun R1 =>
  ix Tryd.prog 9 a0 (g1 6) w fun v11 w =>
  bin Tryd.prog .lss 5 (.tmp 11) (.const (.int .u8 97)) v11 (.int .u8 97) w fun v12 w =>
  cnd v12
  (ix Tryd.prog 9 a0 (g1 6) w fun v22 w =>
  bin Tryd.prog .lss 5 (.tmp 22) (.const (.int .u8 48)) v22 (.int .u8 48) w fun v23 w =>
  cnd v23
  (R1 [(.bool true)] w)
  (ix Tryd.prog 9 a0 (g1 6) w fun v27 w =>
  bin Tryd.prog .gtr 5 (.tmp 27) (.const (.int .u8 57)) v27 (.int .u8 57) w fun v28 w =>
  R1 [v28] w))
  (ix Tryd.prog 9 a0 (g1 6) w fun v16 w =>
  bin Tryd.prog .gtr 5 (.tmp 16) (.const (.int .u8 122)) v16 (.int .u8 122) w fun v17 w =>
  cnd v17
  (ix Tryd.prog 9 a0 (g1 6) w fun v22 w =>
  bin Tryd.prog .lss 5 (.tmp 22) (.const (.int .u8 48)) v22 (.int .u8 48) w fun v23 w =>
  cnd v23
  (R1 [(.bool true)] w)
  (ix Tryd.prog 9 a0 (g1 6) w fun v27 w =>
  bin Tryd.prog .gtr 5 (.tmp 27) (.const (.int .u8 57)) v27 (.int .u8 57) w fun v28 w =>
  R1 [v28] w))
  (R1 [(.bool false)] w)))
  fun g2 w =>
  cnd (g2 30)
  (R (.bool false) w)
  (bin Tryd.prog .add 3 (.tmp 6) (.const (.int .i64 1)) (g1 6) (.int .i64 1) w fun v31 w =>
  C1 [v31] w))
  (ln Tryd.prog 9 a0 w fun v33 w =>
  bin Tryd.prog .geq 3 (.tmp 33) (.const (.int .i64 1)) v33 (.int .i64 1) w fun v34 w =>
  cnd v34
  (ln Tryd.prog 9 a0 w fun v37 w =>
  bin Tryd.prog .leq 3 (.tmp 37) (.const (.int .i64 16)) v37 (.int .i64 16) w fun v38 w =>
  R v38 w)
  (R (.bool false) w))

theorem C.disk_named {a0 : Value} {w : World} {R : Value → World → Prop} (h : F.disk_named a0 w R) : cl Tryd.prog 53 #[a0] w R :=
  calls_of_vc (args := [a0]) (an := (anL [(2, [6])])) (jn := (jnL [(5, [30])])) mixed Tryd.func53 (by kernel_rfl) (by kernel_rfl) (of_decide_eq_true (by kernel_rfl)) (Eq.mp (by kernel_rfl) h)

/-- (*passbook/disk.Disk).Rename$1 (function 54); slots: 3:l -/
def F.disk_Disk_Rename_1 (a0 a1 a2 : Value) (w : World) (R : Value → World → Prop) : Prop :=
  drawE w fun S1 w =>
  opS S1 (ld Tryd.prog 24 a0) fun v4 =>
  nc v4 fun v5 =>
  opS S1 (fa Tryd.prog 49 v5 0) fun v6 =>
  opS S1 (ld Tryd.prog 47 v6) fun v7 =>
  opS S1 (ld Tryd.prog 9 a1) fun v8 =>
  opS S1 (lk Tryd.prog 47 v7 v8 false) fun v9 =>
  drawE w fun S2 w =>
  opS S2 (ld Tryd.prog 24 a0) fun v10 =>
  nc v10 fun v11 =>
  opS S2 (fa Tryd.prog 49 v11 0) fun v12 =>
  opS S2 (ld Tryd.prog 47 v12) fun v13 =>
  opS S2 (ld Tryd.prog 9 a1) fun v14 =>
  dl Tryd.prog 47 v13 v14 w fun _v w =>
  drawE w fun S3 w =>
  opS S3 (ld Tryd.prog 24 a0) fun v15 =>
  nc v15 fun v16 =>
  opS S3 (fa Tryd.prog 49 v16 0) fun v17 =>
  opS S3 (ld Tryd.prog 47 v17) fun v18 =>
  opS S3 (ld Tryd.prog 9 a2) fun v19 =>
  mu Tryd.prog 47 v18 v19 v9 w fun w =>
  R (.tuple #[]) w

theorem C.disk_Disk_Rename_1 {a0 a1 a2 : Value} {w : World} {R : Value → World → Prop} (h : F.disk_Disk_Rename_1 a0 a1 a2 w R) : cl Tryd.prog 54 #[a0, a1, a2] w R :=
  calls_of_vc (args := [a0, a1, a2]) (an := (anL [])) (jn := (jnL [])) mixed Tryd.func54 (by kernel_rfl) (by kernel_rfl) (of_decide_eq_true (by kernel_rfl)) (Eq.mp (by kernel_rfl) h)

/-- (*passbook/disk.Disk).Remove$1 (function 55); slots:  -/
def F.disk_Disk_Remove_1 (a0 a1 : Value) (w : World) (R : Value → World → Prop) : Prop :=
  drawE w fun S1 w =>
  opS S1 (ld Tryd.prog 24 a0) fun v2 =>
  nc v2 fun v3 =>
  opS S1 (fa Tryd.prog 49 v3 0) fun v4 =>
  opS S1 (ld Tryd.prog 47 v4) fun v5 =>
  opS S1 (ld Tryd.prog 9 a1) fun v6 =>
  dl Tryd.prog 47 v5 v6 w fun _v w =>
  R (.tuple #[]) w

theorem C.disk_Disk_Remove_1 {a0 a1 : Value} {w : World} {R : Value → World → Prop} (h : F.disk_Disk_Remove_1 a0 a1 w R) : cl Tryd.prog 55 #[a0, a1] w R :=
  calls_of_vc (args := [a0, a1]) (an := (anL [])) (jn := (jnL [])) mixed Tryd.func55 (by kernel_rfl) (by kernel_rfl) (of_decide_eq_true (by kernel_rfl)) (Eq.mp (by kernel_rfl) h)

/-- passbook/passbookref09.carry (function 56); slots: 0:d 1:op 2:a 3:b 4:n 5:d 6:op 7:a 8:b 9:n 10:i 11:f 12:k -/
def F.r09_carry (a0 a1 a2 a3 a4 : Value) (w : World) (R : Value → World → Prop) : Prop :=
  cl Tryd.prog 45 #[a0, a2] w fun v15 w =>
  bin Tryd.prog .lss 3 (.tmp 16) (.const (.int .i64 0)) v15 (.int .i64 0) w fun v17 w =>
  cnd v17
  (R (.tuple #[]) w)
  (nc a0 fun v19 =>
  fa Tryd.prog 52 v19 0 w fun v20 w =>
  ld Tryd.prog 50 v20 w fun v21 w =>
  ia Tryd.prog 50 v21 v15 w fun v23 w =>
  ld Tryd.prog 96 v23 w fun v24 w =>
  al Tryd.prog 96 w fun v11 w =>
  st Tryd.prog 96 v11 v24 w fun w =>
  bin Tryd.prog .eql 3 (.tmp 25) (.const (.int .i64 1)) a1 (.int .i64 1) w fun v27 w =>
  cnd v27
  (drawE w fun S1 w =>
  opS S1 (fa Tryd.prog 96 v11 1) fun v30 =>
  opS S1 (ld Tryd.prog 31 v30) fun v31 =>
  opS S1 (fa Tryd.prog 96 v11 2) fun v32 =>
  opS S1 (ld Tryd.prog 32 v32) fun v33 =>
  opS S1 (ln Tryd.prog 32 v33) fun v34 =>
  cl Tryd.prog 47 #[v34, (.bool true)] w fun v35 w =>
  S1 w ∧ (opS S1 (bd Tryd.prog 96 #[(0, a2), (1, v31), (2, v35)]) fun v36 =>
  cl Tryd.prog 46 #[a0, v36] w fun v37 w =>
  R (.tuple #[]) w))
  (bin Tryd.prog .eql 3 (.tmp 25) (.const (.int .i64 2)) a1 (.int .i64 2) w fun v39 w =>
  cnd v39
  (fa Tryd.prog 96 v11 2 w fun v41 w =>
  ld Tryd.prog 32 v41 w fun v42 w =>
  ln Tryd.prog 32 v42 w fun v43 w =>
  mn a4 v43 w fun v44 w =>
  drawE w fun S2 w =>
  opS S2 (fa Tryd.prog 96 v11 1) fun v47 =>
  opS S2 (ld Tryd.prog 31 v47) fun v48 =>
  opS S2 (bin Tryd.prog .mul 3 (.const (.int .i64 32)) (.tmp 49) (.int .i64 32) v44) fun v50 =>
  opS S2 (sl Tryd.prog 31 v48 none (some v50) none) fun v51 =>
  cl Tryd.prog 47 #[v44, (.bool true)] w fun v53 w =>
  S2 w ∧ (opS S2 (bd Tryd.prog 96 #[(0, a2), (1, v51), (2, v53)]) fun v54 =>
  cl Tryd.prog 46 #[a0, v54] w fun v55 w =>
  R (.tuple #[]) w))
  (bin Tryd.prog .eql 3 (.tmp 25) (.const (.int .i64 3)) a1 (.int .i64 3) w fun v57 w =>
  cnd v57
  (cl Tryd.prog 62 #[a0, a2] w fun v60 w =>
  fa Tryd.prog 96 v11 0 w fun v62 w =>
  st Tryd.prog 9 v62 a3 w fun w =>
  ld Tryd.prog 96 v11 w fun v64 w =>
  cl Tryd.prog 46 #[a0, v64] w fun v65 w =>
  R (.tuple #[]) w)
  (bin Tryd.prog .eql 3 (.tmp 25) (.const (.int .i64 4)) a1 (.int .i64 4) w fun v67 w =>
  cnd v67
  (cl Tryd.prog 62 #[a0, a2] w fun v70 w =>
  R (.tuple #[]) w)
  (R (.tuple #[]) w)))))

theorem C.r09_carry {a0 a1 a2 a3 a4 : Value} {w : World} {R : Value → World → Prop} (h : F.r09_carry a0 a1 a2 a3 a4 w R) : cl Tryd.prog 56 #[a0, a1, a2, a3, a4] w R :=
  calls_of_vc (args := [a0, a1, a2, a3, a4]) (an := (anL [])) (jn := (jnL [])) mixed Tryd.func56 (by kernel_rfl) (by kernel_rfl) (of_decide_eq_true (by kernel_rfl)) (Eq.mp (by kernel_rfl) h)

/-- passbook/passbookref09.drop (function 62); slots: 0:d 1:name 2:d 3:name 4:l 5:_ 6:x -/
def F.r09_drop (a0 a1 : Value) (w : World) (R : Value → World → Prop) : Prop :=
  nc a0 fun v8 =>
  fa Tryd.prog 52 v8 0 w fun v9 w =>
  ld Tryd.prog 50 v9 w fun v10 w =>
  ln Tryd.prog 50 v10 w fun v11 w =>
  loopF [4, 12] [(.slice .none 0 0), (.int .i64 0)] w fun g1 w C1 =>
  bin Tryd.prog .lss 3 (.tmp 12) (.tmp 11) (g1 12) v11 w fun v13 w =>
  cnd v13
  (ia Tryd.prog 50 v10 (g1 12) w fun v14 w =>
  ld Tryd.prog 96 v14 w fun v15 w =>
  al Tryd.prog 96 w fun v6 w =>
  st Tryd.prog 96 v6 v15 w fun w =>
  fa Tryd.prog 96 v6 0 w fun v16 w =>
  ld Tryd.prog 9 v16 w fun v17 w =>
  bin Tryd.prog .neq 9 (.tmp 17) (.tmp 18) v17 a1 w fun v19 w =>
  cnd v19
  (ld Tryd.prog 96 v6 w fun v21 w =>
  bs Tryd.prog 50 1 #[(0, v21)] w fun v22 w =>
  ap Tryd.prog 50 50 (g1 4) v22 w fun v23 w =>
  bin Tryd.prog .add 3 (.tmp 12) (.const (.int .i64 1)) (g1 12) (.int .i64 1) w fun v24 w =>
  C1 [v23, v24] w)
  (bin Tryd.prog .add 3 (.tmp 12) (.const (.int .i64 1)) (g1 12) (.int .i64 1) w fun v24 w =>
  C1 [(g1 4), v24] w))
  (nc a0 fun v27 =>
  fa Tryd.prog 52 v27 0 w fun v28 w =>
  st Tryd.prog 50 v28 (g1 4) w fun w =>
  R (.tuple #[]) w)

theorem C.r09_drop {a0 a1 : Value} {w : World} {R : Value → World → Prop} (h : F.r09_drop a0 a1 w R) : cl Tryd.prog 62 #[a0, a1] w R :=
  calls_of_vc (args := [a0, a1]) (an := (anL [(2, [4, 12])])) (jn := (jnL [])) mixed Tryd.func62 (by kernel_rfl) (by kernel_rfl) (of_decide_eq_true (by kernel_rfl)) (Eq.mp (by kernel_rfl) h)

end Go.Proofs.YtppefblkmgihoaaDoor
