/- What these functions of the program come to, operation by operation (printed by wip/shprint.py). -/
import Derived.Test.YtppefblkmgihoaaDoorF0
import Derived.Test.YtppefblkmgihoaaDoorRf
set_option linter.unusedVariables false
set_option maxRecDepth 100000
namespace Go.Proofs.YtppefblkmgihoaaDoor
open Go.Sh

theorem T.fa_49_1 (b i : Nat) (w : World) (K : Value → World → Prop) : fa Tryd.prog 49 (.pointer (some ⟨b, i, none⟩)) 1 w K = K (.pointer (some ⟨b, i + 1, none⟩)) w := by kernel_rfl
theorem T.ln_47 (r : Nat) (w : World) (K : Value → World → Prop) : ln Tryd.prog 47 (.map (some r)) w K = (lnm w.heap[r]? fun u => K u w) := by kernel_rfl
theorem T.al_75  (w : World) (K : Value → World → Prop) : al Tryd.prog 75 w K = K (.pointer (some ⟨w.heap.size, 0, none⟩)) (w.alloc (.cells #[.slice none 0 0] 75)) := by kernel_rfl
theorem T.cp_31 (A : Option Addr) (n c : Nat) (x : Value) (w : World) (K : Value → World → Prop) : cp Tryd.prog 31 (.slice A n c) x w K = cpc 1 A n x w K := by kernel_rfl
theorem T.ld_75 (b i : Nat) (w : World) (K : Value → World → Prop) : ld Tryd.prog 75 (.pointer (some ⟨b, i, none⟩)) w K = (ldc (rdc w.heap[b]? i) fun u => K u w) := by kernel_rfl
theorem T.bs_75_1 (parts : Array (Nat × Value)) (w : World) (K : Value → World → Prop) : bs Tryd.prog 75 1 parts w K = (bsc 1 33 #[.int .u8 0, .int .u8 0, .int .u8 0, .int .u8 0, .int .u8 0, .int .u8 0, .int .u8 0, .int .u8 0, .int .u8 0, .int .u8 0, .int .u8 0, .int .u8 0, .int .u8 0, .int .u8 0, .int .u8 0, .int .u8 0, .int .u8 0, .int .u8 0, .int .u8 0, .int .u8 0, .int .u8 0, .int .u8 0, .int .u8 0, .int .u8 0, .int .u8 0, .int .u8 0, .int .u8 0, .int .u8 0, .int .u8 0, .int .u8 0, .int .u8 0, .int .u8 0, .bool false] parts fun cs => K (.slice (some ⟨w.heap.size, 0, none⟩) 1 1) (w.alloc (.cells cs 82))) := by kernel_rfl
theorem T.st_75 (b i : Nat) (x : Value) (w : World) (K : World → Prop) : st Tryd.prog 75 (.pointer (some ⟨b, i, none⟩)) x w K = st1 w b i x K := by kernel_rfl
theorem T.ld_71 (b i : Nat) (w : World) (K : Value → World → Prop) : ld Tryd.prog 71 (.pointer (some ⟨b, i, none⟩)) w K = (ldc (rdc w.heap[b]? i) fun u => K u w) := by kernel_rfl
theorem T.st_71 (b i : Nat) (x : Value) (w : World) (K : World → Prop) : st Tryd.prog 71 (.pointer (some ⟨b, i, none⟩)) x w K = st1 w b i x K := by kernel_rfl

/-- (*passbook/disk.Disk).Append (function 9); slots: 0:d 1:name 2:p 3:d 4:name 5:p 7:e 8:n 9:_ 10:there 11:l 12:c 13:s -/
def F.disk_Disk_Append (a0 a1 a2 : Value) (w : World) (R : Value → World → Prop) : Prop :=
  cl Tryd.prog 35 #[a0, a1, (.bool false)] w fun v16 w =>
  cutF [22] (fun R1 =>
  bin Tryd.prog .eql 25 (.tmp 17) (.const (.int .i64 1)) v16 (.int .i64 1) w fun v18 w =>
  cnd v18
  (R1 [(.bool true)] w)
  (bin Tryd.prog .eql 25 (.tmp 20) (.const (.int .i64 7)) v16 (.int .i64 7) w fun v21 w =>
  R1 [v21] w))
  fun g1 w =>
  cnd (g1 22)
  (R v16 w)
  (ln Tryd.prog 31 a2 w fun v25 w =>
  bin Tryd.prog .add 3 (.tmp 25) (.const (.int .i64 32)) v25 (.int .i64 32) w fun v26 w =>
  bin Tryd.prog .sub 3 (.tmp 26) (.const (.int .i64 1)) v26 (.int .i64 1) w fun v27 w =>
  bin Tryd.prog .quo 3 (.tmp 27) (.const (.int .i64 32)) v27 (.int .i64 32) w fun v28 w =>
  nc a0 fun v31 =>
  fa Tryd.prog 49 v31 0 w fun v32 w =>
  ld Tryd.prog 47 v32 w fun v33 w =>
  lk Tryd.prog 47 v33 a1 true w fun v35 w =>
  ex v35 0 w fun v36 w =>
  ex v35 1 w fun v37 w =>
  cutF [58] (fun R2 =>
  drawE w fun S1 w =>
  nc a0 fun v43 =>
  opS S1 (fa Tryd.prog 49 v43 1) fun v44 =>
  opS S1 (ld Tryd.prog 3 v44) fun v45 =>
  cl Tryd.prog 36 #[a0] w fun v39 w =>
  S1 w ∧ (opS S1 (bin Tryd.prog .add 3 (.tmp 39) (.tmp 40) v39 v28) fun v41 =>
  opS S1 (bin Tryd.prog .gtr 3 (.tmp 41) (.tmp 45) v41 v45) fun v46 =>
  cnd v46
  (R2 [(.bool true)] w)
  (opS S1 (un .not v37) fun v49 =>
  cnd v49
  (nc a0 fun v52 =>
  opS S1 (fa Tryd.prog 49 v52 0) fun v53 =>
  opS S1 (ld Tryd.prog 47 v53) fun v54 =>
  opS S1 (ln Tryd.prog 47 v54) fun v55 =>
  opS S1 (bin Tryd.prog .eql 3 (.tmp 55) (.const (.int .i64 64)) v55 (.int .i64 64)) fun v56 =>
  R2 [v56] w)
  (R2 [(.bool false)] w))))
  fun g2 w =>
  cnd (g2 58)
  (R (.int .i64 17) w)
  (bin Tryd.prog .neq 25 (.tmp 59) (.const (.int .i64 0)) v16 (.int .i64 0) w fun v60 w =>
  cnd v60
  (R v16 w)
  (al Tryd.prog 75 w fun v11 w =>
  cl Tryd.prog 37 #[a2, (.int .i64 32)] w fun v63 w =>
  rfE1 Tryd.prog w v63
  (fun l x1 w Q =>
  al Tryd.prog 82 w fun v13 w =>
  fa Tryd.prog 82 v13 0 w fun v65 w =>
  sl Tryd.prog 80 v65 none none none w fun v66 w =>
  cp Tryd.prog 31 v66 x1 w fun v68 w =>
  ld Tryd.prog 75 v11 w fun v69 w =>
  ld Tryd.prog 82 v13 w fun v70 w =>
  bs Tryd.prog 75 1 #[(0, v70)] w fun v71 w =>
  ap Tryd.prog 75 75 v69 v71 w fun v72 w =>
  st Tryd.prog 75 v11 v72 w fun w =>
  Q .normal w)
  (fun D w =>
  cl Tryd.prog 38 #[a0, (.func (.func 39) #[] #[])] w fun v74 w =>
  drawE w fun S2 w =>
  nc a0 fun v76 =>
  opS S2 (fa Tryd.prog 49 v76 0) fun v77 =>
  opS S2 (ld Tryd.prog 47 v77) fun v78 =>
  nc a0 fun v81 =>
  opS S2 (fa Tryd.prog 49 v81 0) fun v82 =>
  opS S2 (ld Tryd.prog 47 v82) fun v83 =>
  opS S2 (lk Tryd.prog 47 v83 a1 false) fun v85 =>
  opS S2 (ld Tryd.prog 75 v11) fun v87 =>
  cl Tryd.prog 40 #[v85] w fun v86 w =>
  S2 w ∧ (ap Tryd.prog 75 75 v86 v87 w fun v88 w =>
  S2 w ∧ (mu Tryd.prog 47 v78 a1 v88 w fun w =>
  finV D w fun w =>
  R v74 w)))
  (fun D w =>
  finV D w fun w =>
  R (.int .i64 0) w))))

theorem C.disk_Disk_Append {a0 a1 a2 : Value} {w : World} {R : Value → World → Prop} (h : F.disk_Disk_Append a0 a1 a2 w R) : cl Tryd.prog 9 #[a0, a1, a2] w R :=
  calls_of_vcR (t := 64) (args := [a0, a1, a2]) (an := (anL [])) (jn := (jnL [(3, [22]), (7, [58])])) mixed Tryd.func9 (by kernel_rfl) (by kernel_rfl) (by kernel_rfl) (by kernel_rfl) (of_decide_eq_true (by kernel_rfl)) (of_decide_eq_true (by kernel_rfl)) (Eq.mp (by kernel_rfl) h)

/-- slices.Chunk[[]byte,byte]$1 (function 59); slots: 0:yield 3:yield 4:i 5:end -/
def F.slices_Chunk_byte_byte_1 (a0 a1 a2 : Value) (w : World) (R : Value → World → Prop) : Prop :=
  loopF [4] [(.int .i64 0)] w fun g1 w C1 =>
  ld Tryd.prog 31 a1 w fun v7 w =>
  ln Tryd.prog 31 v7 w fun v8 w =>
  bin Tryd.prog .lss 3 (.tmp 6) (.tmp 8) (g1 4) v8 w fun v9 w =>
  cnd v9
  (drawE w fun S1 w =>
  opS S1 (ld Tryd.prog 3 a2) fun v13 =>
  opS S1 (ld Tryd.prog 31 a1) fun v14 =>
  opS S1 (sl Tryd.prog 31 v14 (some (g1 4)) none none) fun v16 =>
  opS S1 (ln Tryd.prog 31 v16) fun v17 =>
  opS S1 (mn v13 v17) fun v18 =>
  ld Tryd.prog 31 a1 w fun v20 w =>
  bin Tryd.prog .add 3 (.tmp 22) (.tmp 23) (g1 4) v18 w fun v24 w =>
  bin Tryd.prog .add 3 (.tmp 25) (.tmp 26) (g1 4) v18 w fun v27 w =>
  sl Tryd.prog 31 v20 (some (g1 4)) (some v24) (some v27) w fun v28 w =>
  cf Tryd.prog .plain a0 #[v28] w fun v29 w =>
  un .not v29 w fun v30 w =>
  cnd v30
  (R (.tuple #[]) w)
  (ld Tryd.prog 3 a2 w fun v11 w =>
  bin Tryd.prog .add 3 (.tmp 10) (.tmp 11) (g1 4) v11 w fun v12 w =>
  C1 [v12] w))
  (R (.tuple #[]) w)

theorem C.slices_Chunk_byte_byte_1 {a0 a1 a2 : Value} {w : World} {R : Value → World → Prop} (h : F.slices_Chunk_byte_byte_1 a0 a1 a2 w R) : cl Tryd.prog 59 #[a0, a1, a2] w R :=
  calls_of_vc (args := [a0, a1, a2]) (an := (anL [(1, [4])])) (jn := (jnL [])) mixed Tryd.func59 (by kernel_rfl) (by kernel_rfl) (of_decide_eq_true (by kernel_rfl)) (Eq.mp (by kernel_rfl) h)

/-- slices.Chunk[[]byte,byte] (function 37); slots: 0:s 1:n 2:s 3:n -/
def F.slices_Chunk_byte_byte (a0 a1 : Value) (w : World) (R : Value → World → Prop) : Prop :=
  bx 31 a0 w fun v2 w =>
  bx 3 a1 w fun v3 w =>
  ld Tryd.prog 3 v3 w fun v5 w =>
  bin Tryd.prog .lss 3 (.tmp 5) (.const (.int .i64 1)) v5 (.int .i64 1) w fun v6 w =>
  cnd v6
  (opv Tryd.prog (Instr.makeInterface 9 (.string ⟨#[99, 97, 110, 110, 111, 116, 32, 98, 101, 32, 108, 101, 115, 115, 32, 116, 104, 97, 110, 32, 49]⟩)) w fun v7 w =>
  False)
  (R (.func (.func 59) #[] #[v2, v3]) w)

theorem C.slices_Chunk_byte_byte {a0 a1 : Value} {w : World} {R : Value → World → Prop} (h : F.slices_Chunk_byte_byte a0 a1 w R) : cl Tryd.prog 37 #[a0, a1] w R :=
  calls_of_vc (args := [a0, a1]) (an := (anL [])) (jn := (jnL [])) mixed Tryd.func37 (by kernel_rfl) (by kernel_rfl) (of_decide_eq_true (by kernel_rfl)) (Eq.mp (by kernel_rfl) h)

/-- slices.Sorted[string] (function 57); slots: 0:seq 1:seq 3:s -/
def F.slices_Sorted_string (a0 : Value) (w : World) (R : Value → World → Prop) : Prop :=
  cl Tryd.prog 63 #[a0] w fun v5 w =>
  cl Tryd.prog 64 #[v5] w fun v7 w =>
  R v5 w

theorem C.slices_Sorted_string {a0 : Value} {w : World} {R : Value → World → Prop} (h : F.slices_Sorted_string a0 w R) : cl Tryd.prog 57 #[a0] w R :=
  calls_of_vc (args := [a0]) (an := (anL [])) (jn := (jnL [])) mixed Tryd.func57 (by kernel_rfl) (by kernel_rfl) (of_decide_eq_true (by kernel_rfl)) (Eq.mp (by kernel_rfl) h)

/-- maps.Keys[map[string][]passbook/disk.sector,string,[]passbook/disk.sector] (function 58); slots: 0:m 1:m -/
def F.maps_Keys_mapstring_disk_sector_string_disk_sector (a0 : Value) (w : World) (R : Value → World → Prop) : Prop :=
  bx 47 a0 w fun v1 w =>
  R (.func (.func 65) #[] #[v1]) w

theorem C.maps_Keys_mapstring_disk_sector_string_disk_sector {a0 : Value} {w : World} {R : Value → World → Prop} (h : F.maps_Keys_mapstring_disk_sector_string_disk_sector a0 w R) : cl Tryd.prog 58 #[a0] w R :=
  calls_of_vc (args := [a0]) (an := (anL [])) (jn := (jnL [])) mixed Tryd.func58 (by kernel_rfl) (by kernel_rfl) (of_decide_eq_true (by kernel_rfl)) (Eq.mp (by kernel_rfl) h)

/-- slices.Collect[string] (function 63); slots: 0:seq 1:seq -/
def F.slices_Collect_string (a0 : Value) (w : World) (R : Value → World → Prop) : Prop :=
  cl Tryd.prog 69 #[(.slice .none 0 0), a0] w fun v4 w =>
  R v4 w

theorem C.slices_Collect_string {a0 : Value} {w : World} {R : Value → World → Prop} (h : F.slices_Collect_string a0 w R) : cl Tryd.prog 63 #[a0] w R :=
  calls_of_vc (args := [a0]) (an := (anL [])) (jn := (jnL [])) mixed Tryd.func63 (by kernel_rfl) (by kernel_rfl) (of_decide_eq_true (by kernel_rfl)) (Eq.mp (by kernel_rfl) h)

/-- slices.AppendSeq[[]string,string] (function 69); slots: 0:s 1:seq 2:s 3:seq 5:v -/
def F.slices_AppendSeq_string_string (a0 a1 : Value) (w : World) (R : Value → World → Prop) : Prop :=
  bx 71 a0 w fun v2 w =>
  rfE1 Tryd.prog w a1
  (fun l x1 w Q =>
  ld Tryd.prog 71 v2 w fun v8 w =>
  bs Tryd.prog 71 1 #[(0, x1)] w fun v10 w =>
  ap Tryd.prog 71 71 v8 v10 w fun v11 w =>
  st Tryd.prog 71 v2 v11 w fun w =>
  Q .normal w)
  (fun D w =>
  ld Tryd.prog 71 v2 w fun v12 w =>
  finV D w fun w =>
  R v12 w)
  (fun D w =>
  finV D w fun w =>
  R (.slice .none 0 0) w)

theorem C.slices_AppendSeq_string_string {a0 a1 : Value} {w : World} {R : Value → World → Prop} (h : F.slices_AppendSeq_string_string a0 a1 w R) : cl Tryd.prog 69 #[a0, a1] w R :=
  calls_of_vcR (t := 7) (args := [a0, a1]) (an := (anL [])) (jn := (jnL [])) mixed Tryd.func69 (by kernel_rfl) (by kernel_rfl) (by kernel_rfl) (by kernel_rfl) (of_decide_eq_true (by kernel_rfl)) (of_decide_eq_true (by kernel_rfl)) (Eq.mp (by kernel_rfl) h)

/-- maps.Keys[map[string][]passbook/disk.sector,string,[]passbook/disk.sector]$1 (function 65); slots: 0:yield 2:yield 3:k -/
def F.maps_Keys_mapstring_disk_sector_string_disk_sector_1 (a0 a1 : Value) (w : World) (R : Value → World → Prop) : Prop :=
  ld Tryd.prog 47 a1 w fun v4 w =>
  rg Tryd.prog 47 v4 w fun v5 w =>
  loopF [] [] w fun g1 w C1 =>
  nx v5 w fun v6 w =>
  ex v6 0 w fun v7 w =>
  cnd v7
  (en v5 w fun v8 w =>
  ex v8 0 w fun v9 w =>
  cf Tryd.prog .plain a0 #[v9] w fun v12 w =>
  un .not v12 w fun v13 w =>
  cnd v13
  (R (.tuple #[]) w)
  (C1 [] w))
  (R (.tuple #[]) w)

theorem C.maps_Keys_mapstring_disk_sector_string_disk_sector_1 {a0 a1 : Value} {w : World} {R : Value → World → Prop} (h : F.maps_Keys_mapstring_disk_sector_string_disk_sector_1 a0 a1 w R) : cl Tryd.prog 65 #[a0, a1] w R :=
  calls_of_vc (args := [a0, a1]) (an := (anL [(1, [])])) (jn := (jnL [])) mixed Tryd.func65 (by kernel_rfl) (by kernel_rfl) (of_decide_eq_true (by kernel_rfl)) (Eq.mp (by kernel_rfl) h)

end Go.Proofs.YtppefblkmgihoaaDoor
