/- The conditions of functions of the program: what must hold ahead of a call, and that it is enough. -/
import Derived.Test.YtbjkbonnmeppoaaBtyNum
namespace Go.Bty
open Go
open Go.Proofs.Try renaming prog → P
set_option maxRecDepth 100000
def h_table_Table_shard_entry_Put : H := (.s (.reg []) (.s (.s (.reg []) (.s (.reg []) (.s (.reg []) (.reg [])))) (.s (.any #[[], [0], [0, 1], [0, 1, 2], [], [4], [4, 5], [4, 5, 6], [4, 5, 6, 7], [4, 5, 6, 7, 8], [0, 1, 2, 3, 4, 5, 6, 7, 8, 9], [0, 1, 2, 3, 4, 5, 6, 7, 8, 9, 10], [0, 1, 2, 3, 4, 5, 6, 7, 8, 9, 10, 11], [0, 1, 2, 3, 4, 5, 6, 7, 8, 9, 10, 11, 12], [0, 1, 2, 3, 4, 5, 6, 7, 8, 9, 10, 11, 12, 13], [0, 1, 2, 3, 4, 5, 6, 7, 8, 9, 10, 11, 12, 13, 14], [0, 1, 2, 3, 4, 5, 6, 7, 8, 9, 10, 11, 12, 13, 14, 15], [0, 1, 2, 3, 4, 5, 6, 7, 8, 9, 10, 11, 12, 13, 14, 15, 16]] (.rd 0 (.rd 1 (.rd 2 (.rd 3 (.rd 4 (.rd 5 (.rd 6 (.rd 7 (.rd 8 (.rd 9 (.rd 10 (.rd 11 (.sp 51 (.rd 12 (.rd 13 (.rd 14 (.rd 15 (.rd 16 (.rd 17 .fin)))))))))))))))))))) (.s (.s (.any #[[] , [] , [] , [2] , [2, 3] , [2, 3, 4] , [] , [6] , [6, 7] , [6, 7, 8] , [6, 7, 8, 9] , [0, 2, 3, 4, 5, 6, 7, 8, 9] , [0, 2, 3, 4, 5, 6, 7, 8, 9, 11] , [0, 2, 3, 4, 5, 6, 7, 8, 9, 11, 12] , [0, 1, 2, 3, 4, 5, 6, 7, 8, 9, 10, 11, 12, 13] , [0, 1, 2, 3, 4, 5, 6, 7, 8, 9, 10, 11, 12, 13, 14] , [0, 1, 2, 3, 4, 5, 6, 7, 8, 9, 10, 11, 12, 13, 14, 15]] (.rd 0 (.rd 1 (.rd 2 (.rd 3 (.rd 4 (.rd 5 (.rd 6 (.rd 7 (.rd 8 (.rd 9 (.rd 10 (.rd 11 (.rd 12 (.ef 13 (.rd 14 (.rd 15 (.ef 16 .fin .no))) .no))))))))))))))) (.reg [])) .z))))
def c_table_Table_shard_entry_Put (a0 : Option Addr) (a1 : ByteArray) (a2 : Option Addr) (w : World) (R : Value → World → Prop) : Prop :=
 Cl P f_table_Table_shard_entry_find #[(.pointer a0), (.string a1)] w (fun (u1 : Value) (w2 : World) => ∃ x3 : Option Addr, ∃ x4 : Int, u1 = (.tuple #[(.pointer x3), (.int .i64 x4)]) ∧ 
 
 (bif (decide (x4 ≥ (0 : Int))) then
 ∃ p5 : Addr, x3 = some p5 ∧ ∃ (x6a : Option Addr) (x6n x6c : Nat), World.cell? w2 p5 = some (.slice x6a x6n x6c) ∧ ∃ a7 : Addr, x6a = some a7 ∧ 0 ≤ x4 ∧ x4 < ((x6n : Nat) : Int) ∧ ((∃ u, World.cell? w2 (Addr.add (Addr.add a7 (Int.toNat x4 * 2)) 1) = some u) ∧ World.frozen? w2 (Addr.add (Addr.add a7 (Int.toNat x4 * 2)) 1) = false) ∧ ∀ w8 : World, w8 = World.setCell w2 (Addr.add (Addr.add a7 (Int.toNat x4 * 2)) 1) (.pointer a2) → 
 ∀ w9 : World, w9 = World.drew w8 → ∃ p10 : Addr, a0 = some p10 ∧ ∃ x11 : Int, World.cell? w9 (Addr.add p10 4) = some (.int .i64 x11) ∧ ∃ p12 : Addr, a0 = some p12 ∧ ∃ (x13a : Option Addr) (x13n x13c : Nat), World.cell? w9 (Addr.add p12 2) = some (.slice x13a x13n x13c) ∧ (bif (decide (x11 > (IntKind.i64.wrap ((2 : Int) * ((x13n : Nat) : Int))))) then ∃ p14 : Addr, a0 = some p14 ∧ ∃ x15 : Int, World.cell? w9 (Addr.add p14 3) = some (.int .i64 x15) ∧ 
 (bif (x15 == (0 : Int)) then
 ∀ w16 : World, w16 = World.drew w9 → ∃ p17 : Addr, a0 = some p17 ∧ ∃ (x18a : Option Addr) (x18n x18c : Nat), World.cell? w16 (Addr.add p17 2) = some (.slice x18a x18n x18c) ∧ ∃ p19 : Addr, a0 = some p19 ∧ ∃ (x20a : Option Addr) (x20n x20c : Nat), World.cell? w16 (Addr.add p19 2) = some (.slice x20a x20n x20c) ∧ ∃ p21 : Addr, a0 = some p21 ∧ ((∃ u, World.cell? w16 (Addr.add p21 1) = some u) ∧ World.frozen? w16 (Addr.add p21 1) = false) ∧ ∀ w22 : World, w22 = World.setCell w16 (Addr.add p21 1) (.slice x18a x18n x18c) → ∃ p23 : Addr, a0 = some p23 ∧ ((∃ u, World.cell? w22 (Addr.add p23 3) = some u) ∧ World.frozen? w22 (Addr.add p23 3) = false) ∧ ∀ w24 : World, w24 = World.setCell w22 (Addr.add p23 3) (.int .i64 ((x20n : Nat) : Int)) → 
 ∃ p25 : Addr, a0 = some p25 ∧ ∃ (x26a : Option Addr) (x26n x26c : Nat), World.cell? w24 (Addr.add p25 2) = some (.slice x26a x26n x26c) ∧ 0 ≤ (IntKind.i64.wrap ((2 : Int) * ((x26n : Nat) : Int))) ∧ (IntKind.i64.wrap ((2 : Int) * ((x26n : Nat) : Int))) ≤ (IntKind.i64.wrap ((2 : Int) * ((x26n : Nat) : Int))) ∧ 24 * (IntKind.i64.wrap ((2 : Int) * ((x26n : Nat) : Int))) ≤ 2 ^ 48 ∧ ∀ (b27 : Nat) (w28 : World), b27 = Array.size (World.heap w24) → w28 = World.alloc w24 (.cells (List.toArray (zc (Int.toNat (IntKind.i64.wrap ((2 : Int) * ((x26n : Nat) : Int)))) [(.slice none 0 0)])) T_table_bucket_p_shard_entry) → ∃ p29 : Addr, a0 = some p29 ∧ ((∃ u, World.cell? w28 (Addr.add p29 2) = some u) ∧ World.frozen? w28 (Addr.add p29 2) = false) ∧ ∀ w30 : World, w30 = World.setCell w28 (Addr.add p29 2) (.slice (some (Addr.mk b27 0 none)) (Int.toNat (IntKind.i64.wrap ((2 : Int) * ((x26n : Nat) : Int)))) (Int.toNat (IntKind.i64.wrap ((2 : Int) * ((x26n : Nat) : Int))))) → 
 R (.tuple #[]) w30 else
 R (.tuple #[]) w9) else
 
 R (.tuple #[]) w9) else
 ∃ p31 : Addr, x3 = some p31 ∧ ∃ (x32a : Option Addr) (x32n x32c : Nat), World.cell? w2 p31 = some (.slice x32a x32n x32c) ∧ ∀ (b33 : Nat) (w34 : World), b33 = Array.size (World.heap w2) → w34 = World.alloc w2 (.cells #[(.string a1), (.pointer a2)] T_table_pair_p_shard_entry) → ∃ ys35 : List Value, RowAt w34 (some (Addr.mk b33 0 none)) (1 * 2) ys35 ∧ OneC ys35 ∧ (x32n + 1 ≤ x32c → 0 < List.length ys35 → ∃ p, x32a = some p ∧ Wr w34 (p.add (x32n * 2)) (List.length ys35)) ∧ (x32c < x32n + 1 → Builtin.nextslicecap (x32n + 1) x32c * 24 ≤ 2 ^ 48 ∧ ∃ xs, RowAt w34 x32a (x32n * 2) xs) ∧ ∀ (sa36 : Option Addr) (c37 : Nat) (w38 : World), AppR T_table_pair_p_shard_entry 2 [(.string (⟨#[]⟩ : ByteArray)), (.pointer none)] x32a x32n x32c 1 ys35 w34 sa36 c37 w38 → ∃ p39 : Addr, x3 = some p39 ∧ ((∃ u, World.cell? w38 p39 = some u) ∧ World.frozen? w38 p39 = false) ∧ ∀ w40 : World, w40 = World.setCell w38 p39 (.slice sa36 (x32n + 1) c37) → 
 ∃ p41 : Addr, a0 = some p41 ∧ ∃ x42 : Int, World.cell? w40 (Addr.add p41 4) = some (.int .i64 x42) ∧ ∃ p43 : Addr, a0 = some p43 ∧ ((∃ u, World.cell? w40 (Addr.add p43 4) = some u) ∧ World.frozen? w40 (Addr.add p43 4) = false) ∧ ∀ w44 : World, w44 = World.setCell w40 (Addr.add p43 4) (.int .i64 (IntKind.i64.wrap (x42 + (1 : Int)))) → 
 ∀ w45 : World, w45 = World.drew w44 → ∃ p46 : Addr, a0 = some p46 ∧ ∃ x47 : Int, World.cell? w45 (Addr.add p46 4) = some (.int .i64 x47) ∧ ∃ p48 : Addr, a0 = some p48 ∧ ∃ (x49a : Option Addr) (x49n x49c : Nat), World.cell? w45 (Addr.add p48 2) = some (.slice x49a x49n x49c) ∧ (bif (decide (x47 > (IntKind.i64.wrap ((2 : Int) * ((x49n : Nat) : Int))))) then ∃ p50 : Addr, a0 = some p50 ∧ ∃ x51 : Int, World.cell? w45 (Addr.add p50 3) = some (.int .i64 x51) ∧ 
 (bif (x51 == (0 : Int)) then
 ∀ w52 : World, w52 = World.drew w45 → ∃ p53 : Addr, a0 = some p53 ∧ ∃ (x54a : Option Addr) (x54n x54c : Nat), World.cell? w52 (Addr.add p53 2) = some (.slice x54a x54n x54c) ∧ ∃ p55 : Addr, a0 = some p55 ∧ ∃ (x56a : Option Addr) (x56n x56c : Nat), World.cell? w52 (Addr.add p55 2) = some (.slice x56a x56n x56c) ∧ ∃ p57 : Addr, a0 = some p57 ∧ ((∃ u, World.cell? w52 (Addr.add p57 1) = some u) ∧ World.frozen? w52 (Addr.add p57 1) = false) ∧ ∀ w58 : World, w58 = World.setCell w52 (Addr.add p57 1) (.slice x54a x54n x54c) → ∃ p59 : Addr, a0 = some p59 ∧ ((∃ u, World.cell? w58 (Addr.add p59 3) = some u) ∧ World.frozen? w58 (Addr.add p59 3) = false) ∧ ∀ w60 : World, w60 = World.setCell w58 (Addr.add p59 3) (.int .i64 ((x56n : Nat) : Int)) → 
 ∃ p61 : Addr, a0 = some p61 ∧ ∃ (x62a : Option Addr) (x62n x62c : Nat), World.cell? w60 (Addr.add p61 2) = some (.slice x62a x62n x62c) ∧ 0 ≤ (IntKind.i64.wrap ((2 : Int) * ((x62n : Nat) : Int))) ∧ (IntKind.i64.wrap ((2 : Int) * ((x62n : Nat) : Int))) ≤ (IntKind.i64.wrap ((2 : Int) * ((x62n : Nat) : Int))) ∧ 24 * (IntKind.i64.wrap ((2 : Int) * ((x62n : Nat) : Int))) ≤ 2 ^ 48 ∧ ∀ (b63 : Nat) (w64 : World), b63 = Array.size (World.heap w60) → w64 = World.alloc w60 (.cells (List.toArray (zc (Int.toNat (IntKind.i64.wrap ((2 : Int) * ((x62n : Nat) : Int)))) [(.slice none 0 0)])) T_table_bucket_p_shard_entry) → ∃ p65 : Addr, a0 = some p65 ∧ ((∃ u, World.cell? w64 (Addr.add p65 2) = some u) ∧ World.frozen? w64 (Addr.add p65 2) = false) ∧ ∀ w66 : World, w66 = World.setCell w64 (Addr.add p65 2) (.slice (some (Addr.mk b63 0 none)) (Int.toNat (IntKind.i64.wrap ((2 : Int) * ((x62n : Nat) : Int)))) (Int.toNat (IntKind.i64.wrap ((2 : Int) * ((x62n : Nat) : Int))))) → 
 R (.tuple #[]) w66 else
 R (.tuple #[]) w45) else
 
 R (.tuple #[]) w45)))
theorem e_table_Table_shard_entry_Put : (fun (a0 : Option Addr) (a1 : ByteArray) (a2 : Option Addr) (w : World) (R : Value → World → Prop) => vf P f_table_Table_shard_entry_Put h_table_Table_shard_entry_Put [(.pointer a0), (.string a1), (.pointer a2)] w R) = c_table_Table_shard_entry_Put := by kernel_rfl
theorem cl_table_Table_shard_entry_Put {a0 : Option Addr} {a1 : ByteArray} {a2 : Option Addr} {w : World} {R : Value → World → Prop} (h : c_table_Table_shard_entry_Put a0 a1 a2 w R) : Cl P f_table_Table_shard_entry_Put #[(.pointer a0), (.string a1), (.pointer a2)] w R := cl_of mixed (congrFun (congrFun (congrFun (congrFun (congrFun e_table_Table_shard_entry_Put a0) a1) a2) w) R) h

def h_table_Table_shard_entry_Get : H := (.s (.reg []) (.s (.reg []) (.s (.s (.reg []) (.s (.s (.reg []) (.s (.reg []) .z)) .z)) (.s (.reg []) .z))))
def c_table_Table_shard_entry_Get (a0 : Option Addr) (a1 : ByteArray) (w : World) (R : Value → World → Prop) : Prop :=
 
 Cl P f_table_Table_shard_entry_find #[(.pointer a0), (.string a1)] w (fun (u1 : Value) (w2 : World) => ∃ x3 : Option Addr, ∃ x4 : Int, u1 = (.tuple #[(.pointer x3), (.int .i64 x4)]) ∧ 
 
 (bif (decide (x4 < (0 : Int))) then
 
 
 R (.tuple #[(.pointer none), (.bool false)]) w2 else
 ∃ p5 : Addr, x3 = some p5 ∧ ∃ (x6a : Option Addr) (x6n x6c : Nat), World.cell? w2 p5 = some (.slice x6a x6n x6c) ∧ ∃ a7 : Addr, x6a = some a7 ∧ 0 ≤ x4 ∧ x4 < ((x6n : Nat) : Int) ∧ ∃ x8 : Option Addr, World.cell? w2 (Addr.add (Addr.add a7 (Int.toNat x4 * 2)) 1) = some (.pointer x8) ∧ 
 R (.tuple #[(.pointer x8), (.bool true)]) w2))
theorem e_table_Table_shard_entry_Get : (fun (a0 : Option Addr) (a1 : ByteArray) (w : World) (R : Value → World → Prop) => vf P f_table_Table_shard_entry_Get h_table_Table_shard_entry_Get [(.pointer a0), (.string a1)] w R) = c_table_Table_shard_entry_Get := by kernel_rfl
theorem cl_table_Table_shard_entry_Get {a0 : Option Addr} {a1 : ByteArray} {w : World} {R : Value → World → Prop} (h : c_table_Table_shard_entry_Get a0 a1 w R) : Cl P f_table_Table_shard_entry_Get #[(.pointer a0), (.string a1)] w R := cl_of mixed (congrFun (congrFun (congrFun (congrFun e_table_Table_shard_entry_Get a0) a1) w) R) h

def h_table_Table_shard_entry_Delete : H := (.s (.reg []) (.s (.reg []) (.s (.s (.reg []) (.s (.s (.reg []) (.reg [])) .z)) (.s (.reg []) .z))))
def c_table_Table_shard_entry_Delete (a0 : Option Addr) (a1 : ByteArray) (w : World) (R : Value → World → Prop) : Prop :=
 
 Cl P f_table_Table_shard_entry_find #[(.pointer a0), (.string a1)] w (fun (u1 : Value) (w2 : World) => ∃ x3 : Option Addr, ∃ x4 : Int, u1 = (.tuple #[(.pointer x3), (.int .i64 x4)]) ∧ 
 
 (bif (decide (x4 ≥ (0 : Int))) then
 ∃ p5 : Addr, x3 = some p5 ∧ ∃ (x6a : Option Addr) (x6n x6c : Nat), World.cell? w2 p5 = some (.slice x6a x6n x6c) ∧ Cl P f_slices_Delete_table_bucket_shard_entry_table_pair_shard_entry #[(.slice x6a x6n x6c), (.int .i64 x4), (.int .i64 (IntKind.i64.wrap (x4 + (1 : Int))))] w2 (fun (u7 : Value) (w8 : World) => ∃ (x9a : Option Addr) (x9n x9c : Nat), u7 = (.slice x9a x9n x9c) ∧ ∃ p10 : Addr, x3 = some p10 ∧ ((∃ u, World.cell? w8 p10 = some u) ∧ World.frozen? w8 p10 = false) ∧ ∀ w11 : World, w11 = World.setCell w8 p10 (.slice x9a x9n x9c) → 
 ∃ p12 : Addr, a0 = some p12 ∧ ∃ x13 : Int, World.cell? w11 (Addr.add p12 4) = some (.int .i64 x13) ∧ ∃ p14 : Addr, a0 = some p14 ∧ ((∃ u, World.cell? w11 (Addr.add p14 4) = some u) ∧ World.frozen? w11 (Addr.add p14 4) = false) ∧ ∀ w15 : World, w15 = World.setCell w11 (Addr.add p14 4) (.int .i64 (IntKind.i64.wrap (x13 - (1 : Int)))) → 
 
 R (.bool (decide (x4 ≥ (0 : Int)))) w15) else
 
 R (.bool (decide (x4 ≥ (0 : Int)))) w2))
theorem e_table_Table_shard_entry_Delete : (fun (a0 : Option Addr) (a1 : ByteArray) (w : World) (R : Value → World → Prop) => vf P f_table_Table_shard_entry_Delete h_table_Table_shard_entry_Delete [(.pointer a0), (.string a1)] w R) = c_table_Table_shard_entry_Delete := by kernel_rfl
theorem cl_table_Table_shard_entry_Delete {a0 : Option Addr} {a1 : ByteArray} {w : World} {R : Value → World → Prop} (h : c_table_Table_shard_entry_Delete a0 a1 w R) : Cl P f_table_Table_shard_entry_Delete #[(.pointer a0), (.string a1)] w R := cl_of mixed (congrFun (congrFun (congrFun (congrFun e_table_Table_shard_entry_Delete a0) a1) w) R) h

def h_table_Table_shard_entry_Len : H := (.s (.reg []) (.s (.reg []) .z))
def c_table_Table_shard_entry_Len (a0 : Option Addr) (w : World) (R : Value → World → Prop) : Prop :=
 
 ∃ p1 : Addr, a0 = some p1 ∧ ∃ x2 : Int, World.cell? w (Addr.add p1 4) = some (.int .i64 x2) ∧ 
 R (.int .i64 x2) w
theorem e_table_Table_shard_entry_Len : (fun (a0 : Option Addr) (w : World) (R : Value → World → Prop) => vf P f_table_Table_shard_entry_Len h_table_Table_shard_entry_Len [(.pointer a0)] w R) = c_table_Table_shard_entry_Len := by kernel_rfl
theorem cl_table_Table_shard_entry_Len {a0 : Option Addr} {w : World} {R : Value → World → Prop} (h : c_table_Table_shard_entry_Len a0 w R) : Cl P f_table_Table_shard_entry_Len #[(.pointer a0)] w R := cl_of mixed (congrFun (congrFun (congrFun e_table_Table_shard_entry_Len a0) w) R) h

def h_table_Table_shard_entry_find : H := (.s (.reg []) (.s (.reg []) (.s (.reg []) (.s (.reg []) .z))))
def c_table_Table_shard_entry_find (a0 : Option Addr) (a1 : ByteArray) (w : World) (R : Value → World → Prop) : Prop :=
 ∀ (b1 : Nat) (w2 : World), b1 = Array.size (World.heap w) → w2 = World.alloc w (.cells #[(.string a1)] T_string) → 
 Cl P f_table_Table_shard_entry_step #[(.pointer a0)] w2 (fun (u3 : Value) (w4 : World) => u3 = (.tuple #[]) ∧ 
 ∃ x5 : ByteArray, World.cell? w4 (Addr.mk b1 0 none) = some (.string x5) ∧ Cl P f_table_Table_shard_entry_of #[(.pointer a0), (.string x5)] w4 (fun (u6 : Value) (w7 : World) => ∃ x8 : Option Addr, u6 = (.pointer x8) ∧ 
 ∃ p9 : Addr, x8 = some p9 ∧ ∃ (x10a : Option Addr) (x10n x10c : Nat), World.cell? w7 p9 = some (.slice x10a x10n x10c) ∧ Cl P f_slices_IndexFunc_table_bucket_shard_entry_table_pair_shard_entry #[(.slice x10a x10n x10c), (.func (.func f_table_Table_shard_entry_find_1) #[] #[(.pointer (some (Addr.mk b1 0 none)))])] w7 (fun (u11 : Value) (w12 : World) => ∃ x13 : Int, u11 = (.int .i64 x13) ∧ 
 R (.tuple #[(.pointer x8), (.int .i64 x13)]) w12)))
theorem e_table_Table_shard_entry_find : (fun (a0 : Option Addr) (a1 : ByteArray) (w : World) (R : Value → World → Prop) => vf P f_table_Table_shard_entry_find h_table_Table_shard_entry_find [(.pointer a0), (.string a1)] w R) = c_table_Table_shard_entry_find := by kernel_rfl
theorem cl_table_Table_shard_entry_find {a0 : Option Addr} {a1 : ByteArray} {w : World} {R : Value → World → Prop} (h : c_table_Table_shard_entry_find a0 a1 w R) : Cl P f_table_Table_shard_entry_find #[(.pointer a0), (.string a1)] w R := cl_of mixed (congrFun (congrFun (congrFun (congrFun e_table_Table_shard_entry_find a0) a1) w) R) h

def h_table_Table_shard_entry_All : H := (.s (.reg []) (.s (.reg []) .z))
def c_table_Table_shard_entry_All (a0 : Option Addr) (w : World) (R : Value → World → Prop) : Prop :=
 ∀ (b1 : Nat) (w2 : World), b1 = Array.size (World.heap w) → w2 = World.alloc w (.cells #[(.pointer a0)] T_p_table_Table_p_shard_entry) → 
 
 R (.func (.func f_table_Table_shard_entry_All_1) #[] #[(.pointer (some (Addr.mk b1 0 none)))]) w2
theorem e_table_Table_shard_entry_All : (fun (a0 : Option Addr) (w : World) (R : Value → World → Prop) => vf P f_table_Table_shard_entry_All h_table_Table_shard_entry_All [(.pointer a0)] w R) = c_table_Table_shard_entry_All := by kernel_rfl
theorem cl_table_Table_shard_entry_All {a0 : Option Addr} {w : World} {R : Value → World → Prop} (h : c_table_Table_shard_entry_All a0 w R) : Cl P f_table_Table_shard_entry_All #[(.pointer a0)] w R := cl_of mixed (congrFun (congrFun (congrFun e_table_Table_shard_entry_All a0) w) R) h

def h_table_Table_shard_entry_step : H := (.s (.s (.reg []) (.s .z .z)) (.s (.any #[[], [0], [0, 1], [0, 1, 2], [0, 1, 2, 3], [], [5], [5, 6], [5, 6, 7], [0, 1, 2, 3, 4, 5, 6, 7, 8], [0, 1, 2, 3, 4, 5, 6, 7, 8, 9]] (.rd 0 (.rd 1 (.rd 2 (.rd 3 (.rd 4 (.rd 5 (.rd 6 (.rd 7 (.rd 8 (.rd 9 (.rd 10 .fin)))))))))))) (.s (.reg []) (.s (.reg []) (.s (.reg []) (.s (.reg []) (.one (.loop [(44, (.one (.int .i64)))] (.s (.reg []) (.s (.s .z .z) (.s (.one (.s (.reg []) (.s (.any #[[], [0], [0, 1], [0, 1, 2], [], [4], [4, 5], [4, 5, 6], [], [8], [4, 5, 6, 7, 8, 9], [], [11], [11, 12], [11, 12, 13], [11, 12, 13, 14], [4, 5, 6, 7, 8, 9, 10, 11, 12, 13, 14, 15], [0, 1, 2, 3, 4, 5, 6, 7, 8, 9, 10, 11, 12, 13, 14, 15, 16], [0, 1, 2, 3, 4, 5, 6, 7, 8, 9, 10, 11, 12, 13, 14, 15, 16, 17]] (.rd 0 (.rd 1 (.rd 2 (.rd 3 (.rd 4 (.rd 5 (.rd 6 (.rd 7 (.rd 8 (.rd 9 (.rd 11 (.rd 12 (.rd 13 (.rd 14 (.rd 15 (.ef 10 (.ef 16 (.rd 17 (.rd 18 .fin)) .no) .no))))))))))))))))) (.any #[[], [], [1], [1, 2], [], [4], [1, 2, 3, 4, 5], [0, 1, 2, 3, 4, 5, 6], [0, 1, 2, 3, 4, 5, 6, 7]] (.rd 0 (.rd 1 (.rd 2 (.rd 3 (.rd 4 (.ef 5 (.ef 6 (.rd 7 (.ef 8 .fin .no)) .no) .no)))))))))) (.reg []))))))))))))
def c_table_Table_shard_entry_step (a0 : Option Addr) (w : World) (R : Value → World → Prop) : Prop :=
 ∃ p1 : Addr, a0 = some p1 ∧ ∃ x2 : Int, World.cell? w (Addr.add p1 3) = some (.int .i64 x2) ∧ 
 (bif (x2 == (0 : Int)) then
 R (.tuple #[]) w else
 ∀ w3 : World, w3 = World.drew w → ∃ p4 : Addr, a0 = some p4 ∧ ∃ (x5a : Option Addr) (x5n x5c : Nat), World.cell? w3 (Addr.add p4 1) = some (.slice x5a x5n x5c) ∧ ∃ p6 : Addr, a0 = some p6 ∧ ∃ x7 : Int, World.cell? w3 (Addr.add p6 3) = some (.int .i64 x7) ∧ 
 ∃ p8 : Addr, a0 = some p8 ∧ ∃ (x9a : Option Addr) (x9n x9c : Nat), World.cell? w3 (Addr.add p8 1) = some (.slice x9a x9n x9c) ∧ ∃ a10 : Addr, x9a = some a10 ∧ 0 ≤ (IntKind.i64.wrap (((x5n : Nat) : Int) - x7)) ∧ (IntKind.i64.wrap (((x5n : Nat) : Int) - x7)) < ((x9n : Nat) : Int) ∧ ∃ (x11a : Option Addr) (x11n x11c : Nat), World.cell? w3 (Addr.add a10 (Int.toNat (IntKind.i64.wrap (((x5n : Nat) : Int) - x7)) * 1)) = some (.slice x11a x11n x11c) ∧ 
 ∃ p12 : Addr, a0 = some p12 ∧ ∃ (x13a : Option Addr) (x13n x13c : Nat), World.cell? w3 (Addr.add p12 1) = some (.slice x13a x13n x13c) ∧ ∃ a14 : Addr, x13a = some a14 ∧ 0 ≤ (IntKind.i64.wrap (((x5n : Nat) : Int) - x7)) ∧ (IntKind.i64.wrap (((x5n : Nat) : Int) - x7)) < ((x13n : Nat) : Int) ∧ ((∃ u, World.cell? w3 (Addr.add a14 (Int.toNat (IntKind.i64.wrap (((x5n : Nat) : Int) - x7)) * 1)) = some u) ∧ World.frozen? w3 (Addr.add a14 (Int.toNat (IntKind.i64.wrap (((x5n : Nat) : Int) - x7)) * 1)) = false) ∧ ∀ w15 : World, w15 = World.setCell w3 (Addr.add a14 (Int.toNat (IntKind.i64.wrap (((x5n : Nat) : Int) - x7)) * 1)) (.slice none 0 0) → 
 ∃ p16 : Addr, a0 = some p16 ∧ ∃ x17 : Int, World.cell? w15 (Addr.add p16 3) = some (.int .i64 x17) ∧ ∃ p18 : Addr, a0 = some p18 ∧ ((∃ u, World.cell? w15 (Addr.add p18 3) = some u) ∧ World.frozen? w15 (Addr.add p18 3) = false) ∧ ∀ w19 : World, w19 = World.setCell w15 (Addr.add p18 3) (.int .i64 (IntKind.i64.wrap (x17 - (1 : Int)))) → 
 
 ∃ (I20 : List Value → World → Prop) (m21 : List Value → World → Nat), (I20 [(.int .i64 (0 : Int))] w19) ∧
 ∀ (vs22 : List Value) (w23 : World), I20 vs22 w23 → ∃ x24 : Int, vs22 = [(.int .i64 x24)] ∧ 
 (bif (decide (x24 < ((x11n : Nat) : Int))) then
 ∃ a25 : Addr, x11a = some a25 ∧ 0 ≤ x24 ∧ x24 < ((x11n : Nat) : Int) ∧ ∃ x26 : ByteArray, ∃ x27 : Option Addr, SpanAt w23 (Addr.add a25 (Int.toNat x24 * 2)) [(.string x26), (.pointer x27)] ∧ ∀ (b28 : Nat) (w29 : World), b28 = Array.size (World.heap w23) → w29 = World.alloc w23 (.cells #[(.string (⟨#[]⟩ : ByteArray)), (.pointer none)] T_table_pair_p_shard_entry) → Wr w29 (Addr.mk b28 0 none) 2 ∧ ∀ w30 : World, w30 = setSpan w29 (Addr.mk b28 0 none) [(.string x26), (.pointer x27)] → 
 ∀ w31 : World, w31 = World.drew w30 → ∃ p32 : Addr, a0 = some p32 ∧ ∃ (x33a : Option Addr) (x33n x33c : Nat), World.cell? w31 (Addr.add p32 2) = some (.slice x33a x33n x33c) ∧ ∃ p34 : Addr, a0 = some p34 ∧ ∃ x35 : Int, World.cell? w31 (Addr.add p34 0) = some (.int .u64 x35) ∧ ∃ x36 : ByteArray, World.cell? w31 (Addr.add (Addr.mk b28 0 none) 0) = some (.string x36) ∧ ∃ p37 : Addr, a0 = some p37 ∧ ∃ (x38a : Option Addr) (x38n x38c : Nat), World.cell? w31 (Addr.add p37 2) = some (.slice x38a x38n x38c) ∧ Cl P f_hash_Of #[(.int .u64 x35), (.string x36)] w31 (fun (u39 : Value) (w40 : World) => ∃ x41 : Int, u39 = (.int .u64 x41) ∧ (∃ (x42a : Option Addr) (x42n x42c : Nat), World.cell? w40 (Addr.add p37 2) = some (.slice x42a x42n x42c) ∧ (.slice x42a x42n x42c) = ((.slice x38a x38n x38c) : Value)) ∧ (∃ (x43a : Option Addr) (x43n x43c : Nat), World.cell? w40 (Addr.add p32 2) = some (.slice x43a x43n x43c) ∧ (.slice x43a x43n x43c) = ((.slice x33a x33n x33c) : Value)) ∧ Cl P f_hash_Below #[(.int .u64 x41), (.int .i64 ((x38n : Nat) : Int))] w40 (fun (u44 : Value) (w45 : World) => ∃ x46 : Int, u44 = (.int .i64 x46) ∧ (∃ (x47a : Option Addr) (x47n x47c : Nat), World.cell? w45 (Addr.add p32 2) = some (.slice x47a x47n x47c) ∧ (.slice x47a x47n x47c) = ((.slice x33a x33n x33c) : Value)) ∧ ∃ a48 : Addr, x33a = some a48 ∧ 0 ≤ x46 ∧ x46 < ((x33n : Nat) : Int) ∧ 
 ∀ w49 : World, w49 = World.drew w45 → ∃ p50 : Addr, (some (Addr.add a48 (Int.toNat x46 * 1))) = some p50 ∧ ∃ (x51a : Option Addr) (x51n x51c : Nat), World.cell? w49 p50 = some (.slice x51a x51n x51c) ∧ ∃ x52 : ByteArray, ∃ x53 : Option Addr, SpanAt w49 (Addr.mk b28 0 none) [(.string x52), (.pointer x53)] ∧ ∀ (b54 : Nat) (w55 : World), b54 = Array.size (World.heap w49) → w55 = World.alloc w49 (.cells #[(.string x52), (.pointer x53)] T_table_pair_p_shard_entry) → (∃ (x56a : Option Addr) (x56n x56c : Nat), World.cell? w55 p50 = some (.slice x56a x56n x56c) ∧ (.slice x56a x56n x56c) = ((.slice x51a x51n x51c) : Value)) ∧ ∃ ys57 : List Value, RowAt w55 (some (Addr.mk b54 0 none)) (1 * 2) ys57 ∧ OneC ys57 ∧ (x51n + 1 ≤ x51c → 0 < List.length ys57 → ∃ p, x51a = some p ∧ Wr w55 (p.add (x51n * 2)) (List.length ys57)) ∧ (x51c < x51n + 1 → Builtin.nextslicecap (x51n + 1) x51c * 24 ≤ 2 ^ 48 ∧ ∃ xs, RowAt w55 x51a (x51n * 2) xs) ∧ ∀ (sa58 : Option Addr) (c59 : Nat) (w60 : World), AppR T_table_pair_p_shard_entry 2 [(.string (⟨#[]⟩ : ByteArray)), (.pointer none)] x51a x51n x51c 1 ys57 w55 sa58 c59 w60 → ∃ p61 : Addr, (some (Addr.add a48 (Int.toNat x46 * 1))) = some p61 ∧ ((∃ u, World.cell? w60 p61 = some u) ∧ World.frozen? w60 p61 = false) ∧ ∀ w62 : World, w62 = World.setCell w60 p61 (.slice sa58 (x51n + 1) c59) → 
 
 I20 [(.int .i64 (IntKind.i64.wrap (x24 + (1 : Int))))] w62 ∧ m21 [(.int .i64 (IntKind.i64.wrap (x24 + (1 : Int))))] w62 < m21 vs22 w23)) else
 R (.tuple #[]) w23))
theorem e_table_Table_shard_entry_step : (fun (a0 : Option Addr) (w : World) (R : Value → World → Prop) => vf P f_table_Table_shard_entry_step h_table_Table_shard_entry_step [(.pointer a0)] w R) = c_table_Table_shard_entry_step := by kernel_rfl
theorem cl_table_Table_shard_entry_step {a0 : Option Addr} {w : World} {R : Value → World → Prop} (h : c_table_Table_shard_entry_step a0 w R) : Cl P f_table_Table_shard_entry_step #[(.pointer a0)] w R := cl_of mixed (congrFun (congrFun (congrFun e_table_Table_shard_entry_step a0) w) R) h

def h_table_Table_shard_entry_of : H := (.s (.reg []) (.s (.reg []) (.s (.s (.reg []) (.s (.any #[[], [0], [0, 1], [0, 1, 2], [0, 1, 2, 3], [0, 1, 2, 3, 4], [0, 1, 2, 3, 4, 5], [0, 1, 2, 3, 4, 5], [0, 1, 2, 3, 4, 5, 7], [0, 1, 2, 3, 4, 5, 7, 8], [0, 1, 2, 3, 4, 5, 7, 8, 9], [0, 1, 2, 3, 4, 5, 7, 8, 9, 10], [0, 1, 2, 3, 4, 5], [0, 1, 2, 3, 4, 5, 12], [0, 1, 2, 3, 4, 5, 12, 13], [0, 1, 2, 3, 4, 5, 12, 13, 14], [0, 1, 2, 3, 4, 5, 7, 8, 9, 10, 11, 12, 13, 14, 15], [0, 1, 2, 3, 4, 5, 6, 7, 8, 9, 10, 11, 12, 13, 14, 15, 16], [0, 1, 2, 3, 4, 5, 6, 7, 8, 9, 10, 11, 12, 13, 14, 15, 16, 17]] (.rd 0 (.rd 1 (.rd 2 (.rd 3 (.rd 4 (.rd 5 (.sp 25 (.rd 6 (.rd 7 (.rd 8 (.rd 9 (.rd 10 (.rd 11 (.rd 12 (.rd 13 (.rd 14 (.rd 15 (.rd 16 (.rd 17 (.rd 18 .fin))))))))))))))))))))) (.s (.s (.reg []) .z) .z))) (.s (.any #[[], [0], [0, 1], [0, 1, 2], [], [], [5], [5, 6], [5, 6, 7], [5, 6, 7, 8], [4, 5, 6, 7, 8, 9], [0, 1, 2, 3, 4, 5, 6, 7, 8, 9, 10], [0, 1, 2, 3, 4, 5, 6, 7, 8, 9, 10, 11]] (.rd 0 (.rd 1 (.rd 2 (.rd 3 (.rd 4 (.rd 5 (.rd 6 (.rd 7 (.rd 8 (.rd 9 (.ef 10 (.rd 11 (.rd 12 .fin)) .no)))))))))))) .z))))
def c_table_Table_shard_entry_of (a0 : Option Addr) (a1 : ByteArray) (w : World) (R : Value → World → Prop) : Prop :=
 
 ∃ p1 : Addr, a0 = some p1 ∧ ∃ x2 : Int, World.cell? w (Addr.add p1 0) = some (.int .u64 x2) ∧ Cl P f_hash_Of #[(.int .u64 x2), (.string a1)] w (fun (u3 : Value) (w4 : World) => ∃ x5 : Int, u3 = (.int .u64 x5) ∧ 
 ∃ p6 : Addr, a0 = some p6 ∧ ∃ (x7a : Option Addr) (x7n x7c : Nat), World.cell? w4 (Addr.add p6 1) = some (.slice x7a x7n x7c) ∧ Cl P f_hash_Below #[(.int .u64 x5), (.int .i64 ((x7n : Nat) : Int))] w4 (fun (u8 : Value) (w9 : World) => ∃ x10 : Int, u8 = (.int .i64 x10) ∧ 
 ∀ w11 : World, w11 = World.drew w9 → ∃ p12 : Addr, a0 = some p12 ∧ ∃ x13 : Int, World.cell? w11 (Addr.add p12 3) = some (.int .i64 x13) ∧ (bif (decide (x13 > (0 : Int))) then ∃ p14 : Addr, a0 = some p14 ∧ ∃ (x15a : Option Addr) (x15n x15c : Nat), World.cell? w11 (Addr.add p14 1) = some (.slice x15a x15n x15c) ∧ ∃ p16 : Addr, a0 = some p16 ∧ ∃ x17 : Int, World.cell? w11 (Addr.add p16 3) = some (.int .i64 x17) ∧ 
 (bif (decide (x10 ≥ (IntKind.i64.wrap (((x15n : Nat) : Int) - x17)))) then
 ∃ p18 : Addr, a0 = some p18 ∧ ∃ (x19a : Option Addr) (x19n x19c : Nat), World.cell? w11 (Addr.add p18 1) = some (.slice x19a x19n x19c) ∧ ∃ a20 : Addr, x19a = some a20 ∧ 0 ≤ x10 ∧ x10 < ((x19n : Nat) : Int) ∧ 
 R (.pointer (some (Addr.add a20 (Int.toNat x10 * 1)))) w11 else
 ∀ w21 : World, w21 = World.drew w11 → ∃ p22 : Addr, a0 = some p22 ∧ ∃ (x23a : Option Addr) (x23n x23c : Nat), World.cell? w21 (Addr.add p22 2) = some (.slice x23a x23n x23c) ∧ ∃ p24 : Addr, a0 = some p24 ∧ ∃ (x25a : Option Addr) (x25n x25c : Nat), World.cell? w21 (Addr.add p24 2) = some (.slice x25a x25n x25c) ∧ Cl P f_hash_Below #[(.int .u64 x5), (.int .i64 ((x25n : Nat) : Int))] w21 (fun (u26 : Value) (w27 : World) => ∃ x28 : Int, u26 = (.int .i64 x28) ∧ (∃ (x29a : Option Addr) (x29n x29c : Nat), World.cell? w27 (Addr.add p22 2) = some (.slice x29a x29n x29c) ∧ (.slice x29a x29n x29c) = ((.slice x23a x23n x23c) : Value)) ∧ ∃ a30 : Addr, x23a = some a30 ∧ 0 ≤ x28 ∧ x28 < ((x23n : Nat) : Int) ∧ 
 R (.pointer (some (Addr.add a30 (Int.toNat x28 * 1)))) w27)) else
 
 ∀ w31 : World, w31 = World.drew w11 → ∃ p32 : Addr, a0 = some p32 ∧ ∃ (x33a : Option Addr) (x33n x33c : Nat), World.cell? w31 (Addr.add p32 2) = some (.slice x33a x33n x33c) ∧ ∃ p34 : Addr, a0 = some p34 ∧ ∃ (x35a : Option Addr) (x35n x35c : Nat), World.cell? w31 (Addr.add p34 2) = some (.slice x35a x35n x35c) ∧ Cl P f_hash_Below #[(.int .u64 x5), (.int .i64 ((x35n : Nat) : Int))] w31 (fun (u36 : Value) (w37 : World) => ∃ x38 : Int, u36 = (.int .i64 x38) ∧ (∃ (x39a : Option Addr) (x39n x39c : Nat), World.cell? w37 (Addr.add p32 2) = some (.slice x39a x39n x39c) ∧ (.slice x39a x39n x39c) = ((.slice x33a x33n x33c) : Value)) ∧ ∃ a40 : Addr, x33a = some a40 ∧ 0 ≤ x38 ∧ x38 < ((x33n : Nat) : Int) ∧ 
 R (.pointer (some (Addr.add a40 (Int.toNat x38 * 1)))) w37))))
theorem e_table_Table_shard_entry_of : (fun (a0 : Option Addr) (a1 : ByteArray) (w : World) (R : Value → World → Prop) => vf P f_table_Table_shard_entry_of h_table_Table_shard_entry_of [(.pointer a0), (.string a1)] w R) = c_table_Table_shard_entry_of := by kernel_rfl
theorem cl_table_Table_shard_entry_of {a0 : Option Addr} {a1 : ByteArray} {w : World} {R : Value → World → Prop} (h : c_table_Table_shard_entry_of a0 a1 w R) : Cl P f_table_Table_shard_entry_of #[(.pointer a0), (.string a1)] w R := cl_of mixed (congrFun (congrFun (congrFun (congrFun e_table_Table_shard_entry_of a0) a1) w) R) h

def h_table_Table_shard_entry_find_1 : H := (.s (.reg []) (.s (.reg []) .z))
def c_table_Table_shard_entry_find_1 (a0_0 : ByteArray) (a0_1 : Option Addr) (q0 : Addr) (w : World) (R : Value → World → Prop) : Prop :=
 ∀ (b1 : Nat) (w2 : World), b1 = Array.size (World.heap w) → w2 = World.alloc w (.cells #[(.string a0_0), (.pointer a0_1)] T_table_pair_p_shard_entry) → 
 ∃ x3 : ByteArray, World.cell? w2 (Addr.add (Addr.mk b1 0 none) 0) = some (.string x3) ∧ ∃ x4 : ByteArray, World.cell? w2 q0 = some (.string x4) ∧ 
 R (.bool (seq x3 x4)) w2
theorem e_table_Table_shard_entry_find_1 : (fun (a0_0 : ByteArray) (a0_1 : Option Addr) (q0 : Addr) (w : World) (R : Value → World → Prop) => vf P f_table_Table_shard_entry_find_1 h_table_Table_shard_entry_find_1 [(.agg #[(.string a0_0), (.pointer a0_1)]), (.pointer (some q0))] w R) = c_table_Table_shard_entry_find_1 := by kernel_rfl
theorem cl_table_Table_shard_entry_find_1 {a0_0 : ByteArray} {a0_1 : Option Addr} {q0 : Addr} {w : World} {R : Value → World → Prop} (h : c_table_Table_shard_entry_find_1 a0_0 a0_1 q0 w R) : Cl P f_table_Table_shard_entry_find_1 #[(.agg #[(.string a0_0), (.pointer a0_1)]), (.pointer (some q0))] w R := cl_of mixed (congrFun (congrFun (congrFun (congrFun (congrFun e_table_Table_shard_entry_find_1 a0_0) a0_1) q0) w) R) h

def h_table_Table_shard_entry_All_1 : H := (.s (.reg []) (.one (.loop [(8, (.one (.int .i64)))] (.s (.reg []) (.s (.s .z .z) (.s (.one (.s (.reg []) (.s (.reg []) (.s .z .z)))) (.reg [])))))))
def c_table_Table_shard_entry_All_1 (a0 : Value) (q0 : Addr) (w : World) (R : Value → World → Prop) : Prop :=
 ∃ x1 : Option Addr, World.cell? w q0 = some (.pointer x1) ∧ Cl P f_table_Table_shard_entry_sorted #[(.pointer x1)] w (fun (u2 : Value) (w3 : World) => ∃ (x4a : Option Addr) (x4n x4c : Nat), u2 = (.slice x4a x4n x4c) ∧ 
 ∃ (I5 : List Value → World → Prop) (m6 : List Value → World → Nat), (I5 [(.int .i64 (0 : Int))] w3) ∧
 ∀ (vs7 : List Value) (w8 : World), I5 vs7 w8 → ∃ x9 : Int, vs7 = [(.int .i64 x9)] ∧ 
 (bif (decide (x9 < ((x4n : Nat) : Int))) then
 ∃ a10 : Addr, x4a = some a10 ∧ 0 ≤ x9 ∧ x9 < ((x4n : Nat) : Int) ∧ ∃ x11 : ByteArray, ∃ x12 : Option Addr, SpanAt w8 (Addr.add a10 (Int.toNat x9 * 2)) [(.string x11), (.pointer x12)] ∧ ∀ (b13 : Nat) (w14 : World), b13 = Array.size (World.heap w8) → w14 = World.alloc w8 (.cells #[(.string (⟨#[]⟩ : ByteArray)), (.pointer none)] T_table_pair_p_shard_entry) → Wr w14 (Addr.mk b13 0 none) 2 ∧ ∀ w15 : World, w15 = setSpan w14 (Addr.mk b13 0 none) [(.string x11), (.pointer x12)] → 
 ∃ x16 : ByteArray, World.cell? w15 (Addr.add (Addr.mk b13 0 none) 0) = some (.string x16) ∧ ∃ x17 : Option Addr, World.cell? w15 (Addr.add (Addr.mk b13 0 none) 1) = some (.pointer x17) ∧ FvCall P a0 [(.string x16), (.pointer x17)] w15 (fun (u18 : Value) (w19 : World) => ∃ x20 : Bool, u18 = (.bool x20) ∧ 
 (bif (!x20) then
 R (.tuple #[]) w19 else
 
 I5 [(.int .i64 (IntKind.i64.wrap (x9 + (1 : Int))))] w19 ∧ m6 [(.int .i64 (IntKind.i64.wrap (x9 + (1 : Int))))] w19 < m6 vs7 w8)) else
 R (.tuple #[]) w8))
theorem e_table_Table_shard_entry_All_1 : (fun (a0 : Value) (q0 : Addr) (w : World) (R : Value → World → Prop) => vf P f_table_Table_shard_entry_All_1 h_table_Table_shard_entry_All_1 [a0, (.pointer (some q0))] w R) = c_table_Table_shard_entry_All_1 := by kernel_rfl
theorem cl_table_Table_shard_entry_All_1 {a0 : Value} {q0 : Addr} {w : World} {R : Value → World → Prop} (h : c_table_Table_shard_entry_All_1 a0 q0 w R) : Cl P f_table_Table_shard_entry_All_1 #[a0, (.pointer (some q0))] w R := cl_of mixed (congrFun (congrFun (congrFun (congrFun e_table_Table_shard_entry_All_1 a0) q0) w) R) h

def h_table_Table_shard_entry_sorted : H := (.s (.reg []) (.s (.reg []) (.s (.s (.any #[[], [0], [0, 1], [0, 1, 2], [], [4], [4, 5], [4, 5, 6], [0, 1, 2, 3, 4, 5, 6, 7], [0, 1, 2, 3, 4, 5, 6, 7, 8], [0, 1, 2, 3, 4, 5, 6, 7, 8, 9], []] (.rd 0 (.rd 1 (.rd 2 (.rd 3 (.rd 4 (.rd 5 (.rd 6 (.rd 7 (.rd 11 (.ef 8 (.ef 9 (.rd 10 .fin) .no) .no))))))))))) (.one (.loop [(3, (.one .slice)), (17, (.one (.int .i64)))] (.s (.reg []) (.s (.s .z .z) (.s (.one (.s (.reg []) (.reg []))) (.reg []))))))) (.s (.reg []) (.s (.reg []) .z)))))
def c_table_Table_shard_entry_sorted (a0 : Option Addr) (w : World) (R : Value → World → Prop) : Prop :=
 
 
 ∀ w1 : World, w1 = World.drew w → ∃ p2 : Addr, a0 = some p2 ∧ ∃ (x3a : Option Addr) (x3n x3c : Nat), World.cell? w1 (Addr.add p2 1) = some (.slice x3a x3n x3c) ∧ ∃ p4 : Addr, a0 = some p4 ∧ ∃ (x5a : Option Addr) (x5n x5c : Nat), World.cell? w1 (Addr.add p4 2) = some (.slice x5a x5n x5c) ∧ ∀ (b6 : Nat) (w7 : World), b6 = Array.size (World.heap w1) → w7 = World.alloc w1 (.cells #[(.slice x3a x3n x3c), (.slice x5a x5n x5c)] T_s_table_bucket_p_shard_entry) → Cl P f_slices_Concat_table_bucket_shard_entry_table_bucket_shard_entry #[(.slice (some (Addr.mk b6 0 none)) 2 2)] w7 (fun (u8 : Value) (w9 : World) => ∃ (x10a : Option Addr) (x10n x10c : Nat), u8 = (.slice x10a x10n x10c) ∧ 
 ∃ (I11 : List Value → World → Prop) (m12 : List Value → World → Nat), (I11 [(.slice none 0 0), (.int .i64 (0 : Int))] w9) ∧
 ∀ (vs13 : List Value) (w14 : World), I11 vs13 w14 → ∃ (x15a : Option Addr) (x15n x15c : Nat), ∃ x16 : Int, vs13 = [(.slice x15a x15n x15c), (.int .i64 x16)] ∧ 
 (bif (decide (x16 < ((x10n : Nat) : Int))) then
 ∃ a17 : Addr, x10a = some a17 ∧ 0 ≤ x16 ∧ x16 < ((x10n : Nat) : Int) ∧ ∃ (x18a : Option Addr) (x18n x18c : Nat), World.cell? w14 (Addr.add a17 (Int.toNat x16 * 1)) = some (.slice x18a x18n x18c) ∧ 
 ∃ ys19 : List Value, RowAt w14 x18a (x18n * 2) ys19 ∧ OneC ys19 ∧ (x15n + x18n ≤ x15c → 0 < List.length ys19 → ∃ p, x15a = some p ∧ Wr w14 (p.add (x15n * 2)) (List.length ys19)) ∧ (x15c < x15n + x18n → Builtin.nextslicecap (x15n + x18n) x15c * 24 ≤ 2 ^ 48 ∧ ∃ xs, RowAt w14 x15a (x15n * 2) xs) ∧ ∀ (sa20 : Option Addr) (c21 : Nat) (w22 : World), AppR T_table_pair_p_shard_entry 2 [(.string (⟨#[]⟩ : ByteArray)), (.pointer none)] x15a x15n x15c x18n ys19 w14 sa20 c21 w22 → 
 
 I11 [(.slice sa20 (x15n + x18n) c21), (.int .i64 (IntKind.i64.wrap (x16 + (1 : Int))))] w22 ∧ m12 [(.slice sa20 (x15n + x18n) c21), (.int .i64 (IntKind.i64.wrap (x16 + (1 : Int))))] w22 < m12 vs13 w14 else
 Cl P f_slices_SortFunc_table_pair_shard_entry_table_pair_shard_entry #[(.slice x15a x15n x15c), (.func (.func f_table_Table_shard_entry_sorted_1) #[] #[])] w14 (fun (u23 : Value) (w24 : World) => u23 = (.tuple #[]) ∧ 
 
 R (.slice x15a x15n x15c) w24)))
theorem e_table_Table_shard_entry_sorted : (fun (a0 : Option Addr) (w : World) (R : Value → World → Prop) => vf P f_table_Table_shard_entry_sorted h_table_Table_shard_entry_sorted [(.pointer a0)] w R) = c_table_Table_shard_entry_sorted := by kernel_rfl
theorem cl_table_Table_shard_entry_sorted {a0 : Option Addr} {w : World} {R : Value → World → Prop} (h : c_table_Table_shard_entry_sorted a0 w R) : Cl P f_table_Table_shard_entry_sorted #[(.pointer a0)] w R := cl_of mixed (congrFun (congrFun (congrFun e_table_Table_shard_entry_sorted a0) w) R) h

def h_table_Table_shard_entry_sorted_1 : H := (.s (.reg []) (.s (.reg []) .z))
def c_table_Table_shard_entry_sorted_1 (a0_0 : ByteArray) (a0_1 : Option Addr) (a1_0 : ByteArray) (a1_1 : Option Addr) (w : World) (R : Value → World → Prop) : Prop :=
 ∀ (b1 : Nat) (w2 : World), b1 = Array.size (World.heap w) → w2 = World.alloc w (.cells #[(.string a0_0), (.pointer a0_1)] T_table_pair_p_shard_entry) → ∀ (b3 : Nat) (w4 : World), b3 = Array.size (World.heap w2) → w4 = World.alloc w2 (.cells #[(.string a1_0), (.pointer a1_1)] T_table_pair_p_shard_entry) → 
 ∃ x5 : ByteArray, World.cell? w4 (Addr.add (Addr.mk b1 0 none) 0) = some (.string x5) ∧ ∃ x6 : ByteArray, World.cell? w4 (Addr.add (Addr.mk b3 0 none) 0) = some (.string x6) ∧ Cl P f_strings_Compare #[(.string x5), (.string x6)] w4 (fun (u7 : Value) (w8 : World) => ∃ x9 : Int, u7 = (.int .i64 x9) ∧ 
 R (.int .i64 x9) w8)
theorem e_table_Table_shard_entry_sorted_1 : (fun (a0_0 : ByteArray) (a0_1 : Option Addr) (a1_0 : ByteArray) (a1_1 : Option Addr) (w : World) (R : Value → World → Prop) => vf P f_table_Table_shard_entry_sorted_1 h_table_Table_shard_entry_sorted_1 [(.agg #[(.string a0_0), (.pointer a0_1)]), (.agg #[(.string a1_0), (.pointer a1_1)])] w R) = c_table_Table_shard_entry_sorted_1 := by kernel_rfl
theorem cl_table_Table_shard_entry_sorted_1 {a0_0 : ByteArray} {a0_1 : Option Addr} {a1_0 : ByteArray} {a1_1 : Option Addr} {w : World} {R : Value → World → Prop} (h : c_table_Table_shard_entry_sorted_1 a0_0 a0_1 a1_0 a1_1 w R) : Cl P f_table_Table_shard_entry_sorted_1 #[(.agg #[(.string a0_0), (.pointer a0_1)]), (.agg #[(.string a1_0), (.pointer a1_1)])] w R := cl_of mixed (congrFun (congrFun (congrFun (congrFun (congrFun (congrFun e_table_Table_shard_entry_sorted_1 a0_0) a0_1) a1_0) a1_1) w) R) h

def h_table_New_shard_entry : H := (.s (.reg []) (.s (.reg []) .z))
def c_table_New_shard_entry (a0 : Int) (w : World) (R : Value → World → Prop) : Prop :=
 
 0 ≤ (8 : Int) ∧ (8 : Int) ≤ (8 : Int) ∧ 24 * (8 : Int) ≤ 2 ^ 48 ∧ ∀ (b1 : Nat) (w2 : World), b1 = Array.size (World.heap w) → w2 = World.alloc w (.cells (List.toArray (zc (Int.toNat (8 : Int)) [(.slice none 0 0)])) T_table_bucket_p_shard_entry) → ∀ (b3 : Nat) (w4 : World), b3 = Array.size (World.heap w2) → w4 = World.alloc w2 (.cells #[(.int .u64 a0), (.slice none 0 0), (.slice (some (Addr.mk b1 0 none)) (Int.toNat (8 : Int)) (Int.toNat (8 : Int))), (.int .i64 (0 : Int)), (.int .i64 (0 : Int))] T_table_Table_p_shard_entry) → 
 R (.pointer (some (Addr.mk b3 0 none))) w4
theorem e_table_New_shard_entry : (fun (a0 : Int) (w : World) (R : Value → World → Prop) => vf P f_table_New_shard_entry h_table_New_shard_entry [(.int .u64 a0)] w R) = c_table_New_shard_entry := by kernel_rfl
theorem cl_table_New_shard_entry {a0 : Int} {w : World} {R : Value → World → Prop} (h : c_table_New_shard_entry a0 w R) : Cl P f_table_New_shard_entry #[(.int .u64 a0)] w R := cl_of mixed (congrFun (congrFun (congrFun e_table_New_shard_entry a0) w) R) h

def h_slices_IndexFunc_table_bucket_shard_entry_table_pair_shard_entry : H := (.s (.reg []) (.s (.s (.reg []) (.one (.loop [(8, (.one (.int .i64)))] (.s (.reg []) (.s (.s .z .z) (.s (.one (.s (.reg []) (.s (.reg []) (.s (.s (.reg []) .z) .z)))) (.reg []))))))) (.s (.reg []) .z)))
def c_slices_IndexFunc_table_bucket_shard_entry_table_pair_shard_entry (a0a : Option Addr) (a0n a0c : Nat) (a1 : Value) (w : World) (R : Value → World → Prop) : Prop :=
 
 
 ∃ (I1 : List Value → World → Prop) (m2 : List Value → World → Nat), (I1 [(.int .i64 (0 : Int))] w) ∧
 ∀ (vs3 : List Value) (w4 : World), I1 vs3 w4 → ∃ x5 : Int, vs3 = [(.int .i64 x5)] ∧ 
 (bif (decide (x5 < ((a0n : Nat) : Int))) then
 
 ∃ a6 : Addr, a0a = some a6 ∧ 0 ≤ x5 ∧ x5 < ((a0n : Nat) : Int) ∧ ∃ x7 : ByteArray, ∃ x8 : Option Addr, SpanAt w4 (Addr.add a6 (Int.toNat x5 * 2)) [(.string x7), (.pointer x8)] ∧ FvCall P a1 [(.agg #[(.string x7), (.pointer x8)])] w4 (fun (u9 : Value) (w10 : World) => ∃ x11 : Bool, u9 = (.bool x11) ∧ 
 (bif x11 then
 
 R (.int .i64 x5) w10 else
 
 I1 [(.int .i64 (IntKind.i64.wrap (x5 + (1 : Int))))] w10 ∧ m2 [(.int .i64 (IntKind.i64.wrap (x5 + (1 : Int))))] w10 < m2 vs3 w4)) else
 
 R (.int .i64 (-1 : Int)) w4)
theorem e_slices_IndexFunc_table_bucket_shard_entry_table_pair_shard_entry : (fun (a0a : Option Addr) (a0n a0c : Nat) (a1 : Value) (w : World) (R : Value → World → Prop) => vf P f_slices_IndexFunc_table_bucket_shard_entry_table_pair_shard_entry h_slices_IndexFunc_table_bucket_shard_entry_table_pair_shard_entry [(.slice a0a a0n a0c), a1] w R) = c_slices_IndexFunc_table_bucket_shard_entry_table_pair_shard_entry := by kernel_rfl
theorem cl_slices_IndexFunc_table_bucket_shard_entry_table_pair_shard_entry {a0a : Option Addr} {a0n a0c : Nat} {a1 : Value} {w : World} {R : Value → World → Prop} (h : c_slices_IndexFunc_table_bucket_shard_entry_table_pair_shard_entry a0a a0n a0c a1 w R) : Cl P f_slices_IndexFunc_table_bucket_shard_entry_table_pair_shard_entry #[(.slice a0a a0n a0c), a1] w R := cl_of mixed (congrFun (congrFun (congrFun (congrFun (congrFun (congrFun e_slices_IndexFunc_table_bucket_shard_entry_table_pair_shard_entry a0a) a0n) a0c) a1) w) R) h

def h_slices_Delete_table_bucket_shard_entry_table_pair_shard_entry : H := (.s (.reg []) (.s (.reg []) (.s (.s (.reg []) (.s (.s (.reg []) .z) .z)) (.s (.reg []) (.s (.any #[[], [], [0, 1], [], [], [3, 4], [0, 1, 2, 3, 4, 5], [0, 1, 2, 3, 4, 5, 6]] (.rd 0 (.rd 1 (.rd 2 (.rd 3 (.rd 4 (.rd 5 (.ef 6 (.ef 7 .fin .no) .no)))))))) (.s (.reg []) (.s (.reg []) .z)))))))
def c_slices_Delete_table_bucket_shard_entry_table_pair_shard_entry (a0a : Option Addr) (a0n a0c : Nat) (a1 : Int) (a2 : Int) (w : World) (R : Value → World → Prop) : Prop :=
 
 0 ≤ ((a0n : Nat) : Int) ∧ ((a0n : Nat) : Int) ≤ ((a0c : Nat) : Int) ∧ 0 ≤ a2 ∧ a2 ≤ (((Int.toNat ((a0n : Nat) : Int)) : Nat) : Int) ∧ 0 ≤ a1 ∧ a1 ≤ (((Int.toNat a2) : Nat) : Int) ∧ 
 
 (bif (a1 == a2) then
 
 R (.slice a0a a0n a0c) w else
 
 ∀ w1 : World, w1 = World.drew w → 0 ≤ a1 ∧ a1 ≤ ((a0c : Nat) : Int) ∧ 0 ≤ a2 ∧ a2 ≤ ((a0n : Nat) : Int) ∧ ∃ ys2 : List Value, RowAt w1 (offA a0a a0c (Int.toNat a2) 2) ((a0n - (Int.toNat a2)) * 2) ys2 ∧ OneC ys2 ∧ (((Int.toNat a1) - 0) + (a0n - (Int.toNat a2)) ≤ (a0c - 0) → 0 < List.length ys2 → ∃ p, (offA a0a a0c 0 2) = some p ∧ Wr w1 (p.add (((Int.toNat a1) - 0) * 2)) (List.length ys2)) ∧ ((a0c - 0) < ((Int.toNat a1) - 0) + (a0n - (Int.toNat a2)) → Builtin.nextslicecap (((Int.toNat a1) - 0) + (a0n - (Int.toNat a2))) (a0c - 0) * 24 ≤ 2 ^ 48 ∧ ∃ xs, RowAt w1 (offA a0a a0c 0 2) (((Int.toNat a1) - 0) * 2) xs) ∧ ∀ (sa3 : Option Addr) (c4 : Nat) (w5 : World), AppR T_table_pair_p_shard_entry 2 [(.string (⟨#[]⟩ : ByteArray)), (.pointer none)] (offA a0a a0c 0 2) ((Int.toNat a1) - 0) (a0c - 0) (a0n - (Int.toNat a2)) ys2 w1 sa3 c4 w5 → 
 0 ≤ ((a0n : Nat) : Int) ∧ ((a0n : Nat) : Int) ≤ ((c4 : Nat) : Int) ∧ 0 ≤ (((((Int.toNat a1) - 0) + (a0n - (Int.toNat a2))) : Nat) : Int) ∧ (((((Int.toNat a1) - 0) + (a0n - (Int.toNat a2))) : Nat) : Int) ≤ (((Int.toNat ((a0n : Nat) : Int)) : Nat) : Int) ∧ (0 < ((Int.toNat ((a0n : Nat) : Int)) - (Int.toNat (((((Int.toNat a1) - 0) + (a0n - (Int.toNat a2))) : Nat) : Int))) → ∃ p, (offA sa3 c4 (Int.toNat (((((Int.toNat a1) - 0) + (a0n - (Int.toNat a2))) : Nat) : Int)) 2) = some p ∧ Wr w5 p (((Int.toNat ((a0n : Nat) : Int)) - (Int.toNat (((((Int.toNat a1) - 0) + (a0n - (Int.toNat a2))) : Nat) : Int))) * 2)) ∧ ∀ w6 : World, w6 = clrSet (offA sa3 c4 (Int.toNat (((((Int.toNat a1) - 0) + (a0n - (Int.toNat a2))) : Nat) : Int)) 2) ((Int.toNat ((a0n : Nat) : Int)) - (Int.toNat (((((Int.toNat a1) - 0) + (a0n - (Int.toNat a2))) : Nat) : Int))) [(.string (⟨#[]⟩ : ByteArray)), (.pointer none)] w5 → 
 
 R (.slice sa3 (((Int.toNat a1) - 0) + (a0n - (Int.toNat a2))) c4) w6)
theorem e_slices_Delete_table_bucket_shard_entry_table_pair_shard_entry : (fun (a0a : Option Addr) (a0n a0c : Nat) (a1 : Int) (a2 : Int) (w : World) (R : Value → World → Prop) => vf P f_slices_Delete_table_bucket_shard_entry_table_pair_shard_entry h_slices_Delete_table_bucket_shard_entry_table_pair_shard_entry [(.slice a0a a0n a0c), (.int .i64 a1), (.int .i64 a2)] w R) = c_slices_Delete_table_bucket_shard_entry_table_pair_shard_entry := by kernel_rfl
theorem cl_slices_Delete_table_bucket_shard_entry_table_pair_shard_entry {a0a : Option Addr} {a0n a0c : Nat} {a1 : Int} {a2 : Int} {w : World} {R : Value → World → Prop} (h : c_slices_Delete_table_bucket_shard_entry_table_pair_shard_entry a0a a0n a0c a1 a2 w R) : Cl P f_slices_Delete_table_bucket_shard_entry_table_pair_shard_entry #[(.slice a0a a0n a0c), (.int .i64 a1), (.int .i64 a2)] w R := cl_of mixed (congrFun (congrFun (congrFun (congrFun (congrFun (congrFun (congrFun e_slices_Delete_table_bucket_shard_entry_table_pair_shard_entry a0a) a0n) a0c) a1) a2) w) R) h

def h_slices_Clone_byte_byte : H := (.s (.reg []) (.s (.s (.reg []) (.s (.s (.reg []) .z) .z)) (.s (.reg []) .z)))
def c_slices_Clone_byte_byte (a0a : Option Addr) (a0n a0c : Nat) (w : World) (R : Value → World → Prop) : Prop :=
 
 
 (bif (Option.isNone a0a) then
 
 R (.slice none 0 0) w else
 ∀ (b1 : Nat) (w2 : World), b1 = Array.size (World.heap w) → w2 = World.alloc w (.cells #[] T_uint8) → ∃ ys3 : List Value, RowAt w2 a0a (a0n * 1) ys3 ∧ OneC ys3 ∧ (0 + a0n ≤ 0 → 0 < List.length ys3 → ∃ p, (some (Addr.mk b1 0 none)) = some p ∧ Wr w2 (p.add (0 * 1)) (List.length ys3)) ∧ (0 < 0 + a0n → Builtin.nextslicecap (0 + a0n) 0 * 1 ≤ 2 ^ 48 ∧ ∃ xs, RowAt w2 (some (Addr.mk b1 0 none)) (0 * 1) xs) ∧ ∀ (sa4 : Option Addr) (c5 : Nat) (w6 : World), AppR T_uint8 1 [(.int .u8 (0 : Int))] (some (Addr.mk b1 0 none)) 0 0 a0n ys3 w2 sa4 c5 w6 → 
 R (.slice sa4 (0 + a0n) c5) w6)
theorem e_slices_Clone_byte_byte : (fun (a0a : Option Addr) (a0n a0c : Nat) (w : World) (R : Value → World → Prop) => vf P f_slices_Clone_byte_byte h_slices_Clone_byte_byte [(.slice a0a a0n a0c)] w R) = c_slices_Clone_byte_byte := by kernel_rfl
theorem cl_slices_Clone_byte_byte {a0a : Option Addr} {a0n a0c : Nat} {w : World} {R : Value → World → Prop} (h : c_slices_Clone_byte_byte a0a a0n a0c w R) : Cl P f_slices_Clone_byte_byte #[(.slice a0a a0n a0c)] w R := cl_of mixed (congrFun (congrFun (congrFun (congrFun (congrFun e_slices_Clone_byte_byte a0a) a0n) a0c) w) R) h

def h_slices_Concat_table_bucket_shard_entry_table_bucket_shard_entry : H := (.s (.reg []) (.s (.reg []) (.s (.s (.reg []) (.one (.loop [(3, (.one (.int .i64))), (11, (.one (.int .i64)))] (.s (.reg []) (.s (.s .z .z) (.s (.one (.s (.reg []) (.s (.reg []) (.s (.reg []) (.s (.reg []) .z))))) (.reg []))))))) (.s (.reg []) (.s (.s (.reg []) (.one (.loop [(6, (.one .slice)), (27, (.one (.int .i64)))] (.s (.reg []) (.s (.s .z .z) (.s (.one (.s (.reg []) (.reg []))) (.reg []))))))) (.s (.reg []) .z))))))
def c_slices_Concat_table_bucket_shard_entry_table_bucket_shard_entry (a0a : Option Addr) (a0n a0c : Nat) (w : World) (R : Value → World → Prop) : Prop :=
 
 
 
 ∃ (I1 : List Value → World → Prop) (m2 : List Value → World → Nat), (I1 [(.int .i64 (0 : Int)), (.int .i64 (0 : Int))] w) ∧
 ∀ (vs3 : List Value) (w4 : World), I1 vs3 w4 → ∃ x5 : Int, ∃ x6 : Int, vs3 = [(.int .i64 x5), (.int .i64 x6)] ∧ 
 (bif (decide (x6 < ((a0n : Nat) : Int))) then
 ∃ a7 : Addr, a0a = some a7 ∧ 0 ≤ x6 ∧ x6 < ((a0n : Nat) : Int) ∧ ∃ (x8a : Option Addr) (x8n x8c : Nat), World.cell? w4 (Addr.add a7 (Int.toNat x6 * 1)) = some (.slice x8a x8n x8c) ∧ 
 
 
 (bif (decide ((IntKind.i64.wrap (x5 + ((x8n : Nat) : Int))) < (0 : Int))) then
 False else
 
 I1 [(.int .i64 (IntKind.i64.wrap (x5 + ((x8n : Nat) : Int)))), (.int .i64 (IntKind.i64.wrap (x6 + (1 : Int))))] w4 ∧ m2 [(.int .i64 (IntKind.i64.wrap (x5 + ((x8n : Nat) : Int)))), (.int .i64 (IntKind.i64.wrap (x6 + (1 : Int))))] w4 < m2 vs3 w4) else
 Cl P f_slices_Grow_table_bucket_shard_entry_table_bucket_shard_entry #[(.slice none 0 0), (.int .i64 x5)] w4 (fun (u9 : Value) (w10 : World) => ∃ (x11a : Option Addr) (x11n x11c : Nat), u9 = (.slice x11a x11n x11c) ∧ 
 
 ∃ (I12 : List Value → World → Prop) (m13 : List Value → World → Nat), (I12 [(.slice x11a x11n x11c), (.int .i64 (0 : Int))] w10) ∧
 ∀ (vs14 : List Value) (w15 : World), I12 vs14 w15 → ∃ (x16a : Option Addr) (x16n x16c : Nat), ∃ x17 : Int, vs14 = [(.slice x16a x16n x16c), (.int .i64 x17)] ∧ 
 (bif (decide (x17 < ((a0n : Nat) : Int))) then
 ∃ a18 : Addr, a0a = some a18 ∧ 0 ≤ x17 ∧ x17 < ((a0n : Nat) : Int) ∧ ∃ (x19a : Option Addr) (x19n x19c : Nat), World.cell? w15 (Addr.add a18 (Int.toNat x17 * 1)) = some (.slice x19a x19n x19c) ∧ 
 ∃ ys20 : List Value, RowAt w15 x19a (x19n * 1) ys20 ∧ OneC ys20 ∧ (x16n + x19n ≤ x16c → 0 < List.length ys20 → ∃ p, x16a = some p ∧ Wr w15 (p.add (x16n * 1)) (List.length ys20)) ∧ (x16c < x16n + x19n → Builtin.nextslicecap (x16n + x19n) x16c * 24 ≤ 2 ^ 48 ∧ ∃ xs, RowAt w15 x16a (x16n * 1) xs) ∧ ∀ (sa21 : Option Addr) (c22 : Nat) (w23 : World), AppR T_table_bucket_p_shard_entry 1 [(.slice none 0 0)] x16a x16n x16c x19n ys20 w15 sa21 c22 w23 → 
 
 I12 [(.slice sa21 (x16n + x19n) c22), (.int .i64 (IntKind.i64.wrap (x17 + (1 : Int))))] w23 ∧ m13 [(.slice sa21 (x16n + x19n) c22), (.int .i64 (IntKind.i64.wrap (x17 + (1 : Int))))] w23 < m13 vs14 w15 else
 
 R (.slice x16a x16n x16c) w15)))
theorem e_slices_Concat_table_bucket_shard_entry_table_bucket_shard_entry : (fun (a0a : Option Addr) (a0n a0c : Nat) (w : World) (R : Value → World → Prop) => vf P f_slices_Concat_table_bucket_shard_entry_table_bucket_shard_entry h_slices_Concat_table_bucket_shard_entry_table_bucket_shard_entry [(.slice a0a a0n a0c)] w R) = c_slices_Concat_table_bucket_shard_entry_table_bucket_shard_entry := by kernel_rfl
theorem cl_slices_Concat_table_bucket_shard_entry_table_bucket_shard_entry {a0a : Option Addr} {a0n a0c : Nat} {w : World} {R : Value → World → Prop} (h : c_slices_Concat_table_bucket_shard_entry_table_bucket_shard_entry a0a a0n a0c w R) : Cl P f_slices_Concat_table_bucket_shard_entry_table_bucket_shard_entry #[(.slice a0a a0n a0c)] w R := cl_of mixed (congrFun (congrFun (congrFun (congrFun (congrFun e_slices_Concat_table_bucket_shard_entry_table_bucket_shard_entry a0a) a0n) a0c) w) R) h

def h_slices_Grow_table_bucket_shard_entry_table_bucket_shard_entry : H := (.s (.reg []) (.s (.s (.reg []) (.s (.reg []) .z)) (.s (.s (.reg []) (.s (.reg []) (.s (.reg []) .z))) (.s (.reg []) .z))))
def c_slices_Grow_table_bucket_shard_entry_table_bucket_shard_entry (a0a : Option Addr) (a0n a0c : Nat) (a1 : Int) (w : World) (R : Value → World → Prop) : Prop :=
 
 
 (bif (decide (a1 < (0 : Int))) then
 False else
 
 
 (bif (decide ((IntKind.i64.wrap (a1 - (IntKind.i64.wrap (((a0c : Nat) : Int) - ((a0n : Nat) : Int))))) > (0 : Int))) then
 0 ≤ ((a0c : Nat) : Int) ∧ ((a0c : Nat) : Int) ≤ ((a0c : Nat) : Int) ∧ 0 ≤ (IntKind.i64.wrap (a1 - (IntKind.i64.wrap (((a0c : Nat) : Int) - ((a0n : Nat) : Int))))) ∧ (IntKind.i64.wrap (a1 - (IntKind.i64.wrap (((a0c : Nat) : Int) - ((a0n : Nat) : Int))))) * 24 ≤ 2 ^ 48 ∧ ((((Int.toNat ((a0c : Nat) : Int)) - 0) + (Int.toNat (IntKind.i64.wrap (a1 - (IntKind.i64.wrap (((a0c : Nat) : Int) - ((a0n : Nat) : Int)))))) : Nat) : Int) ≤ IntKind.i64.max ∧ OneC (zc (Int.toNat (IntKind.i64.wrap (a1 - (IntKind.i64.wrap (((a0c : Nat) : Int) - ((a0n : Nat) : Int)))))) [(.slice none 0 0)]) ∧ (((Int.toNat ((a0c : Nat) : Int)) - 0) + (Int.toNat (IntKind.i64.wrap (a1 - (IntKind.i64.wrap (((a0c : Nat) : Int) - ((a0n : Nat) : Int)))))) ≤ (a0c - 0) → 0 < List.length (zc (Int.toNat (IntKind.i64.wrap (a1 - (IntKind.i64.wrap (((a0c : Nat) : Int) - ((a0n : Nat) : Int)))))) [(.slice none 0 0)]) → ∃ p, (offA a0a a0c 0 1) = some p ∧ Wr w (p.add (((Int.toNat ((a0c : Nat) : Int)) - 0) * 1)) (List.length (zc (Int.toNat (IntKind.i64.wrap (a1 - (IntKind.i64.wrap (((a0c : Nat) : Int) - ((a0n : Nat) : Int)))))) [(.slice none 0 0)]))) ∧ ((a0c - 0) < ((Int.toNat ((a0c : Nat) : Int)) - 0) + (Int.toNat (IntKind.i64.wrap (a1 - (IntKind.i64.wrap (((a0c : Nat) : Int) - ((a0n : Nat) : Int)))))) → Builtin.nextslicecap (((Int.toNat ((a0c : Nat) : Int)) - 0) + (Int.toNat (IntKind.i64.wrap (a1 - (IntKind.i64.wrap (((a0c : Nat) : Int) - ((a0n : Nat) : Int))))))) (a0c - 0) * 24 ≤ 2 ^ 48 ∧ ∃ xs, RowAt w (offA a0a a0c 0 1) (((Int.toNat ((a0c : Nat) : Int)) - 0) * 1) xs) ∧ ∀ (sa1 : Option Addr) (c2 : Nat) (w3 : World), AppR T_table_bucket_p_shard_entry 1 [(.slice none 0 0)] (offA a0a a0c 0 1) ((Int.toNat ((a0c : Nat) : Int)) - 0) (a0c - 0) (Int.toNat (IntKind.i64.wrap (a1 - (IntKind.i64.wrap (((a0c : Nat) : Int) - ((a0n : Nat) : Int)))))) (zc (Int.toNat (IntKind.i64.wrap (a1 - (IntKind.i64.wrap (((a0c : Nat) : Int) - ((a0n : Nat) : Int)))))) [(.slice none 0 0)]) w sa1 c2 w3 → 0 ≤ ((a0n : Nat) : Int) ∧ ((a0n : Nat) : Int) ≤ ((c2 : Nat) : Int) ∧ 
 
 R (.slice (offA sa1 c2 0 1) ((Int.toNat ((a0n : Nat) : Int)) - 0) (c2 - 0)) w3 else
 
 R (.slice a0a a0n a0c) w))
theorem e_slices_Grow_table_bucket_shard_entry_table_bucket_shard_entry : (fun (a0a : Option Addr) (a0n a0c : Nat) (a1 : Int) (w : World) (R : Value → World → Prop) => vf P f_slices_Grow_table_bucket_shard_entry_table_bucket_shard_entry h_slices_Grow_table_bucket_shard_entry_table_bucket_shard_entry [(.slice a0a a0n a0c), (.int .i64 a1)] w R) = c_slices_Grow_table_bucket_shard_entry_table_bucket_shard_entry := by kernel_rfl
theorem cl_slices_Grow_table_bucket_shard_entry_table_bucket_shard_entry {a0a : Option Addr} {a0n a0c : Nat} {a1 : Int} {w : World} {R : Value → World → Prop} (h : c_slices_Grow_table_bucket_shard_entry_table_bucket_shard_entry a0a a0n a0c a1 w R) : Cl P f_slices_Grow_table_bucket_shard_entry_table_bucket_shard_entry #[(.slice a0a a0n a0c), (.int .i64 a1)] w R := cl_of mixed (congrFun (congrFun (congrFun (congrFun (congrFun (congrFun e_slices_Grow_table_bucket_shard_entry_table_bucket_shard_entry a0a) a0n) a0c) a1) w) R) h

def h_strings_Compare : H := (.s (.reg []) (.s (.reg []) .z))
def c_strings_Compare (a0 : ByteArray) (a1 : ByteArray) (w : World) (R : Value → World → Prop) : Prop :=
 
 Cl P f_internal_bytealg_CompareString #[(.string a0), (.string a1)] w (fun (u1 : Value) (w2 : World) => ∃ x3 : Int, u1 = (.int .i64 x3) ∧ 
 R (.int .i64 x3) w2)
theorem e_strings_Compare : (fun (a0 : ByteArray) (a1 : ByteArray) (w : World) (R : Value → World → Prop) => vf P f_strings_Compare h_strings_Compare [(.string a0), (.string a1)] w R) = c_strings_Compare := by kernel_rfl
theorem cl_strings_Compare {a0 : ByteArray} {a1 : ByteArray} {w : World} {R : Value → World → Prop} (h : c_strings_Compare a0 a1 w R) : Cl P f_strings_Compare #[(.string a0), (.string a1)] w R := cl_of mixed (congrFun (congrFun (congrFun (congrFun e_strings_Compare a0) a1) w) R) h

def h_internal_bytealg_CompareString : H := (.s (.reg []) (.s (.reg []) .z))
def c_internal_bytealg_CompareString (a0 : ByteArray) (a1 : ByteArray) (w : World) (R : Value → World → Prop) : Prop :=
 
 Ext P f_internal_bytealg_abigen_runtime_cmpstring #[(.string a0), (.string a1)] w (fun (u1 : Value) (w2 : World) => ∃ x3 : Int, u1 = (.int .i64 x3) ∧ 
 R (.int .i64 x3) w2)
theorem e_internal_bytealg_CompareString : (fun (a0 : ByteArray) (a1 : ByteArray) (w : World) (R : Value → World → Prop) => vf P f_internal_bytealg_CompareString h_internal_bytealg_CompareString [(.string a0), (.string a1)] w R) = c_internal_bytealg_CompareString := by kernel_rfl
theorem cl_internal_bytealg_CompareString {a0 : ByteArray} {a1 : ByteArray} {w : World} {R : Value → World → Prop} (h : c_internal_bytealg_CompareString a0 a1 w R) : Cl P f_internal_bytealg_CompareString #[(.string a0), (.string a1)] w R := cl_of mixed (congrFun (congrFun (congrFun (congrFun e_internal_bytealg_CompareString a0) a1) w) R) h

end Go.Bty
