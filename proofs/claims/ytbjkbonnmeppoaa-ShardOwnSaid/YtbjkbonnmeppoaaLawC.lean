/- The conditions of functions of the program: what must hold ahead of a call, and that it is enough. -/
import Derived.Test.YtbjkbonnmeppoaaBtyNum
namespace Go.Bty
open Go
open Go.Proofs.Try renaming prog → P
set_option maxRecDepth 100000
def h_butterylaw11_ShardKeeps : H := (.s (.reg []) (.s (.reg []) (.s (.reg []) (.s (.reg []) (.s (.s (.reg [false, false, false, true, false, false, false, true, false, false, false, true, false, false, false, false, true, false, false]) (.s (.s (.reg [false, false, true, false, false, false]) .z) .z)) (.s (.s (.reg []) (.one (.loop [(12, (.one (.int .i64)))] (.s (.s (.reg []) (.s .z .z)) (.s (.one (.s (.reg []) (.s (.reg []) (.s (.reg []) (.s (.reg []) (.s (.reg [false, false, false, false, false, true, false, false, true, false, false, false]) (.s (.s (.reg []) .z) .z))))))) (.reg [])))))) (.s (.reg []) (.s (.s (.reg []) (.one (.loop [(17, (.one (.int .i64)))] (.s (.s (.reg []) (.s .z .z)) (.s (.one (.s (.reg []) (.s (.reg []) (.s (.s (.reg []) (.one (.loop [(20, (.one .bool)), (21, (.one (.int .i64)))] (.s (.s (.reg []) (.s .z .z)) (.s (.one (.any #[[], [0], [0, 1], [0, 1], [0, 1, 2, 3], [0, 1, 2, 3, 4], [0, 1, 2, 3, 4, 5], [0, 1, 2, 3, 4, 5, 6], [0, 1], [0, 1], [0, 1, 8, 9], [0, 1, 8, 9, 10], [0, 1, 8, 9, 10, 11], [0, 1, 8, 9, 10, 11, 12], [0, 1, 2, 3, 4, 5, 6, 7, 8, 9, 10, 11, 12, 13], [0, 1, 2, 3, 4, 5, 6, 7, 8, 9, 10, 11, 12, 13, 14], [0, 1, 2, 3, 4, 5, 6, 7, 8, 9, 10, 11, 12, 13, 14, 15], [0, 1, 2, 3, 4, 5, 6, 7, 8, 9, 10, 11, 12, 13, 14, 15], [0, 1, 2, 3, 4, 5, 6, 7, 8, 9, 10, 11, 12, 13, 14, 15, 16, 17], [0, 1, 2, 3, 4, 5, 6, 7, 8, 9, 10, 11, 12, 13, 14, 15, 16, 17, 18], [0, 1, 2, 3, 4, 5, 6, 7, 8, 9, 10, 11, 12, 13, 14, 15, 16, 17, 18, 19], [0, 1, 2, 3, 4, 5, 6, 7, 8, 9, 10, 11, 12, 13, 14, 15, 16, 17, 18, 19, 20], [0, 1, 2, 3, 4, 5, 6, 7, 8, 9, 10, 11, 12, 13, 14, 15, 16, 17, 18, 19, 20, 21], [0, 1, 2, 3, 4, 5, 6, 7, 8, 9, 10, 11, 12, 13, 14, 15, 16, 17, 18, 19, 20, 21, 22], [0, 1, 2, 3, 4, 5, 6, 7, 8, 9, 10, 11, 12, 13, 14, 15, 16, 17, 18, 19, 20, 21, 22, 23], [0, 1, 2, 3, 4, 5, 6, 7, 8, 9, 10, 11, 12, 13, 14, 15, 16, 17, 18, 19, 20, 21, 22, 23, 24]] (.rd 0 (.rd 1 (.sp 115 (.rd 2 (.rd 3 (.rd 4 (.rd 5 (.rd 6 (.rd 7 (.rd 8 (.rd 9 (.rd 10 (.rd 11 (.rd 12 (.rd 13 (.rd 14 (.rd 15 (.sp 129 (.rd 16 (.rd 17 (.rd 18 (.rd 19 (.rd 20 (.ef 21 (.rd 22 (.rd 23 (.rd 24 (.ef 25 .fin .no)))) .no)))))))))))))))))))))))))) (.reg [])))))) (.s (.reg []) (.s (.s (.reg []) .z) .z)))))) (.reg [])))))) (.s (.reg []) .z)))))))))
def c_butterylaw11_ShardKeeps (a0 : Int) (a1 : Int) (a2a : Option Addr) (a2n a2c : Nat) (a3 : Int) (w : World) (R : Value → World → Prop) : Prop :=
 
 Cl P f_butterylaw11_awake #[] w (fun (u1 : Value) (w2 : World) => ∃ x3 : Bool, u1 = (.bool x3) ∧ 
 Cl P f_butterylaw11_Few #[(.slice a2a a2n a2c)] w2 (fun (u4 : Value) (w5 : World) => ∃ x6 : Bool, u4 = (.bool x6) ∧ 
 Cl P f_shard_New #[(.int .u64 a0), (.int .i64 (IntKind.i64.wrap ((2048 : Int) * ((a2n : Nat) : Int)))), (.int .i64 a1)] w5 (fun (u7 : Value) (w8 : World) => ∃ x9 : Option Addr, u7 = (.pointer x9) ∧ 
 (bif (!x3) then 
 (bif x3 then 
 R (.bool (!(Option.isNone x9))) w8 else
 
 R (.bool false) w8) else
 (bif (!x6) then 
 (bif x3 then 
 R (.bool (!(Option.isNone x9))) w8 else
 
 R (.bool false) w8) else
 (bif (Option.isNone x9) then 
 (bif x3 then 
 R (.bool (!(Option.isNone x9))) w8 else
 
 R (.bool false) w8) else
 (bif (decide (((a2n : Nat) : Int) > (60 : Int))) then 
 (bif x3 then 
 R (.bool (!(Option.isNone x9))) w8 else
 
 R (.bool false) w8) else
 
 (bif (decide (a3 < (1 : Int))) then
 (bif x3 then 
 R (.bool (!(Option.isNone x9))) w8 else
 
 R (.bool false) w8) else
 
 ∃ (I10 : List Value → World → Prop) (m11 : List Value → World → Nat), (I10 [(.int .i64 (0 : Int))] w8) ∧
 ∀ (vs12 : List Value) (w13 : World), I10 vs12 w13 → ∃ x14 : Int, vs12 = [(.int .i64 x14)] ∧ 
 (bif (decide (x14 < ((a2n : Nat) : Int))) then
 ∃ a15 : Addr, a2a = some a15 ∧ 0 ≤ x14 ∧ x14 < ((a2n : Nat) : Int) ∧ ∃ x16 : ByteArray, ∃ (x17a : Option Addr) (x17n x17c : Nat), ∃ x18 : Int, ∃ x19 : Int, ∃ x20 : Int, ∃ x21 : Int, ∃ x22 : Int, ∃ x23 : Bool, ∃ x24 : Bool, ∃ x25 : Bool, SpanAt w13 (Addr.add (Addr.add a15 (Int.toNat x14 * 15)) 1) [(.string x16), (.slice x17a x17n x17c), (.int .u32 x18), (.int .i64 x19), (.int .u64 x20), (.int .i64 x21), (.int .u64 x22), (.bool x23), (.bool x24), (.bool x25)] ∧ ∀ (b26 : Nat) (w27 : World), b26 = Array.size (World.heap w13) → w27 = World.alloc w13 (.cells #[(.string (⟨#[]⟩ : ByteArray)), (.slice none 0 0), (.int .u32 (0 : Int)), (.int .i64 (0 : Int)), (.int .u64 (0 : Int)), (.int .i64 (0 : Int)), (.int .u64 (0 : Int)), (.bool false), (.bool false), (.bool false)] T_api_Item) → Wr w27 (Addr.mk b26 0 none) 10 ∧ ∀ w28 : World, w28 = setSpan w27 (Addr.mk b26 0 none) [(.string x16), (.slice x17a x17n x17c), (.int .u32 x18), (.int .i64 x19), (.int .u64 x20), (.int .i64 x21), (.int .u64 x22), (.bool x23), (.bool x24), (.bool x25)] → 
 ((∃ u, World.cell? w28 (Addr.add (Addr.mk b26 0 none) 3) = some u) ∧ World.frozen? w28 (Addr.add (Addr.mk b26 0 none) 3) = false) ∧ ∀ w29 : World, w29 = World.setCell w28 (Addr.add (Addr.mk b26 0 none) 3) (.int .i64 (0 : Int)) → 
 ∃ x30 : ByteArray, ∃ (x31a : Option Addr) (x31n x31c : Nat), ∃ x32 : Int, ∃ x33 : Int, ∃ x34 : Int, ∃ x35 : Int, ∃ x36 : Int, ∃ x37 : Bool, ∃ x38 : Bool, ∃ x39 : Bool, SpanAt w29 (Addr.mk b26 0 none) [(.string x30), (.slice x31a x31n x31c), (.int .u32 x32), (.int .i64 x33), (.int .u64 x34), (.int .i64 x35), (.int .u64 x36), (.bool x37), (.bool x38), (.bool x39)] ∧ Cl P f_shard_Shard_Store #[(.pointer x9), (.agg #[(.string x30), (.slice x31a x31n x31c), (.int .u32 x32), (.int .i64 x33), (.int .u64 x34), (.int .i64 x35), (.int .u64 x36), (.bool x37), (.bool x38), (.bool x39)]), (.agg #[(.int .i64 a3), (.int .u64 (0 : Int)), (.int .i64 (0 : Int)), (.int .u64 (0 : Int))])] w29 (fun (u40 : Value) (w41 : World) => ∃ x42 : Int, u40 = (.int .i64 x42) ∧ 
 ∃ x43 : ByteArray, ∃ (x44a : Option Addr) (x44n x44c : Nat), ∃ x45 : Int, ∃ x46 : Int, ∃ x47 : Int, ∃ x48 : Int, ∃ x49 : Int, ∃ x50 : Bool, ∃ x51 : Bool, ∃ x52 : Bool, SpanAt w41 (Addr.mk b26 0 none) [(.string x43), (.slice x44a x44n x44c), (.int .u32 x45), (.int .i64 x46), (.int .u64 x47), (.int .i64 x48), (.int .u64 x49), (.bool x50), (.bool x51), (.bool x52)] ∧ Cl P f_butteryref10_Size #[(.agg #[(.string x43), (.slice x44a x44n x44c), (.int .u32 x45), (.int .i64 x46), (.int .u64 x47), (.int .i64 x48), (.int .u64 x49), (.bool x50), (.bool x51), (.bool x52)])] w41 (fun (u53 : Value) (w54 : World) => ∃ x55 : Int, u53 = (.int .i64 x55) ∧ 
 (bif (!((decide (x55 > (2048 : Int))) == (x42 == (4 : Int)))) then 
 
 R (.bool false) w54 else
 (bif (!(decide (x55 > (2048 : Int)))) then 
 (bif (x42 != (0 : Int)) then
 
 R (.bool false) w54 else
 
 I10 [(.int .i64 (IntKind.i64.wrap (x14 + (1 : Int))))] w54 ∧ m11 [(.int .i64 (IntKind.i64.wrap (x14 + (1 : Int))))] w54 < m11 vs12 w13) else
 
 
 I10 [(.int .i64 (IntKind.i64.wrap (x14 + (1 : Int))))] w54 ∧ m11 [(.int .i64 (IntKind.i64.wrap (x14 + (1 : Int))))] w54 < m11 vs12 w13)))) else
 Cl P f_shard_Shard_Drops #[(.pointer x9)] w13 (fun (u56 : Value) (w57 : World) => ∃ (x58a : Option Addr) (x58n x58c : Nat), u56 = (.slice x58a x58n x58c) ∧ 
 
 ∃ (I59 : List Value → World → Prop) (m60 : List Value → World → Nat), (I59 [(.int .i64 (0 : Int))] w57) ∧
 ∀ (vs61 : List Value) (w62 : World), I59 vs61 w62 → ∃ x63 : Int, vs61 = [(.int .i64 x63)] ∧ 
 (bif (decide (x63 < ((a2n : Nat) : Int))) then
 ∃ a64 : Addr, a2a = some a64 ∧ 0 ≤ x63 ∧ x63 < ((a2n : Nat) : Int) ∧ ∃ x65 : ByteArray, World.cell? w62 (Addr.add (Addr.add (Addr.add a64 (Int.toNat x63 * 15)) 1) 0) = some (.string x65) ∧ Cl P f_shard_Shard_Look #[(.pointer x9), (.string x65), (.agg #[(.int .i64 a3), (.int .u64 (0 : Int)), (.int .i64 (0 : Int)), (.int .u64 (0 : Int))])] w62 (fun (u66 : Value) (w67 : World) => ∃ x68 : ByteArray, ∃ (x69a : Option Addr) (x69n x69c : Nat), ∃ x70 : Int, ∃ x71 : Int, ∃ x72 : Int, ∃ x73 : Int, ∃ x74 : Int, ∃ x75 : Bool, ∃ x76 : Bool, ∃ x77 : Bool, ∃ x78 : Bool, u66 = (.tuple #[(.agg #[(.string x68), (.slice x69a x69n x69c), (.int .u32 x70), (.int .i64 x71), (.int .u64 x72), (.int .i64 x73), (.int .u64 x74), (.bool x75), (.bool x76), (.bool x77)]), (.bool x78)]) ∧ ∀ (b79 : Nat) (w80 : World), b79 = Array.size (World.heap w67) → w80 = World.alloc w67 (.cells #[(.string (⟨#[]⟩ : ByteArray)), (.slice none 0 0), (.int .u32 (0 : Int)), (.int .i64 (0 : Int)), (.int .u64 (0 : Int)), (.int .i64 (0 : Int)), (.int .u64 (0 : Int)), (.bool false), (.bool false), (.bool false)] T_api_Item) → Wr w80 (Addr.mk b79 0 none) 10 ∧ ∀ w81 : World, w81 = setSpan w80 (Addr.mk b79 0 none) [(.string x68), (.slice x69a x69n x69c), (.int .u32 x70), (.int .i64 x71), (.int .u64 x72), (.int .i64 x73), (.int .u64 x74), (.bool x75), (.bool x76), (.bool x77)] → 
 
 
 ∃ (I82 : List Value → World → Prop) (m83 : List Value → World → Nat), (I82 [(.bool false), (.int .i64 (0 : Int))] w81) ∧
 ∀ (vs84 : List Value) (w85 : World), I82 vs84 w85 → ∃ x86 : Bool, ∃ x87 : Int, vs84 = [(.bool x86), (.int .i64 x87)] ∧ 
 (bif (decide (x87 < ((a2n : Nat) : Int))) then
 ∀ w88 : World, w88 = World.drew w85 → (bif x86 then 
 
 I82 [(.bool true), (.int .i64 (IntKind.i64.wrap (x87 + (1 : Int))))] w88 ∧ m83 [(.bool true), (.int .i64 (IntKind.i64.wrap (x87 + (1 : Int))))] w88 < m83 vs84 w85 else
 ∃ a89 : Addr, a2a = some a89 ∧ 0 ≤ x87 ∧ x87 < ((a2n : Nat) : Int) ∧ ∃ x90 : ByteArray, World.cell? w88 (Addr.add (Addr.add (Addr.add a89 (Int.toNat x87 * 15)) 1) 0) = some (.string x90) ∧ ∃ a91 : Addr, a2a = some a91 ∧ 0 ≤ x63 ∧ x63 < ((a2n : Nat) : Int) ∧ ∃ x92 : ByteArray, World.cell? w88 (Addr.add (Addr.add (Addr.add a91 (Int.toNat x63 * 15)) 1) 0) = some (.string x92) ∧ (bif (seq x90 x92) then ∃ a93 : Addr, a2a = some a93 ∧ 0 ≤ x87 ∧ x87 < ((a2n : Nat) : Int) ∧ ∃ x94 : ByteArray, ∃ (x95a : Option Addr) (x95n x95c : Nat), ∃ x96 : Int, ∃ x97 : Int, ∃ x98 : Int, ∃ x99 : Int, ∃ x100 : Int, ∃ x101 : Bool, ∃ x102 : Bool, ∃ x103 : Bool, SpanAt w88 (Addr.add (Addr.add a93 (Int.toNat x87 * 15)) 1) [(.string x94), (.slice x95a x95n x95c), (.int .u32 x96), (.int .i64 x97), (.int .u64 x98), (.int .i64 x99), (.int .u64 x100), (.bool x101), (.bool x102), (.bool x103)] ∧ Cl P f_butteryref10_Size #[(.agg #[(.string x94), (.slice x95a x95n x95c), (.int .u32 x96), (.int .i64 x97), (.int .u64 x98), (.int .i64 x99), (.int .u64 x100), (.bool x101), (.bool x102), (.bool x103)])] w88 (fun (u104 : Value) (w105 : World) => ∃ x106 : Int, u104 = (.int .i64 x106) ∧ 
 
 I82 [(.bool (decide (x106 ≤ (2048 : Int)))), (.int .i64 (IntKind.i64.wrap (x87 + (1 : Int))))] w105 ∧ m83 [(.bool (decide (x106 ≤ (2048 : Int)))), (.int .i64 (IntKind.i64.wrap (x87 + (1 : Int))))] w105 < m83 vs84 w85) else
 
 
 I82 [(.bool false), (.int .i64 (IntKind.i64.wrap (x87 + (1 : Int))))] w88 ∧ m83 [(.bool false), (.int .i64 (IntKind.i64.wrap (x87 + (1 : Int))))] w88 < m83 vs84 w85)) else
 
 (bif (!(x78 == x86)) then
 
 R (.bool false) w85 else
 
 I59 [(.int .i64 (IntKind.i64.wrap (x63 + (1 : Int))))] w85 ∧ m60 [(.int .i64 (IntKind.i64.wrap (x63 + (1 : Int))))] w85 < m60 vs61 w62))) else
 
 R (.bool (((x58n : Nat) : Int) == (0 : Int))) w62)))))))))))
theorem e_butterylaw11_ShardKeeps : (fun (a0 : Int) (a1 : Int) (a2a : Option Addr) (a2n a2c : Nat) (a3 : Int) (w : World) (R : Value → World → Prop) => vf P f_butterylaw11_ShardKeeps h_butterylaw11_ShardKeeps [(.int .u64 a0), (.int .i64 a1), (.slice a2a a2n a2c), (.int .i64 a3)] w R) = c_butterylaw11_ShardKeeps := by kernel_rfl
theorem cl_butterylaw11_ShardKeeps {a0 : Int} {a1 : Int} {a2a : Option Addr} {a2n a2c : Nat} {a3 : Int} {w : World} {R : Value → World → Prop} (h : c_butterylaw11_ShardKeeps a0 a1 a2a a2n a2c a3 w R) : Cl P f_butterylaw11_ShardKeeps #[(.int .u64 a0), (.int .i64 a1), (.slice a2a a2n a2c), (.int .i64 a3)] w R := cl_of mixed (congrFun (congrFun (congrFun (congrFun (congrFun (congrFun (congrFun (congrFun e_butterylaw11_ShardKeeps a0) a1) a2a) a2n) a2c) a3) w) R) h

def h_butterylaw11_ShardBudget : H := (.s (.reg []) (.s (.reg []) (.s (.reg []) (.s (.reg []) (.s (.s (.reg [false, false, false, true, false, false, false, true, false, false, false, true, false, false]) (.s (.s (.reg [false, false, true, false, false, false]) .z) .z)) (.s (.s (.reg []) (.one (.loop [(12, (.one (.int .i64)))] (.s (.s (.reg []) (.s .z .z)) (.s (.one (.s (.reg []) (.s (.reg []) (.cut [] (.s (.reg []) (.s (.reg []) .z)) (.s (.s (.reg []) (.s .z .z)) (.s (.reg []) (.s (.reg []) (.s (.reg []) (.s (.s (.reg []) (.one (.loop [(16, (.one .bool)), (17, (.one (.int .i64)))] (.s (.s (.reg []) (.s .z .z)) (.s (.one (.any #[[], [0], [0, 1], [0, 1], [0, 1, 2, 3], [0, 1, 2, 3, 4], [0, 1], [0, 1, 6], [0, 1, 6, 7], [0, 1, 2, 3, 4, 5, 6, 7, 8], [0, 1, 2, 3, 4, 5, 6, 7, 8, 9], [0, 1, 2, 3, 4, 5, 6, 7, 8, 9, 10]] (.rd 0 (.rd 1 (.sp 88 (.rd 2 (.rd 3 (.rd 4 (.rd 5 (.rd 6 (.rd 7 (.rd 8 (.rd 9 (.rd 10 (.ef 11 .fin .no))))))))))))))) (.reg [])))))) (.s (.reg []) (.s (.reg []) (.s (.s (.reg []) (.one (.loop [(19, (.one .bool)), (20, (.one (.int .i64)))] (.s (.s (.reg []) (.s .z .z)) (.s (.one (.s (.any #[[], [], [0, 1], [0, 1, 2], [], [4], [0, 1, 2, 3, 4, 5], [0, 1, 2, 3, 4, 5, 6]] (.rd 0 (.rd 1 (.rd 2 (.rd 3 (.rd 4 (.rd 5 (.ef 6 (.rd 7 .fin) .no)))))))) (.reg [false, false, true, false, false]))) (.reg [])))))) (.cut [] (.s (.reg [false, false, false, false, false, true, false, false, false, false, true, false, false, true, false, false, false]) (.s (.s (.reg []) .z) .z)) (.s (.reg [false, false, false, true, false, false, true, false, false, false, false, false]) (.s (.s (.reg []) (.s (.s (.reg []) (.one (.loop [(22, (.one (.int .i64))) , (23, (.one (.int .i64)))] (.s (.s (.reg []) (.s .z .z)) (.s (.one (.s (.any #[[] , [] , [0, 1] , [0, 1, 2] , [] , [4] , [4, 5] , [0, 1, 2, 3, 4, 5, 6]] (.rd 0 (.rd 1 (.rd 2 (.rd 3 (.rd 4 (.rd 5 (.rd 6 (.rd 7 .fin))))))))) (.s (.reg []) .z))) (.reg [])))))) (.s (.reg []) (.s (.s (.reg []) .z) .z)))) .z))))))))))))))) (.reg [])))))) (.s (.reg []) .z)))))))
def c_butterylaw11_ShardBudget (a0 : Int) (a1 : Int) (a2 : Int) (a3a : Option Addr) (a3n a3c : Nat) (w : World) (R : Value → World → Prop) : Prop :=
 
 Cl P f_butterylaw11_awake #[] w (fun (u1 : Value) (w2 : World) => ∃ x3 : Bool, u1 = (.bool x3) ∧ 
 Cl P f_butterylaw11_Few #[(.slice a3a a3n a3c)] w2 (fun (u4 : Value) (w5 : World) => ∃ x6 : Bool, u4 = (.bool x6) ∧ 
 Cl P f_shard_New #[(.int .u64 a0), (.int .i64 a1), (.int .i64 a2)] w5 (fun (u7 : Value) (w8 : World) => ∃ x9 : Option Addr, u7 = (.pointer x9) ∧ 
 (bif (!x3) then 
 (bif x3 then 
 R (.bool (!(Option.isNone x9))) w8 else
 
 R (.bool false) w8) else
 (bif (!x6) then 
 (bif x3 then 
 R (.bool (!(Option.isNone x9))) w8 else
 
 R (.bool false) w8) else
 (bif (Option.isNone x9) then 
 (bif x3 then 
 R (.bool (!(Option.isNone x9))) w8 else
 
 R (.bool false) w8) else
 
 (bif (decide (a1 < (0 : Int))) then
 (bif x3 then 
 R (.bool (!(Option.isNone x9))) w8 else
 
 R (.bool false) w8) else
 
 ∃ (I10 : List Value → World → Prop) (m11 : List Value → World → Nat), (I10 [(.int .i64 (0 : Int))] w8) ∧
 ∀ (vs12 : List Value) (w13 : World), I10 vs12 w13 → ∃ x14 : Int, vs12 = [(.int .i64 x14)] ∧ 
 (bif (decide (x14 < ((a3n : Nat) : Int))) then
 ∃ a15 : Addr, a3a = some a15 ∧ 0 ≤ x14 ∧ x14 < ((a3n : Nat) : Int) ∧ ∃ x16 : Int, ∃ x17 : ByteArray, ∃ (x18a : Option Addr) (x18n x18c : Nat), ∃ x19 : Int, ∃ x20 : Int, ∃ x21 : Int, ∃ x22 : Int, ∃ x23 : Int, ∃ x24 : Bool, ∃ x25 : Bool, ∃ x26 : Bool, ∃ x27 : Int, ∃ x28 : Int, ∃ x29 : Int, ∃ x30 : Int, SpanAt w13 (Addr.add a15 (Int.toNat x14 * 15)) [(.int .i64 x16), (.string x17), (.slice x18a x18n x18c), (.int .u32 x19), (.int .i64 x20), (.int .u64 x21), (.int .i64 x22), (.int .u64 x23), (.bool x24), (.bool x25), (.bool x26), (.int .i64 x27), (.int .u64 x28), (.int .i64 x29), (.int .u64 x30)] ∧ ∀ (b31 : Nat) (w32 : World), b31 = Array.size (World.heap w13) → w32 = World.alloc w13 (.cells #[(.int .i64 (0 : Int)), (.string (⟨#[]⟩ : ByteArray)), (.slice none 0 0), (.int .u32 (0 : Int)), (.int .i64 (0 : Int)), (.int .u64 (0 : Int)), (.int .i64 (0 : Int)), (.int .u64 (0 : Int)), (.bool false), (.bool false), (.bool false), (.int .i64 (0 : Int)), (.int .u64 (0 : Int)), (.int .i64 (0 : Int)), (.int .u64 (0 : Int))] T_butterylaw11_Op) → Wr w32 (Addr.mk b31 0 none) 15 ∧ ∀ w33 : World, w33 = setSpan w32 (Addr.mk b31 0 none) [(.int .i64 x16), (.string x17), (.slice x18a x18n x18c), (.int .u32 x19), (.int .i64 x20), (.int .u64 x21), (.int .i64 x22), (.int .u64 x23), (.bool x24), (.bool x25), (.bool x26), (.int .i64 x27), (.int .u64 x28), (.int .i64 x29), (.int .u64 x30)] → 
 Cl P f_shard_Shard_Drops #[(.pointer x9)] w33 (fun (u34 : Value) (w35 : World) => ∃ (x36a : Option Addr) (x36n x36c : Nat), u34 = (.slice x36a x36n x36c) ∧ 
 ∃ I37 : List Value → World → Prop, (∃ x40 : Int, World.cell? w35 (Addr.add (Addr.mk b31 0 none) 0) = some (.int .i64 x40) ∧ 
 (bif (x40 == (2 : Int)) then
 ∃ x41 : ByteArray, World.cell? w35 (Addr.add (Addr.add (Addr.mk b31 0 none) 1) 0) = some (.string x41) ∧ Cl P f_shard_Shard_Use #[(.pointer x9), (.string x41)] w35 (fun (u42 : Value) (w43 : World) => u42 = (.tuple #[]) ∧ 
 I37 [] w43) else
 I37 [] w35)) ∧
 ∀ (vs38 : List Value) (w39 : World), I37 vs38 w39 → vs38 = [] → ∃ x44 : Int, World.cell? w39 (Addr.add (Addr.mk b31 0 none) 0) = some (.int .i64 x44) ∧ 
 (bif (x44 != (0 : Int)) then
 
 I10 [(.int .i64 (IntKind.i64.wrap (x14 + (1 : Int))))] w39 ∧ m11 [(.int .i64 (IntKind.i64.wrap (x14 + (1 : Int))))] w39 < m11 vs12 w13 else
 ∃ x45 : ByteArray, ∃ (x46a : Option Addr) (x46n x46c : Nat), ∃ x47 : Int, ∃ x48 : Int, ∃ x49 : Int, ∃ x50 : Int, ∃ x51 : Int, ∃ x52 : Bool, ∃ x53 : Bool, ∃ x54 : Bool, SpanAt w39 (Addr.add (Addr.mk b31 0 none) 1) [(.string x45), (.slice x46a x46n x46c), (.int .u32 x47), (.int .i64 x48), (.int .u64 x49), (.int .i64 x50), (.int .u64 x51), (.bool x52), (.bool x53), (.bool x54)] ∧ ∃ x55 : Int, ∃ x56 : Int, ∃ x57 : Int, ∃ x58 : Int, SpanAt w39 (Addr.add (Addr.mk b31 0 none) 11) [(.int .i64 x55), (.int .u64 x56), (.int .i64 x57), (.int .u64 x58)] ∧ Cl P f_shard_Shard_Store #[(.pointer x9), (.agg #[(.string x45), (.slice x46a x46n x46c), (.int .u32 x47), (.int .i64 x48), (.int .u64 x49), (.int .i64 x50), (.int .u64 x51), (.bool x52), (.bool x53), (.bool x54)]), (.agg #[(.int .i64 x55), (.int .u64 x56), (.int .i64 x57), (.int .u64 x58)])] w39 (fun (u59 : Value) (w60 : World) => ∃ x61 : Int, u59 = (.int .i64 x61) ∧ 
 Cl P f_shard_Shard_Drops #[(.pointer x9)] w60 (fun (u62 : Value) (w63 : World) => ∃ (x64a : Option Addr) (x64n x64c : Nat), u62 = (.slice x64a x64n x64c) ∧ 
 
 
 ∃ (I65 : List Value → World → Prop) (m66 : List Value → World → Nat), (I65 [(.bool false), (.int .i64 (0 : Int))] w63) ∧
 ∀ (vs67 : List Value) (w68 : World), I65 vs67 w68 → ∃ x69 : Bool, ∃ x70 : Int, vs67 = [(.bool x69), (.int .i64 x70)] ∧ 
 (bif (decide (x70 < ((x64n : Nat) : Int))) then
 ∀ w71 : World, w71 = World.drew w68 → (bif x69 then 
 
 I65 [(.bool true), (.int .i64 (IntKind.i64.wrap (x70 + (1 : Int))))] w71 ∧ m66 [(.bool true), (.int .i64 (IntKind.i64.wrap (x70 + (1 : Int))))] w71 < m66 vs67 w68 else
 ∃ a72 : Addr, x64a = some a72 ∧ 0 ≤ x70 ∧ x70 < ((x64n : Nat) : Int) ∧ ∃ x73 : ByteArray, World.cell? w71 (Addr.add a72 (Int.toNat x70 * 1)) = some (.string x73) ∧ ∃ x74 : ByteArray, World.cell? w71 (Addr.add (Addr.add (Addr.mk b31 0 none) 1) 0) = some (.string x74) ∧ 
 
 I65 [(.bool (seq x73 x74)), (.int .i64 (IntKind.i64.wrap (x70 + (1 : Int))))] w71 ∧ m66 [(.bool (seq x73 x74)), (.int .i64 (IntKind.i64.wrap (x70 + (1 : Int))))] w71 < m66 vs67 w68) else
 Cl P f_butterylaw11_all #[(.pointer x9), (.int .i64 (1000 : Int))] w68 (fun (u75 : Value) (w76 : World) => ∃ (x77a : Option Addr) (x77n x77c : Nat), u75 = (.slice x77a x77n x77c) ∧ 
 
 
 ∃ (I78 : List Value → World → Prop) (m79 : List Value → World → Nat), (I78 [(.bool false), (.int .i64 (0 : Int))] w76) ∧
 ∀ (vs80 : List Value) (w81 : World), I78 vs80 w81 → ∃ x82 : Bool, ∃ x83 : Int, vs80 = [(.bool x82), (.int .i64 x83)] ∧ 
 (bif (decide (x83 < ((x77n : Nat) : Int))) then
 ∀ w84 : World, w84 = World.drew w81 → ∃ a85 : Addr, x77a = some a85 ∧ 0 ≤ x83 ∧ x83 < ((x77n : Nat) : Int) ∧ ∃ x86 : ByteArray, ∃ (x87a : Option Addr) (x87n x87c : Nat), ∃ x88 : Int, ∃ x89 : Int, ∃ x90 : Int, ∃ x91 : Int, ∃ x92 : Int, ∃ x93 : Bool, ∃ x94 : Bool, ∃ x95 : Bool, SpanAt w84 (Addr.add a85 (Int.toNat x83 * 10)) [(.string x86), (.slice x87a x87n x87c), (.int .u32 x88), (.int .i64 x89), (.int .u64 x90), (.int .i64 x91), (.int .u64 x92), (.bool x93), (.bool x94), (.bool x95)] ∧ ∃ x96 : ByteArray, ∃ (x97a : Option Addr) (x97n x97c : Nat), ∃ x98 : Int, ∃ x99 : Int, ∃ x100 : Int, ∃ x101 : Int, ∃ x102 : Int, ∃ x103 : Bool, ∃ x104 : Bool, ∃ x105 : Bool, SpanAt w84 (Addr.add (Addr.mk b31 0 none) 1) [(.string x96), (.slice x97a x97n x97c), (.int .u32 x98), (.int .i64 x99), (.int .u64 x100), (.int .i64 x101), (.int .u64 x102), (.bool x103), (.bool x104), (.bool x105)] ∧ Cl P f_butteryref11_Same #[(.agg #[(.string x86), (.slice x87a x87n x87c), (.int .u32 x88), (.int .i64 x89), (.int .u64 x90), (.int .i64 x91), (.int .u64 x92), (.bool x93), (.bool x94), (.bool x95)]), (.agg #[(.string x96), (.slice x97a x97n x97c), (.int .u32 x98), (.int .i64 x99), (.int .u64 x100), (.int .i64 x101), (.int .u64 x102), (.bool x103), (.bool x104), (.bool x105)])] w84 (fun (u106 : Value) (w107 : World) => ∃ x108 : Bool, u106 = (.bool x108) ∧ 
 (bif x82 then 
 
 I78 [(.bool true), (.int .i64 (IntKind.i64.wrap (x83 + (1 : Int))))] w107 ∧ m79 [(.bool true), (.int .i64 (IntKind.i64.wrap (x83 + (1 : Int))))] w107 < m79 vs80 w81 else
 
 
 I78 [(.bool x108), (.int .i64 (IntKind.i64.wrap (x83 + (1 : Int))))] w107 ∧ m79 [(.bool x108), (.int .i64 (IntKind.i64.wrap (x83 + (1 : Int))))] w107 < m79 vs80 w81)) else
 ∃ I109 : List Value → World → Prop, (Cl P f_shard_Shard_Used #[(.pointer x9)] w81 (fun (u112 : Value) (w113 : World) => ∃ x114 : Int, u112 = (.int .i64 x114) ∧ (bif (decide (x114 > a1)) then 
 
 R (.bool false) w113 else
 Cl P f_shard_Shard_Used #[(.pointer x9)] w113 (fun (u115 : Value) (w116 : World) => ∃ x117 : Int, u115 = (.int .i64 x117) ∧ (bif (decide (x117 < (0 : Int))) then 
 
 R (.bool false) w116 else
 (bif (x61 == (0 : Int)) then 
 (bif (!x82) then
 
 R (.bool false) w116 else
 I109 [] w116) else
 
 I109 [] w116)))))) ∧
 ∀ (vs110 : List Value) (w111 : World), I109 vs110 w111 → vs110 = [] → (bif (x61 == (0 : Int)) then (bif x69 then ∃ x118 : ByteArray, ∃ (x119a : Option Addr) (x119n x119c : Nat), ∃ x120 : Int, ∃ x121 : Int, ∃ x122 : Int, ∃ x123 : Int, ∃ x124 : Int, ∃ x125 : Bool, ∃ x126 : Bool, ∃ x127 : Bool, SpanAt w111 (Addr.add (Addr.mk b31 0 none) 1) [(.string x118), (.slice x119a x119n x119c), (.int .u32 x120), (.int .i64 x121), (.int .u64 x122), (.int .i64 x123), (.int .u64 x124), (.bool x125), (.bool x126), (.bool x127)] ∧ ∃ x128 : Int, ∃ x129 : Int, ∃ x130 : Int, ∃ x131 : Int, SpanAt w111 (Addr.add (Addr.mk b31 0 none) 11) [(.int .i64 x128), (.int .u64 x129), (.int .i64 x130), (.int .u64 x131)] ∧ Cl P f_item_Live #[(.agg #[(.string x118), (.slice x119a x119n x119c), (.int .u32 x120), (.int .i64 x121), (.int .u64 x122), (.int .i64 x123), (.int .u64 x124), (.bool x125), (.bool x126), (.bool x127)]), (.agg #[(.int .i64 x128), (.int .u64 x129), (.int .i64 x130), (.int .u64 x131)])] w111 (fun (u132 : Value) (w133 : World) => ∃ x134 : Bool, u132 = (.bool x134) ∧ 
 (bif x134 then
 
 
 ∃ (I135 : List Value → World → Prop) (m136 : List Value → World → Nat), (I135 [(.int .i64 (0 : Int)), (.int .i64 (0 : Int))] w133) ∧
 ∀ (vs137 : List Value) (w138 : World), I135 vs137 w138 → ∃ x139 : Int, ∃ x140 : Int, vs137 = [(.int .i64 x139), (.int .i64 x140)] ∧ 
 (bif (decide (x140 < ((x64n : Nat) : Int))) then
 ∀ w141 : World, w141 = World.drew w138 → ∃ a142 : Addr, x64a = some a142 ∧ 0 ≤ x140 ∧ x140 < ((x64n : Nat) : Int) ∧ ∃ x143 : ByteArray, World.cell? w141 (Addr.add a142 (Int.toNat x140 * 1)) = some (.string x143) ∧ ∃ x144 : ByteArray, World.cell? w141 (Addr.add (Addr.add (Addr.mk b31 0 none) 1) 0) = some (.string x144) ∧ 
 (bif (seq x143 x144) then
 
 
 I135 [(.int .i64 (IntKind.i64.wrap (x139 + (1 : Int)))), (.int .i64 (IntKind.i64.wrap (x140 + (1 : Int))))] w141 ∧ m136 [(.int .i64 (IntKind.i64.wrap (x139 + (1 : Int)))), (.int .i64 (IntKind.i64.wrap (x140 + (1 : Int))))] w141 < m136 vs137 w138 else
 
 I135 [(.int .i64 x139), (.int .i64 (IntKind.i64.wrap (x140 + (1 : Int))))] w141 ∧ m136 [(.int .i64 x139), (.int .i64 (IntKind.i64.wrap (x140 + (1 : Int))))] w141 < m136 vs137 w138) else
 
 (bif (decide (x139 > (1 : Int))) then
 
 R (.bool false) w138 else
 
 I10 [(.int .i64 (IntKind.i64.wrap (x14 + (1 : Int))))] w138 ∧ m11 [(.int .i64 (IntKind.i64.wrap (x14 + (1 : Int))))] w138 < m11 vs12 w13)) else
 
 I10 [(.int .i64 (IntKind.i64.wrap (x14 + (1 : Int))))] w133 ∧ m11 [(.int .i64 (IntKind.i64.wrap (x14 + (1 : Int))))] w133 < m11 vs12 w13)) else
 
 
 I10 [(.int .i64 (IntKind.i64.wrap (x14 + (1 : Int))))] w111 ∧ m11 [(.int .i64 (IntKind.i64.wrap (x14 + (1 : Int))))] w111 < m11 vs12 w13) else
 
 
 I10 [(.int .i64 (IntKind.i64.wrap (x14 + (1 : Int))))] w111 ∧ m11 [(.int .i64 (IntKind.i64.wrap (x14 + (1 : Int))))] w111 < m11 vs12 w13)))))))) else
 
 R (.bool true) w13))))))))
theorem e_butterylaw11_ShardBudget : (fun (a0 : Int) (a1 : Int) (a2 : Int) (a3a : Option Addr) (a3n a3c : Nat) (w : World) (R : Value → World → Prop) => vf P f_butterylaw11_ShardBudget h_butterylaw11_ShardBudget [(.int .u64 a0), (.int .i64 a1), (.int .i64 a2), (.slice a3a a3n a3c)] w R) = c_butterylaw11_ShardBudget := by kernel_rfl
theorem cl_butterylaw11_ShardBudget {a0 : Int} {a1 : Int} {a2 : Int} {a3a : Option Addr} {a3n a3c : Nat} {w : World} {R : Value → World → Prop} (h : c_butterylaw11_ShardBudget a0 a1 a2 a3a a3n a3c w R) : Cl P f_butterylaw11_ShardBudget #[(.int .u64 a0), (.int .i64 a1), (.int .i64 a2), (.slice a3a a3n a3c)] w R := cl_of mixed (congrFun (congrFun (congrFun (congrFun (congrFun (congrFun (congrFun (congrFun e_butterylaw11_ShardBudget a0) a1) a2) a3a) a3n) a3c) w) R) h

def h_butterylaw11_ShardRemoves : H := (.s (.reg []) (.s (.reg []) (.s (.reg []) (.s (.reg []) (.s (.s (.reg [false, false, false, true, false, false, false, true, false, false, false, true, false, false, false]) (.s (.s (.reg [false, false, true, false, false, false]) .z) .z)) (.s (.s (.reg []) (.one (.loop [(10, (.one (.int .i64)))] (.s (.s (.reg []) (.s .z .z)) (.s (.one (.any #[[], [], [], [1, 2], [1, 2, 3], [1, 2, 3, 4], [], [], [6, 7], [6, 7, 8], [6, 7, 8, 9], [0, 1, 2, 3, 4, 5, 6, 7, 8, 9, 10]] (.rd 0 (.rd 1 (.rd 2 (.rd 3 (.rd 4 (.rd 5 (.rd 6 (.rd 7 (.rd 8 (.rd 9 (.rd 10 (.ef 11 .fin .no)))))))))))))) (.reg [])))))) (.s (.reg []) (.s (.reg []) (.s (.reg []) (.s (.reg []) (.s (.reg []) (.s (.reg []) (.s (.reg []) (.s (.reg []) (.s (.s (.reg []) (.one (.loop [(16, (.one (.int .i64))), (17, (.one (.int .i64))), (18, (.one (.int .i64)))] (.s (.s (.reg []) (.s .z .z)) (.s (.one (.s (.s (.reg []) (.s (.s (.reg []) (.s (.reg []) .z)) .z)) (.s (.s (.any #[[], [], [1], [0, 1, 2], [0, 1, 2, 3], [0, 1, 2, 3, 4], [0, 1, 2, 3, 4], [0, 1, 2, 3, 4, 5, 6], [0, 1, 2, 3, 4, 5, 6, 7], [0, 1, 2, 3, 4, 5, 6, 7, 8], [0, 1, 2, 3, 4], [0, 1, 2, 3, 4], [0, 1, 2, 3, 4, 10, 11], [0, 1, 2, 3, 4, 10, 11, 12], [0, 1, 2, 3, 4, 10, 11, 12, 13], [0, 1, 2, 3, 4, 5, 6, 7, 8, 9, 10, 11, 12, 13, 14], [0, 1, 2, 3, 4, 5, 6, 7, 8, 9, 10, 11, 12, 13, 14, 15]] (.rd 0 (.rd 1 (.rd 2 (.rd 3 (.rd 4 (.sp 106 (.rd 5 (.rd 6 (.rd 7 (.rd 8 (.rd 9 (.rd 10 (.rd 11 (.rd 12 (.rd 13 (.rd 14 (.rd 15 (.rd 16 .fin))))))))))))))))))) (.s (.s (.reg []) .z) .z)) (.reg [])))) (.reg [])))))) (.s (.reg [false, false, false, false, false, true, false, false, false, false, false, true, false, false, false, true, false, false, false, false, false, false, false, true, false, false, false, false, false]) .z))))))))))))))))
def c_butterylaw11_ShardRemoves (a0 : Int) (a1a : Option Addr) (a1n a1c : Nat) (a2 : ByteArray) (w : World) (R : Value → World → Prop) : Prop :=
 
 Cl P f_butterylaw11_awake #[] w (fun (u1 : Value) (w2 : World) => ∃ x3 : Bool, u1 = (.bool x3) ∧ 
 Cl P f_butterylaw11_Few #[(.slice a1a a1n a1c)] w2 (fun (u4 : Value) (w5 : World) => ∃ x6 : Bool, u4 = (.bool x6) ∧ 
 Cl P f_shard_New #[(.int .u64 a0), (.int .i64 (2000 : Int)), (.int .i64 (3 : Int))] w5 (fun (u7 : Value) (w8 : World) => ∃ x9 : Option Addr, u7 = (.pointer x9) ∧ 
 (bif (!x3) then 
 (bif x3 then 
 R (.bool (!(Option.isNone x9))) w8 else
 
 R (.bool false) w8) else
 (bif (!x6) then 
 (bif x3 then 
 R (.bool (!(Option.isNone x9))) w8 else
 
 R (.bool false) w8) else
 (bif (Option.isNone x9) then 
 (bif x3 then 
 R (.bool (!(Option.isNone x9))) w8 else
 
 R (.bool false) w8) else
 
 (bif (decide (((ByteArray.size a2 : Nat) : Int) > (300 : Int))) then
 (bif x3 then 
 R (.bool (!(Option.isNone x9))) w8 else
 
 R (.bool false) w8) else
 
 ∃ (I10 : List Value → World → Prop) (m11 : List Value → World → Nat), (I10 [(.int .i64 (0 : Int))] w8) ∧
 ∀ (vs12 : List Value) (w13 : World), I10 vs12 w13 → ∃ x14 : Int, vs12 = [(.int .i64 x14)] ∧ 
 (bif (decide (x14 < ((a1n : Nat) : Int))) then
 ∀ w15 : World, w15 = World.drew w13 → ∃ a16 : Addr, a1a = some a16 ∧ 0 ≤ x14 ∧ x14 < ((a1n : Nat) : Int) ∧ ∃ x17 : ByteArray, ∃ (x18a : Option Addr) (x18n x18c : Nat), ∃ x19 : Int, ∃ x20 : Int, ∃ x21 : Int, ∃ x22 : Int, ∃ x23 : Int, ∃ x24 : Bool, ∃ x25 : Bool, ∃ x26 : Bool, SpanAt w15 (Addr.add (Addr.add a16 (Int.toNat x14 * 15)) 1) [(.string x17), (.slice x18a x18n x18c), (.int .u32 x19), (.int .i64 x20), (.int .u64 x21), (.int .i64 x22), (.int .u64 x23), (.bool x24), (.bool x25), (.bool x26)] ∧ ∃ a27 : Addr, a1a = some a27 ∧ 0 ≤ x14 ∧ x14 < ((a1n : Nat) : Int) ∧ ∃ x28 : Int, ∃ x29 : Int, ∃ x30 : Int, ∃ x31 : Int, SpanAt w15 (Addr.add (Addr.add a27 (Int.toNat x14 * 15)) 11) [(.int .i64 x28), (.int .u64 x29), (.int .i64 x30), (.int .u64 x31)] ∧ Cl P f_shard_Shard_Store #[(.pointer x9), (.agg #[(.string x17), (.slice x18a x18n x18c), (.int .u32 x19), (.int .i64 x20), (.int .u64 x21), (.int .i64 x22), (.int .u64 x23), (.bool x24), (.bool x25), (.bool x26)]), (.agg #[(.int .i64 x28), (.int .u64 x29), (.int .i64 x30), (.int .u64 x31)])] w15 (fun (u32 : Value) (w33 : World) => ∃ x34 : Int, u32 = (.int .i64 x34) ∧ 
 
 I10 [(.int .i64 (IntKind.i64.wrap (x14 + (1 : Int))))] w33 ∧ m11 [(.int .i64 (IntKind.i64.wrap (x14 + (1 : Int))))] w33 < m11 vs12 w13) else
 Cl P f_shard_Shard_Drops #[(.pointer x9)] w13 (fun (u35 : Value) (w36 : World) => ∃ (x37a : Option Addr) (x37n x37c : Nat), u35 = (.slice x37a x37n x37c) ∧ 
 Cl P f_butterylaw11_all #[(.pointer x9), (.int .i64 (1000 : Int))] w36 (fun (u38 : Value) (w39 : World) => ∃ (x40a : Option Addr) (x40n x40c : Nat), u38 = (.slice x40a x40n x40c) ∧ 
 Cl P f_shard_Shard_Used #[(.pointer x9)] w39 (fun (u41 : Value) (w42 : World) => ∃ x43 : Int, u41 = (.int .i64 x43) ∧ 
 Cl P f_shard_Shard_Remove #[(.pointer x9), (.string a2)] w42 (fun (u44 : Value) (w45 : World) => ∃ x46 : Bool, u44 = (.bool x46) ∧ 
 Cl P f_shard_Shard_Remove #[(.pointer x9), (.string a2)] w45 (fun (u47 : Value) (w48 : World) => ∃ x49 : Bool, u47 = (.bool x49) ∧ 
 Cl P f_butterylaw11_all #[(.pointer x9), (.int .i64 (1000 : Int))] w48 (fun (u50 : Value) (w51 : World) => ∃ (x52a : Option Addr) (x52n x52c : Nat), u50 = (.slice x52a x52n x52c) ∧ 
 
 
 
 ∃ (I53 : List Value → World → Prop) (m54 : List Value → World → Nat), (I53 [(.int .i64 (0 : Int)), (.int .i64 (0 : Int)), (.int .i64 (0 : Int))] w51) ∧
 ∀ (vs55 : List Value) (w56 : World), I53 vs55 w56 → ∃ x57 : Int, ∃ x58 : Int, ∃ x59 : Int, vs55 = [(.int .i64 x57), (.int .i64 x58), (.int .i64 x59)] ∧ 
 (bif (decide (x59 < ((x40n : Nat) : Int))) then
 ∃ a60 : Addr, x40a = some a60 ∧ 0 ≤ x59 ∧ x59 < ((x40n : Nat) : Int) ∧ ∃ x61 : ByteArray, World.cell? w56 (Addr.add (Addr.add a60 (Int.toNat x59 * 10)) 0) = some (.string x61) ∧ 
 (bif (seq x61 a2) then
 ∃ a62 : Addr, x40a = some a62 ∧ 0 ≤ x59 ∧ x59 < ((x40n : Nat) : Int) ∧ ∃ x63 : ByteArray, ∃ (x64a : Option Addr) (x64n x64c : Nat), ∃ x65 : Int, ∃ x66 : Int, ∃ x67 : Int, ∃ x68 : Int, ∃ x69 : Int, ∃ x70 : Bool, ∃ x71 : Bool, ∃ x72 : Bool, SpanAt w56 (Addr.add a62 (Int.toNat x59 * 10)) [(.string x63), (.slice x64a x64n x64c), (.int .u32 x65), (.int .i64 x66), (.int .u64 x67), (.int .i64 x68), (.int .u64 x69), (.bool x70), (.bool x71), (.bool x72)] ∧ Cl P f_item_Size #[(.agg #[(.string x63), (.slice x64a x64n x64c), (.int .u32 x65), (.int .i64 x66), (.int .u64 x67), (.int .i64 x68), (.int .u64 x69), (.bool x70), (.bool x71), (.bool x72)])] w56 (fun (u73 : Value) (w74 : World) => ∃ x75 : Int, u73 = (.int .i64 x75) ∧ Cl P f_slab_Class #[(.int .i64 x75)] w74 (fun (u76 : Value) (w77 : World) => ∃ x78 : Int, ∃ x79 : Int, u76 = (.tuple #[(.int .i64 x78), (.int .i64 x79)]) ∧ 
 Cl P f_slab_Bytes #[(.int .i64 x78)] w77 (fun (u80 : Value) (w81 : World) => ∃ x82 : Int, u80 = (.int .i64 x82) ∧ 
 
 I53 [(.int .i64 x57), (.int .i64 x82), (.int .i64 (IntKind.i64.wrap (x59 + (1 : Int))))] w81 ∧ m54 [(.int .i64 x57), (.int .i64 x82), (.int .i64 (IntKind.i64.wrap (x59 + (1 : Int))))] w81 < m54 vs55 w56))) else
 ∀ w83 : World, w83 = World.drew w56 → (bif (decide (x57 ≥ ((x52n : Nat) : Int))) then 
 
 R (.bool false) w83 else
 ∃ a84 : Addr, x52a = some a84 ∧ 0 ≤ x57 ∧ x57 < ((x52n : Nat) : Int) ∧ ∃ x85 : ByteArray, World.cell? w83 (Addr.add (Addr.add a84 (Int.toNat x57 * 10)) 0) = some (.string x85) ∧ ∃ a86 : Addr, x40a = some a86 ∧ 0 ≤ x59 ∧ x59 < ((x40n : Nat) : Int) ∧ ∃ x87 : ByteArray, World.cell? w83 (Addr.add (Addr.add a86 (Int.toNat x59 * 10)) 0) = some (.string x87) ∧ 
 (bif (!(seq x85 x87)) then
 
 R (.bool false) w83 else
 
 
 I53 [(.int .i64 (IntKind.i64.wrap (x57 + (1 : Int)))), (.int .i64 x58), (.int .i64 (IntKind.i64.wrap (x59 + (1 : Int))))] w83 ∧ m54 [(.int .i64 (IntKind.i64.wrap (x57 + (1 : Int)))), (.int .i64 x58), (.int .i64 (IntKind.i64.wrap (x59 + (1 : Int))))] w83 < m54 vs55 w56))) else
 (bif (x57 == ((x52n : Nat) : Int)) then (bif (x46 == (decide (x58 > (0 : Int)))) then (bif (!x49) then Cl P f_shard_Shard_Used #[(.pointer x9)] w56 (fun (u88 : Value) (w89 : World) => ∃ x90 : Int, u88 = (.int .i64 x90) ∧ (bif (x90 == (IntKind.i64.wrap (x43 - x58))) then Cl P f_shard_Shard_Drops #[(.pointer x9)] w89 (fun (u91 : Value) (w92 : World) => ∃ (x93a : Option Addr) (x93n x93c : Nat), u91 = (.slice x93a x93n x93c) ∧ 
 R (.bool (((x93n : Nat) : Int) == (0 : Int))) w92) else
 
 R (.bool false) w89)) else
 
 R (.bool false) w56) else
 
 R (.bool false) w56) else
 
 R (.bool false) w56))))))))))))))))
theorem e_butterylaw11_ShardRemoves : (fun (a0 : Int) (a1a : Option Addr) (a1n a1c : Nat) (a2 : ByteArray) (w : World) (R : Value → World → Prop) => vf P f_butterylaw11_ShardRemoves h_butterylaw11_ShardRemoves [(.int .u64 a0), (.slice a1a a1n a1c), (.string a2)] w R) = c_butterylaw11_ShardRemoves := by kernel_rfl
theorem cl_butterylaw11_ShardRemoves {a0 : Int} {a1a : Option Addr} {a1n a1c : Nat} {a2 : ByteArray} {w : World} {R : Value → World → Prop} (h : c_butterylaw11_ShardRemoves a0 a1a a1n a1c a2 w R) : Cl P f_butterylaw11_ShardRemoves #[(.int .u64 a0), (.slice a1a a1n a1c), (.string a2)] w R := cl_of mixed (congrFun (congrFun (congrFun (congrFun (congrFun (congrFun (congrFun e_butterylaw11_ShardRemoves a0) a1a) a1n) a1c) a2) w) R) h

def h_butterylaw11_ShardOwn : H := (.s (.reg []) (.s (.reg []) (.s (.reg []) (.s (.s (.reg [false, false, false, true, false, false, false, true, false, false, false, false, true, false, false, false]) (.s (.s (.reg [false, false, true, false, false, false]) .z) .z)) (.s (.reg []) (.s (.reg []) (.s (.reg []) (.s (.s (.reg []) (.one (.loop [(12, (.one (.int .i64)))] (.s (.s (.reg []) (.s .z .z)) (.s (.one (.reg [])) (.reg [])))))) (.s (.reg []) (.s (.reg []) (.s (.s (.reg []) (.one (.loop [(16, (.one (.int .i64)))] (.s (.s (.reg []) (.s .z .z)) (.s (.one (.reg [])) (.reg [])))))) (.s (.reg []) (.s (.s (.any #[[], [0], [0, 1], [0, 1, 2], [0, 1, 2, 3], [0, 1, 2, 3, 4], [0, 1, 2, 3, 4, 5], [0, 1, 2, 3, 4, 5, 6], [0, 1, 2, 3, 4, 5, 6, 7], [0, 1, 2, 3, 4, 5, 6, 7, 8], [0, 1, 2, 3, 4, 5, 6, 7, 8, 9], [0, 1, 2, 3, 4, 5, 6, 7, 8, 9, 10], [0, 1, 2, 3, 4, 5, 6, 7, 8, 9, 10, 11], [0, 1, 2, 3, 4, 5, 6, 7, 8, 9, 10, 11, 12], [0, 1, 2, 3, 4, 5, 6, 7, 8, 9, 10, 11, 12, 13], [0, 1, 2, 3, 4, 5, 6, 7, 8, 9, 10, 11, 12, 13, 14], [0, 1, 2, 3, 4, 5, 6, 7, 8, 9, 10, 11, 12, 13, 14, 15], [0, 1, 2, 3, 4, 5, 6, 7, 8, 9, 10, 11, 12, 13, 14, 15, 16], [0, 1, 2, 3, 4, 5, 6, 7, 8, 9, 10, 11, 12, 13, 14, 15, 16, 17], [0, 1, 2, 3, 4, 5, 6, 7, 8, 9, 10, 11, 12, 13, 14, 15, 16, 17, 18], [0, 1, 2, 3, 4, 5, 6, 7, 8, 9, 10, 11, 12, 13, 14, 15, 16, 17, 18, 19], [0, 1, 2, 3, 4, 5, 6, 7, 8, 9, 10, 11, 12, 13, 14, 15], [0, 1, 2, 3, 4, 5, 6, 7, 8, 9, 10, 11, 12, 13, 14, 15, 21], [0, 1, 2, 3, 4, 5, 6, 7, 8, 9, 10, 11, 12, 13, 14, 15, 16, 17, 18, 19, 20, 21, 22], [0, 1, 2, 3, 4, 5, 6, 7, 8, 9, 10, 11, 12, 13, 14, 15, 16, 17, 18, 19, 20, 21, 22, 23]] (.rd 0 (.rd 1 (.rd 2 (.sp 92 (.rd 3 (.rd 4 (.rd 5 (.rd 6 (.sp 96 (.rd 7 (.rd 8 (.rd 9 (.rd 10 (.sp 100 (.rd 11 (.rd 12 (.rd 13 (.rd 14 (.rd 15 (.sp 105 (.rd 16 (.rd 17 (.rd 18 (.rd 19 (.rd 20 (.rd 21 (.rd 22 (.rd 23 (.rd 24 .fin)))))))))))))))))))))))))))))) (.s (.s (.reg []) .z) .z)) (.s (.s (.reg []) (.one (.loop [(18, (.one (.int .i64)))] (.s (.s (.reg []) (.s .z .z)) (.s (.one (.reg [])) (.reg [])))))) (.s (.reg []) (.s (.reg [false, false, true, false, false, false, false, false, false, false]) .z))))))))))))))))
def c_butterylaw11_ShardOwn (a0 : ByteArray) (a1a : Option Addr) (a1n a1c : Nat) (a2 : Int) (w : World) (R : Value → World → Prop) : Prop :=
 
 Cl P f_butterylaw11_awake #[] w (fun (u1 : Value) (w2 : World) => ∃ x3 : Bool, u1 = (.bool x3) ∧ 
 Cl P f_shard_New #[(.int .u64 (1 : Int)), (.int .i64 (100000 : Int)), (.int .i64 (3 : Int))] w2 (fun (u4 : Value) (w5 : World) => ∃ x6 : Option Addr, u4 = (.pointer x6) ∧ 
 (bif (!x3) then 
 (bif x3 then 
 R (.bool (!(Option.isNone x6))) w5 else
 
 R (.bool false) w5) else
 (bif (Option.isNone x6) then 
 (bif x3 then 
 R (.bool (!(Option.isNone x6))) w5 else
 
 R (.bool false) w5) else
 (bif (decide (((ByteArray.size a0 : Nat) : Int) > (250 : Int))) then 
 (bif x3 then 
 R (.bool (!(Option.isNone x6))) w5 else
 
 R (.bool false) w5) else
 
 (bif (decide (((a1n : Nat) : Int) > (1000 : Int))) then
 (bif x3 then 
 R (.bool (!(Option.isNone x6))) w5 else
 
 R (.bool false) w5) else
 ∃ ys7 : List Value, RowAt w5 a1a (a1n * 1) ys7 ∧ OneC ys7 ∧ (0 + a1n ≤ 0 → 0 < List.length ys7 → ∃ p, (none : Option Addr) = some p ∧ Wr w5 (p.add (0 * 1)) (List.length ys7)) ∧ (0 < 0 + a1n → Builtin.nextslicecap (0 + a1n) 0 * 1 ≤ 2 ^ 48 ∧ ∃ xs, RowAt w5 (none : Option Addr) (0 * 1) xs) ∧ ∀ (sa8 : Option Addr) (c9 : Nat) (w10 : World), AppR T_uint8 1 [(.int .u8 (0 : Int))] (none : Option Addr) 0 0 a1n ys7 w5 sa8 c9 w10 → 
 ∀ (b11 : Nat) (w12 : World), b11 = Array.size (World.heap w10) → w12 = World.alloc w10 (.cells #[(.int .i64 (0 : Int)), (.int .u64 (0 : Int)), (.int .i64 (0 : Int)), (.int .u64 (0 : Int))] T_api_Env) → Wr w12 (Addr.mk b11 0 none) 4 ∧ ∀ w13 : World, w13 = setSpan w12 (Addr.mk b11 0 none) [(.int .i64 (1 : Int)), (.int .u64 (0 : Int)), (.int .i64 (0 : Int)), (.int .u64 (0 : Int))] → 
 ∃ x14 : Int, ∃ x15 : Int, ∃ x16 : Int, ∃ x17 : Int, SpanAt w13 (Addr.mk b11 0 none) [(.int .i64 x14), (.int .u64 x15), (.int .i64 x16), (.int .u64 x17)] ∧ Cl P f_shard_Shard_Store #[(.pointer x6), (.agg #[(.string a0), (.slice sa8 (0 + a1n) c9), (.int .u32 (0 : Int)), (.int .i64 (0 : Int)), (.int .u64 (0 : Int)), (.int .i64 (0 : Int)), (.int .u64 (0 : Int)), (.bool false), (.bool false), (.bool false)]), (.agg #[(.int .i64 x14), (.int .u64 x15), (.int .i64 x16), (.int .u64 x17)])] w13 (fun (u18 : Value) (w19 : World) => ∃ x20 : Int, u18 = (.int .i64 x20) ∧ 
 
 ∃ (I21 : List Value → World → Prop) (m22 : List Value → World → Nat), (I21 [(.int .i64 (0 : Int))] w19) ∧
 ∀ (vs23 : List Value) (w24 : World), I21 vs23 w24 → ∃ x25 : Int, vs23 = [(.int .i64 x25)] ∧ 
 (bif (decide (x25 < (((0 + a1n) : Nat) : Int))) then
 ∃ a26 : Addr, sa8 = some a26 ∧ 0 ≤ x25 ∧ x25 < (((0 + a1n) : Nat) : Int) ∧ ((∃ u, World.cell? w24 (Addr.add a26 (Int.toNat x25 * 1)) = some u) ∧ World.frozen? w24 (Addr.add a26 (Int.toNat x25 * 1)) = false) ∧ ∀ w27 : World, w27 = World.setCell w24 (Addr.add a26 (Int.toNat x25 * 1)) (.int .u8 a2) → 
 
 I21 [(.int .i64 (IntKind.i64.wrap (x25 + (1 : Int))))] w27 ∧ m22 [(.int .i64 (IntKind.i64.wrap (x25 + (1 : Int))))] w27 < m22 vs23 w24 else
 ∃ x28 : Int, ∃ x29 : Int, ∃ x30 : Int, ∃ x31 : Int, SpanAt w24 (Addr.mk b11 0 none) [(.int .i64 x28), (.int .u64 x29), (.int .i64 x30), (.int .u64 x31)] ∧ Cl P f_shard_Shard_Look #[(.pointer x6), (.string a0), (.agg #[(.int .i64 x28), (.int .u64 x29), (.int .i64 x30), (.int .u64 x31)])] w24 (fun (u32 : Value) (w33 : World) => ∃ x34 : ByteArray, ∃ (x35a : Option Addr) (x35n x35c : Nat), ∃ x36 : Int, ∃ x37 : Int, ∃ x38 : Int, ∃ x39 : Int, ∃ x40 : Int, ∃ x41 : Bool, ∃ x42 : Bool, ∃ x43 : Bool, ∃ x44 : Bool, u32 = (.tuple #[(.agg #[(.string x34), (.slice x35a x35n x35c), (.int .u32 x36), (.int .i64 x37), (.int .u64 x38), (.int .i64 x39), (.int .u64 x40), (.bool x41), (.bool x42), (.bool x43)]), (.bool x44)]) ∧ ∀ (b45 : Nat) (w46 : World), b45 = Array.size (World.heap w33) → w46 = World.alloc w33 (.cells #[(.string (⟨#[]⟩ : ByteArray)), (.slice none 0 0), (.int .u32 (0 : Int)), (.int .i64 (0 : Int)), (.int .u64 (0 : Int)), (.int .i64 (0 : Int)), (.int .u64 (0 : Int)), (.bool false), (.bool false), (.bool false)] T_api_Item) → Wr w46 (Addr.mk b45 0 none) 10 ∧ ∀ w47 : World, w47 = setSpan w46 (Addr.mk b45 0 none) [(.string x34), (.slice x35a x35n x35c), (.int .u32 x36), (.int .i64 x37), (.int .u64 x38), (.int .i64 x39), (.int .u64 x40), (.bool x41), (.bool x42), (.bool x43)] → 
 ∃ (x48a : Option Addr) (x48n x48c : Nat), World.cell? w47 (Addr.add (Addr.mk b45 0 none) 1) = some (.slice x48a x48n x48c) ∧ ∃ bs49 : List UInt8, BytesAt w47 x48a x48n bs49 ∧ ∃ bs50 : List UInt8, BytesAt w47 a1a a1n bs50 ∧ 
 
 ∃ (I51 : List Value → World → Prop) (m52 : List Value → World → Nat), (I51 [(.int .i64 (0 : Int))] w47) ∧
 ∀ (vs53 : List Value) (w54 : World), I51 vs53 w54 → ∃ x55 : Int, vs53 = [(.int .i64 x55)] ∧ ∃ (x56a : Option Addr) (x56n x56c : Nat), World.cell? w54 (Addr.add (Addr.mk b45 0 none) 1) = some (.slice x56a x56n x56c) ∧ 
 (bif (decide (x55 < ((x56n : Nat) : Int))) then
 ∃ (x57a : Option Addr) (x57n x57c : Nat), World.cell? w54 (Addr.add (Addr.mk b45 0 none) 1) = some (.slice x57a x57n x57c) ∧ ∃ a58 : Addr, x57a = some a58 ∧ 0 ≤ x55 ∧ x55 < ((x57n : Nat) : Int) ∧ ((∃ u, World.cell? w54 (Addr.add a58 (Int.toNat x55 * 1)) = some u) ∧ World.frozen? w54 (Addr.add a58 (Int.toNat x55 * 1)) = false) ∧ ∀ w59 : World, w59 = World.setCell w54 (Addr.add a58 (Int.toNat x55 * 1)) (.int .u8 a2) → 
 
 I51 [(.int .i64 (IntKind.i64.wrap (x55 + (1 : Int))))] w59 ∧ m52 [(.int .i64 (IntKind.i64.wrap (x55 + (1 : Int))))] w59 < m52 vs53 w54 else
 Cl P f_butterylaw11_all #[(.pointer x6), (.int .i64 (5 : Int))] w54 (fun (u60 : Value) (w61 : World) => ∃ (x62a : Option Addr) (x62n x62c : Nat), u60 = (.slice x62a x62n x62c) ∧ 
 ∀ w63 : World, w63 = World.drew w61 → (bif (x20 != (0 : Int)) then 
 
 R (.bool false) w63 else
 (bif (!x44) then 
 
 R (.bool false) w63 else
 (bif (!(seq (⟨List.toArray bs49⟩ : ByteArray) (⟨List.toArray bs50⟩ : ByteArray))) then 
 
 R (.bool false) w63 else
 (bif (((x62n : Nat) : Int) != (1 : Int)) then 
 
 R (.bool false) w63 else
 ∃ a64 : Addr, x62a = some a64 ∧ 0 ≤ (0 : Int) ∧ (0 : Int) < ((x62n : Nat) : Int) ∧ ∃ (x65a : Option Addr) (x65n x65c : Nat), World.cell? w63 (Addr.add (Addr.add a64 (Int.toNat (0 : Int) * 10)) 1) = some (.slice x65a x65n x65c) ∧ ∃ bs66 : List UInt8, BytesAt w63 x65a x65n bs66 ∧ ∃ bs67 : List UInt8, BytesAt w63 a1a a1n bs67 ∧ 
 (bif (!(seq (⟨List.toArray bs66⟩ : ByteArray) (⟨List.toArray bs67⟩ : ByteArray))) then
 
 R (.bool false) w63 else
 
 ∃ (I68 : List Value → World → Prop) (m69 : List Value → World → Nat), (I68 [(.int .i64 (0 : Int))] w63) ∧
 ∀ (vs70 : List Value) (w71 : World), I68 vs70 w71 → ∃ x72 : Int, vs70 = [(.int .i64 x72)] ∧ ∃ a73 : Addr, x62a = some a73 ∧ 0 ≤ (0 : Int) ∧ (0 : Int) < ((x62n : Nat) : Int) ∧ ∃ (x74a : Option Addr) (x74n x74c : Nat), World.cell? w71 (Addr.add (Addr.add a73 (Int.toNat (0 : Int) * 10)) 1) = some (.slice x74a x74n x74c) ∧ 
 (bif (decide (x72 < ((x74n : Nat) : Int))) then
 ∃ a75 : Addr, x62a = some a75 ∧ 0 ≤ (0 : Int) ∧ (0 : Int) < ((x62n : Nat) : Int) ∧ ∃ (x76a : Option Addr) (x76n x76c : Nat), World.cell? w71 (Addr.add (Addr.add a75 (Int.toNat (0 : Int) * 10)) 1) = some (.slice x76a x76n x76c) ∧ ∃ a77 : Addr, x76a = some a77 ∧ 0 ≤ x72 ∧ x72 < ((x76n : Nat) : Int) ∧ ((∃ u, World.cell? w71 (Addr.add a77 (Int.toNat x72 * 1)) = some u) ∧ World.frozen? w71 (Addr.add a77 (Int.toNat x72 * 1)) = false) ∧ ∀ w78 : World, w78 = World.setCell w71 (Addr.add a77 (Int.toNat x72 * 1)) (.int .u8 a2) → 
 
 I68 [(.int .i64 (IntKind.i64.wrap (x72 + (1 : Int))))] w78 ∧ m69 [(.int .i64 (IntKind.i64.wrap (x72 + (1 : Int))))] w78 < m69 vs70 w71 else
 ∃ x79 : Int, ∃ x80 : Int, ∃ x81 : Int, ∃ x82 : Int, SpanAt w71 (Addr.mk b11 0 none) [(.int .i64 x79), (.int .u64 x80), (.int .i64 x81), (.int .u64 x82)] ∧ Cl P f_shard_Shard_Look #[(.pointer x6), (.string a0), (.agg #[(.int .i64 x79), (.int .u64 x80), (.int .i64 x81), (.int .u64 x82)])] w71 (fun (u83 : Value) (w84 : World) => ∃ x85 : ByteArray, ∃ (x86a : Option Addr) (x86n x86c : Nat), ∃ x87 : Int, ∃ x88 : Int, ∃ x89 : Int, ∃ x90 : Int, ∃ x91 : Int, ∃ x92 : Bool, ∃ x93 : Bool, ∃ x94 : Bool, ∃ x95 : Bool, u83 = (.tuple #[(.agg #[(.string x85), (.slice x86a x86n x86c), (.int .u32 x87), (.int .i64 x88), (.int .u64 x89), (.int .i64 x90), (.int .u64 x91), (.bool x92), (.bool x93), (.bool x94)]), (.bool x95)]) ∧ ∀ (b96 : Nat) (w97 : World), b96 = Array.size (World.heap w84) → w97 = World.alloc w84 (.cells #[(.string (⟨#[]⟩ : ByteArray)), (.slice none 0 0), (.int .u32 (0 : Int)), (.int .i64 (0 : Int)), (.int .u64 (0 : Int)), (.int .i64 (0 : Int)), (.int .u64 (0 : Int)), (.bool false), (.bool false), (.bool false)] T_api_Item) → Wr w97 (Addr.mk b96 0 none) 10 ∧ ∀ w98 : World, w98 = setSpan w97 (Addr.mk b96 0 none) [(.string x85), (.slice x86a x86n x86c), (.int .u32 x87), (.int .i64 x88), (.int .u64 x89), (.int .i64 x90), (.int .u64 x91), (.bool x92), (.bool x93), (.bool x94)] → 
 (bif x95 then ∃ (x99a : Option Addr) (x99n x99c : Nat), World.cell? w98 (Addr.add (Addr.mk b96 0 none) 1) = some (.slice x99a x99n x99c) ∧ ∃ bs100 : List UInt8, BytesAt w98 x99a x99n bs100 ∧ ∃ bs101 : List UInt8, BytesAt w98 a1a a1n bs101 ∧ 
 R (.bool (seq (⟨List.toArray bs100⟩ : ByteArray) (⟨List.toArray bs101⟩ : ByteArray))) w98 else
 
 R (.bool false) w98)))))))))))))))))))
theorem e_butterylaw11_ShardOwn : (fun (a0 : ByteArray) (a1a : Option Addr) (a1n a1c : Nat) (a2 : Int) (w : World) (R : Value → World → Prop) => vf P f_butterylaw11_ShardOwn h_butterylaw11_ShardOwn [(.string a0), (.slice a1a a1n a1c), (.int .u8 a2)] w R) = c_butterylaw11_ShardOwn := by kernel_rfl
theorem cl_butterylaw11_ShardOwn {a0 : ByteArray} {a1a : Option Addr} {a1n a1c : Nat} {a2 : Int} {w : World} {R : Value → World → Prop} (h : c_butterylaw11_ShardOwn a0 a1a a1n a1c a2 w R) : Cl P f_butterylaw11_ShardOwn #[(.string a0), (.slice a1a a1n a1c), (.int .u8 a2)] w R := cl_of mixed (congrFun (congrFun (congrFun (congrFun (congrFun (congrFun (congrFun e_butterylaw11_ShardOwn a0) a1a) a1n) a1c) a2) w) R) h

def h_butterylaw11_ShardLooks : H := (.s (.reg []) (.s (.reg []) (.s (.reg []) (.s (.reg []) (.s (.s (.reg [false, false, false, true, false, false, false, true, false, false, false, true, false, false, false]) (.s (.s (.reg [false, false, true, false, false, false]) .z) .z)) (.s (.s (.reg []) (.one (.loop [(12, (.one (.int .i64)))] (.s (.s (.reg []) (.s .z .z)) (.s (.one (.any #[[], [], [], [1, 2], [1, 2, 3], [1, 2, 3, 4], [], [], [6, 7], [6, 7, 8], [6, 7, 8, 9], [0, 1, 2, 3, 4, 5, 6, 7, 8, 9, 10]] (.rd 0 (.rd 1 (.rd 2 (.rd 3 (.rd 4 (.rd 5 (.rd 6 (.rd 7 (.rd 8 (.rd 9 (.rd 10 (.ef 11 .fin .no)))))))))))))) (.reg [])))))) (.s (.reg []) (.s (.reg []) (.s (.reg []) (.s (.s (.reg []) (.one (.loop [(14, (.one .bool)), (72, (.one (.int .i64)))] (.s (.reg []) (.s (.s .z .z) (.s (.one (.s (.reg []) (.reg [false, false, true, false, false, false, false, false]))) (.reg []))))))) (.s (.reg []) (.s (.reg []) (.s (.reg []) (.s (.s (.reg []) (.s (.s (.reg [false, false, true, false, false, true, false, false, false, false, true, false, false, false, false, false]) .z) .z)) (.s (.s (.reg []) (.s (.s (.reg [false, false, false, true, false, false, false, false, false, true, false, false, false, false, false, false, true, false, false, false, false, false]) .z) .z)) (.s (.reg [false, false, false, true, false, false, false, false, true, false, false, false, false, false]) .z))))))))))))))))
def c_butterylaw11_ShardLooks (a0 : Int) (a1a : Option Addr) (a1n a1c : Nat) (a2 : ByteArray) (a3_0 : Int) (a3_1 : Int) (a3_2 : Int) (a3_3 : Int) (w : World) (R : Value → World → Prop) : Prop :=
 ∀ (b1 : Nat) (w2 : World), b1 = Array.size (World.heap w) → w2 = World.alloc w (.cells #[(.int .i64 a3_0), (.int .u64 a3_1), (.int .i64 a3_2), (.int .u64 a3_3)] T_api_Env) → 
 Cl P f_butterylaw11_awake #[] w2 (fun (u3 : Value) (w4 : World) => ∃ x5 : Bool, u3 = (.bool x5) ∧ 
 Cl P f_butterylaw11_Few #[(.slice a1a a1n a1c)] w4 (fun (u6 : Value) (w7 : World) => ∃ x8 : Bool, u6 = (.bool x8) ∧ 
 Cl P f_shard_New #[(.int .u64 a0), (.int .i64 (3000 : Int)), (.int .i64 (3 : Int))] w7 (fun (u9 : Value) (w10 : World) => ∃ x11 : Option Addr, u9 = (.pointer x11) ∧ 
 (bif (!x5) then 
 (bif x5 then 
 R (.bool (!(Option.isNone x11))) w10 else
 
 R (.bool false) w10) else
 (bif (!x8) then 
 (bif x5 then 
 R (.bool (!(Option.isNone x11))) w10 else
 
 R (.bool false) w10) else
 (bif (Option.isNone x11) then 
 (bif x5 then 
 R (.bool (!(Option.isNone x11))) w10 else
 
 R (.bool false) w10) else
 
 (bif (decide (((ByteArray.size a2 : Nat) : Int) > (300 : Int))) then
 (bif x5 then 
 R (.bool (!(Option.isNone x11))) w10 else
 
 R (.bool false) w10) else
 
 ∃ (I12 : List Value → World → Prop) (m13 : List Value → World → Nat), (I12 [(.int .i64 (0 : Int))] w10) ∧
 ∀ (vs14 : List Value) (w15 : World), I12 vs14 w15 → ∃ x16 : Int, vs14 = [(.int .i64 x16)] ∧ 
 (bif (decide (x16 < ((a1n : Nat) : Int))) then
 ∀ w17 : World, w17 = World.drew w15 → ∃ a18 : Addr, a1a = some a18 ∧ 0 ≤ x16 ∧ x16 < ((a1n : Nat) : Int) ∧ ∃ x19 : ByteArray, ∃ (x20a : Option Addr) (x20n x20c : Nat), ∃ x21 : Int, ∃ x22 : Int, ∃ x23 : Int, ∃ x24 : Int, ∃ x25 : Int, ∃ x26 : Bool, ∃ x27 : Bool, ∃ x28 : Bool, SpanAt w17 (Addr.add (Addr.add a18 (Int.toNat x16 * 15)) 1) [(.string x19), (.slice x20a x20n x20c), (.int .u32 x21), (.int .i64 x22), (.int .u64 x23), (.int .i64 x24), (.int .u64 x25), (.bool x26), (.bool x27), (.bool x28)] ∧ ∃ a29 : Addr, a1a = some a29 ∧ 0 ≤ x16 ∧ x16 < ((a1n : Nat) : Int) ∧ ∃ x30 : Int, ∃ x31 : Int, ∃ x32 : Int, ∃ x33 : Int, SpanAt w17 (Addr.add (Addr.add a29 (Int.toNat x16 * 15)) 11) [(.int .i64 x30), (.int .u64 x31), (.int .i64 x32), (.int .u64 x33)] ∧ Cl P f_shard_Shard_Store #[(.pointer x11), (.agg #[(.string x19), (.slice x20a x20n x20c), (.int .u32 x21), (.int .i64 x22), (.int .u64 x23), (.int .i64 x24), (.int .u64 x25), (.bool x26), (.bool x27), (.bool x28)]), (.agg #[(.int .i64 x30), (.int .u64 x31), (.int .i64 x32), (.int .u64 x33)])] w17 (fun (u34 : Value) (w35 : World) => ∃ x36 : Int, u34 = (.int .i64 x36) ∧ 
 
 I12 [(.int .i64 (IntKind.i64.wrap (x16 + (1 : Int))))] w35 ∧ m13 [(.int .i64 (IntKind.i64.wrap (x16 + (1 : Int))))] w35 < m13 vs14 w15) else
 Cl P f_shard_Shard_Drops #[(.pointer x11)] w15 (fun (u37 : Value) (w38 : World) => ∃ (x39a : Option Addr) (x39n x39c : Nat), u37 = (.slice x39a x39n x39c) ∧ 
 Cl P f_shard_Shard_Len #[(.pointer x11)] w38 (fun (u40 : Value) (w41 : World) => ∃ x42 : Int, u40 = (.int .i64 x42) ∧ 
 
 Cl P f_butterylaw11_all #[(.pointer x11), (.int .i64 (1000 : Int))] w41 (fun (u43 : Value) (w44 : World) => ∃ (x45a : Option Addr) (x45n x45c : Nat), u43 = (.slice x45a x45n x45c) ∧ 
 ∃ (I46 : List Value → World → Prop) (m47 : List Value → World → Nat), (I46 [(.bool false), (.int .i64 (0 : Int))] w44) ∧
 ∀ (vs48 : List Value) (w49 : World), I46 vs48 w49 → ∃ x50 : Bool, ∃ x51 : Int, vs48 = [(.bool x50), (.int .i64 x51)] ∧ 
 (bif (decide (x51 < ((x45n : Nat) : Int))) then
 ∃ a52 : Addr, x45a = some a52 ∧ 0 ≤ x51 ∧ x51 < ((x45n : Nat) : Int) ∧ ∃ x53 : ByteArray, ∃ (x54a : Option Addr) (x54n x54c : Nat), ∃ x55 : Int, ∃ x56 : Int, ∃ x57 : Int, ∃ x58 : Int, ∃ x59 : Int, ∃ x60 : Bool, ∃ x61 : Bool, ∃ x62 : Bool, SpanAt w49 (Addr.add a52 (Int.toNat x51 * 10)) [(.string x53), (.slice x54a x54n x54c), (.int .u32 x55), (.int .i64 x56), (.int .u64 x57), (.int .i64 x58), (.int .u64 x59), (.bool x60), (.bool x61), (.bool x62)] ∧ ∀ (b63 : Nat) (w64 : World), b63 = Array.size (World.heap w49) → w64 = World.alloc w49 (.cells #[(.string (⟨#[]⟩ : ByteArray)), (.slice none 0 0), (.int .u32 (0 : Int)), (.int .i64 (0 : Int)), (.int .u64 (0 : Int)), (.int .i64 (0 : Int)), (.int .u64 (0 : Int)), (.bool false), (.bool false), (.bool false)] T_api_Item) → Wr w64 (Addr.mk b63 0 none) 10 ∧ ∀ w65 : World, w65 = setSpan w64 (Addr.mk b63 0 none) [(.string x53), (.slice x54a x54n x54c), (.int .u32 x55), (.int .i64 x56), (.int .u64 x57), (.int .i64 x58), (.int .u64 x59), (.bool x60), (.bool x61), (.bool x62)] → 
 (bif x50 then 
 
 I46 [(.bool true), (.int .i64 (IntKind.i64.wrap (x51 + (1 : Int))))] w65 ∧ m47 [(.bool true), (.int .i64 (IntKind.i64.wrap (x51 + (1 : Int))))] w65 < m47 vs48 w49 else
 ∃ x66 : ByteArray, World.cell? w65 (Addr.add (Addr.mk b63 0 none) 0) = some (.string x66) ∧ 
 
 I46 [(.bool (seq x66 a2)), (.int .i64 (IntKind.i64.wrap (x51 + (1 : Int))))] w65 ∧ m47 [(.bool (seq x66 a2)), (.int .i64 (IntKind.i64.wrap (x51 + (1 : Int))))] w65 < m47 vs48 w49) else
 ∃ x67 : Int, ∃ x68 : Int, ∃ x69 : Int, ∃ x70 : Int, SpanAt w49 (Addr.mk b1 0 none) [(.int .i64 x67), (.int .u64 x68), (.int .i64 x69), (.int .u64 x70)] ∧ Cl P f_shard_Shard_Look #[(.pointer x11), (.string a2), (.agg #[(.int .i64 x67), (.int .u64 x68), (.int .i64 x69), (.int .u64 x70)])] w49 (fun (u71 : Value) (w72 : World) => ∃ x73 : ByteArray, ∃ (x74a : Option Addr) (x74n x74c : Nat), ∃ x75 : Int, ∃ x76 : Int, ∃ x77 : Int, ∃ x78 : Int, ∃ x79 : Int, ∃ x80 : Bool, ∃ x81 : Bool, ∃ x82 : Bool, ∃ x83 : Bool, u71 = (.tuple #[(.agg #[(.string x73), (.slice x74a x74n x74c), (.int .u32 x75), (.int .i64 x76), (.int .u64 x77), (.int .i64 x78), (.int .u64 x79), (.bool x80), (.bool x81), (.bool x82)]), (.bool x83)]) ∧ ∀ (b84 : Nat) (w85 : World), b84 = Array.size (World.heap w72) → w85 = World.alloc w72 (.cells #[(.string (⟨#[]⟩ : ByteArray)), (.slice none 0 0), (.int .u32 (0 : Int)), (.int .i64 (0 : Int)), (.int .u64 (0 : Int)), (.int .i64 (0 : Int)), (.int .u64 (0 : Int)), (.bool false), (.bool false), (.bool false)] T_api_Item) → Wr w85 (Addr.mk b84 0 none) 10 ∧ ∀ w86 : World, w86 = setSpan w85 (Addr.mk b84 0 none) [(.string x73), (.slice x74a x74n x74c), (.int .u32 x75), (.int .i64 x76), (.int .u64 x77), (.int .i64 x78), (.int .u64 x79), (.bool x80), (.bool x81), (.bool x82)] → 
 Cl P f_shard_Shard_Drops #[(.pointer x11)] w86 (fun (u87 : Value) (w88 : World) => ∃ (x89a : Option Addr) (x89n x89c : Nat), u87 = (.slice x89a x89n x89c) ∧ 
 ∃ x90 : Int, ∃ x91 : Int, ∃ x92 : Int, ∃ x93 : Int, SpanAt w88 (Addr.mk b1 0 none) [(.int .i64 x90), (.int .u64 x91), (.int .i64 x92), (.int .u64 x93)] ∧ Cl P f_shard_Shard_Look #[(.pointer x11), (.string a2), (.agg #[(.int .i64 x90), (.int .u64 x91), (.int .i64 x92), (.int .u64 x93)])] w88 (fun (u94 : Value) (w95 : World) => ∃ x96 : ByteArray, ∃ (x97a : Option Addr) (x97n x97c : Nat), ∃ x98 : Int, ∃ x99 : Int, ∃ x100 : Int, ∃ x101 : Int, ∃ x102 : Int, ∃ x103 : Bool, ∃ x104 : Bool, ∃ x105 : Bool, ∃ x106 : Bool, u94 = (.tuple #[(.agg #[(.string x96), (.slice x97a x97n x97c), (.int .u32 x98), (.int .i64 x99), (.int .u64 x100), (.int .i64 x101), (.int .u64 x102), (.bool x103), (.bool x104), (.bool x105)]), (.bool x106)]) ∧ ∀ (b107 : Nat) (w108 : World), b107 = Array.size (World.heap w95) → w108 = World.alloc w95 (.cells #[(.string (⟨#[]⟩ : ByteArray)), (.slice none 0 0), (.int .u32 (0 : Int)), (.int .i64 (0 : Int)), (.int .u64 (0 : Int)), (.int .i64 (0 : Int)), (.int .u64 (0 : Int)), (.bool false), (.bool false), (.bool false)] T_api_Item) → Wr w108 (Addr.mk b107 0 none) 10 ∧ ∀ w109 : World, w109 = setSpan w108 (Addr.mk b107 0 none) [(.string x96), (.slice x97a x97n x97c), (.int .u32 x98), (.int .i64 x99), (.int .u64 x100), (.int .i64 x101), (.int .u64 x102), (.bool x103), (.bool x104), (.bool x105)] → 
 
 (bif x83 then
 (bif x50 then (bif x106 then (bif (((x89n : Nat) : Int) == (0 : Int)) then Cl P f_shard_Shard_Len #[(.pointer x11)] w109 (fun (u110 : Value) (w111 : World) => ∃ x112 : Int, u110 = (.int .i64 x112) ∧ 
 R (.bool (x112 == x42)) w111) else
 
 R (.bool false) w109) else
 
 R (.bool false) w109) else
 
 R (.bool false) w109) else
 
 (bif x50 then
 (bif (!x106) then ∀ (b113 : Nat) (w114 : World), b113 = Array.size (World.heap w109) → w114 = World.alloc w109 (.cells #[(.string a2)] T_string) → Cl P f_butterylaw08_Same #[(.slice x89a x89n x89c), (.slice (some (Addr.mk b113 0 none)) 1 1)] w114 (fun (u115 : Value) (w116 : World) => ∃ x117 : Bool, u115 = (.bool x117) ∧ (bif x117 then Cl P f_shard_Shard_Len #[(.pointer x11)] w116 (fun (u118 : Value) (w119 : World) => ∃ x120 : Int, u118 = (.int .i64 x120) ∧ (bif (x120 == (IntKind.i64.wrap (x42 - (1 : Int)))) then Cl P f_shard_Shard_Drops #[(.pointer x11)] w119 (fun (u121 : Value) (w122 : World) => ∃ (x123a : Option Addr) (x123n x123c : Nat), u121 = (.slice x123a x123n x123c) ∧ 
 R (.bool (((x123n : Nat) : Int) == (0 : Int))) w122) else
 
 R (.bool false) w119)) else
 
 R (.bool false) w116)) else
 
 R (.bool false) w109) else
 (bif (!x106) then (bif (((x89n : Nat) : Int) == (0 : Int)) then Cl P f_shard_Shard_Len #[(.pointer x11)] w109 (fun (u124 : Value) (w125 : World) => ∃ x126 : Int, u124 = (.int .i64 x126) ∧ 
 R (.bool (x126 == x42)) w125) else
 
 R (.bool false) w109) else
 
 R (.bool false) w109))))))))))))))))))
theorem e_butterylaw11_ShardLooks : (fun (a0 : Int) (a1a : Option Addr) (a1n a1c : Nat) (a2 : ByteArray) (a3_0 : Int) (a3_1 : Int) (a3_2 : Int) (a3_3 : Int) (w : World) (R : Value → World → Prop) => vf P f_butterylaw11_ShardLooks h_butterylaw11_ShardLooks [(.int .u64 a0), (.slice a1a a1n a1c), (.string a2), (.agg #[(.int .i64 a3_0), (.int .u64 a3_1), (.int .i64 a3_2), (.int .u64 a3_3)])] w R) = c_butterylaw11_ShardLooks := by kernel_rfl
theorem cl_butterylaw11_ShardLooks {a0 : Int} {a1a : Option Addr} {a1n a1c : Nat} {a2 : ByteArray} {a3_0 : Int} {a3_1 : Int} {a3_2 : Int} {a3_3 : Int} {w : World} {R : Value → World → Prop} (h : c_butterylaw11_ShardLooks a0 a1a a1n a1c a2 a3_0 a3_1 a3_2 a3_3 w R) : Cl P f_butterylaw11_ShardLooks #[(.int .u64 a0), (.slice a1a a1n a1c), (.string a2), (.agg #[(.int .i64 a3_0), (.int .u64 a3_1), (.int .i64 a3_2), (.int .u64 a3_3)])] w R := cl_of mixed (congrFun (congrFun (congrFun (congrFun (congrFun (congrFun (congrFun (congrFun (congrFun (congrFun (congrFun e_butterylaw11_ShardLooks a0) a1a) a1n) a1c) a2) a3_0) a3_1) a3_2) a3_3) w) R) h

def h_butterylaw11_ShardUpdates : H := (.s (.reg []) (.s (.reg []) (.s (.reg []) (.s (.reg []) (.s (.s (.reg [false, false, false, true, false, false, false, true, false, false, false, true, false, false, false, false, false, true, false, false, false, false]) (.s (.s (.reg [false, false, true, false, false, false]) .z) .z)) (.s (.s (.reg []) (.one (.loop [(10, (.one (.int .i64)))] (.s (.s (.reg []) (.s .z .z)) (.s (.one (.any #[[], [], [], [1, 2], [1, 2, 3], [1, 2, 3, 4], [], [], [6, 7], [6, 7, 8], [6, 7, 8, 9], [0, 1, 2, 3, 4, 5, 6, 7, 8, 9, 10]] (.rd 0 (.rd 1 (.rd 2 (.rd 3 (.rd 4 (.rd 5 (.rd 6 (.rd 7 (.rd 8 (.rd 9 (.rd 10 (.ef 11 .fin .no)))))))))))))) (.reg [])))))) (.s (.reg []) (.s (.reg []) (.s (.reg []) (.s (.reg []) (.s (.s (.reg [false, false, false, false, false, true, false, false, false, false, false]) (.s (.s (.reg []) .z) .z)) (.s (.s (.reg []) (.one (.loop [(15, (.one (.int .i64)))] (.s (.s (.reg []) (.s .z .z)) (.s (.one (.s (.reg []) (.cut [] (.s (.reg [false, false, false, true, false, false, false, false, false]) (.s (.reg []) .z)) (.s (.any #[[], [], [0, 1], [0, 1, 2], [], [0, 1, 2, 3, 4], [0, 1, 2, 3, 4, 5]] (.rd 0 (.rd 1 (.rd 2 (.rd 3 (.rd 4 (.ef 5 (.rd 6 .fin) .no))))))) (.s (.any #[[], [0], [0, 1], [0, 1, 2], [0, 1, 2], [0, 1, 2, 3, 4], [0, 1, 2, 3, 4, 5], [0, 1, 2, 3, 4, 5, 6], [0, 1, 2], [0, 1, 2, 8], [0, 1, 2, 3, 4, 5, 6, 7, 8, 9], [0, 1, 2, 3, 4, 5, 6, 7, 8, 9, 10], [0, 1, 2, 3, 4, 5, 6, 7, 8, 9, 10, 11], [0, 1, 2, 3, 4, 5, 6, 7, 8, 9, 10, 11, 12], [0, 1, 2, 3, 4, 5, 6, 7, 8, 9, 10, 11], [0, 1, 2, 3, 4, 5, 6, 7, 8, 9, 10, 11], [0, 1, 2, 3, 4, 5, 6, 7, 8, 9, 10, 11, 14, 15], [0, 1, 2, 3, 4, 5, 6, 7, 8, 9, 10, 11, 14, 15, 16], [0, 1, 2, 3, 4, 5, 6, 7, 8, 9, 10, 11, 14, 15, 16, 17], [0, 1, 2, 3, 4, 5, 6, 7, 8, 9, 10, 11, 14, 15, 16, 17, 18], [0, 1, 2, 3, 4, 5, 6, 7, 8, 9, 10, 11], [0, 1, 2, 3, 4, 5, 6, 7, 8, 9, 10, 11, 20], [0, 1, 2, 3, 4, 5, 6, 7, 8, 9, 10, 11, 20, 21], [0, 1, 2, 3, 4, 5, 6, 7, 8, 9, 10, 11, 14, 15, 16, 17, 18, 19, 20, 21, 22], [0, 1, 2, 3, 4, 5, 6, 7, 8, 9, 10, 11, 12, 13, 14, 15, 16, 17, 18, 19, 20, 21, 22, 23], [0, 1, 2, 3, 4, 5, 6, 7, 8, 9, 10, 11, 12, 13, 14, 15, 16, 17, 18, 19, 20, 21, 22, 23, 24], [0, 1, 2, 3, 4, 5, 6, 7, 8, 9, 10, 11, 12, 13, 14, 15, 16, 17, 18, 19, 20, 21, 22, 23, 24, 25]] (.rd 0 (.rd 1 (.rd 2 (.sp 116 (.rd 3 (.rd 4 (.rd 5 (.rd 6 (.rd 7 (.rd 8 (.rd 9 (.rd 10 (.rd 11 (.sp 125 (.rd 12 (.rd 13 (.rd 14 (.rd 15 (.rd 16 (.rd 17 (.rd 18 (.rd 19 (.rd 20 (.rd 21 (.rd 22 (.rd 23 (.rd 24 (.rd 25 (.rd 26 .fin)))))))))))))))))))))))))))))) (.s (.s (.reg []) .z) .z)))))) (.reg [])))))) (.s (.reg [false, false, false, true, false, false, false, false, false, false]) .z)))))))))))))
def c_butterylaw11_ShardUpdates (a0 : Int) (a1a : Option Addr) (a1n a1c : Nat) (a2_0 : ByteArray) (a2_1a : Option Addr) (a2_1n a2_1c : Nat) (a2_2 : Int) (a2_3 : Int) (a2_4 : Int) (a2_5 : Int) (a2_6 : Int) (a2_7 : Bool) (a2_8 : Bool) (a2_9 : Bool) (w : World) (R : Value → World → Prop) : Prop :=
 ∀ (b1 : Nat) (w2 : World), b1 = Array.size (World.heap w) → w2 = World.alloc w (.cells #[(.string a2_0), (.slice a2_1a a2_1n a2_1c), (.int .u32 a2_2), (.int .i64 a2_3), (.int .u64 a2_4), (.int .i64 a2_5), (.int .u64 a2_6), (.bool a2_7), (.bool a2_8), (.bool a2_9)] T_api_Item) → 
 Cl P f_butterylaw11_awake #[] w2 (fun (u3 : Value) (w4 : World) => ∃ x5 : Bool, u3 = (.bool x5) ∧ 
 Cl P f_butterylaw11_Few #[(.slice a1a a1n a1c)] w4 (fun (u6 : Value) (w7 : World) => ∃ x8 : Bool, u6 = (.bool x8) ∧ 
 Cl P f_shard_New #[(.int .u64 a0), (.int .i64 (2000 : Int)), (.int .i64 (3 : Int))] w7 (fun (u9 : Value) (w10 : World) => ∃ x11 : Option Addr, u9 = (.pointer x11) ∧ 
 (bif (!x5) then 
 (bif x5 then 
 R (.bool (!(Option.isNone x11))) w10 else
 
 R (.bool false) w10) else
 (bif (!x8) then 
 (bif x5 then 
 R (.bool (!(Option.isNone x11))) w10 else
 
 R (.bool false) w10) else
 (bif (Option.isNone x11) then 
 (bif x5 then 
 R (.bool (!(Option.isNone x11))) w10 else
 
 R (.bool false) w10) else
 ∃ x12 : ByteArray, World.cell? w10 (Addr.add (Addr.mk b1 0 none) 0) = some (.string x12) ∧ (bif (decide (((ByteArray.size x12 : Nat) : Int) > (300 : Int))) then 
 (bif x5 then 
 R (.bool (!(Option.isNone x11))) w10 else
 
 R (.bool false) w10) else
 ∃ (x13a : Option Addr) (x13n x13c : Nat), World.cell? w10 (Addr.add (Addr.mk b1 0 none) 1) = some (.slice x13a x13n x13c) ∧ 
 (bif (decide (((x13n : Nat) : Int) > (3000 : Int))) then
 (bif x5 then 
 R (.bool (!(Option.isNone x11))) w10 else
 
 R (.bool false) w10) else
 
 ∃ (I14 : List Value → World → Prop) (m15 : List Value → World → Nat), (I14 [(.int .i64 (0 : Int))] w10) ∧
 ∀ (vs16 : List Value) (w17 : World), I14 vs16 w17 → ∃ x18 : Int, vs16 = [(.int .i64 x18)] ∧ 
 (bif (decide (x18 < ((a1n : Nat) : Int))) then
 ∀ w19 : World, w19 = World.drew w17 → ∃ a20 : Addr, a1a = some a20 ∧ 0 ≤ x18 ∧ x18 < ((a1n : Nat) : Int) ∧ ∃ x21 : ByteArray, ∃ (x22a : Option Addr) (x22n x22c : Nat), ∃ x23 : Int, ∃ x24 : Int, ∃ x25 : Int, ∃ x26 : Int, ∃ x27 : Int, ∃ x28 : Bool, ∃ x29 : Bool, ∃ x30 : Bool, SpanAt w19 (Addr.add (Addr.add a20 (Int.toNat x18 * 15)) 1) [(.string x21), (.slice x22a x22n x22c), (.int .u32 x23), (.int .i64 x24), (.int .u64 x25), (.int .i64 x26), (.int .u64 x27), (.bool x28), (.bool x29), (.bool x30)] ∧ ∃ a31 : Addr, a1a = some a31 ∧ 0 ≤ x18 ∧ x18 < ((a1n : Nat) : Int) ∧ ∃ x32 : Int, ∃ x33 : Int, ∃ x34 : Int, ∃ x35 : Int, SpanAt w19 (Addr.add (Addr.add a31 (Int.toNat x18 * 15)) 11) [(.int .i64 x32), (.int .u64 x33), (.int .i64 x34), (.int .u64 x35)] ∧ Cl P f_shard_Shard_Store #[(.pointer x11), (.agg #[(.string x21), (.slice x22a x22n x22c), (.int .u32 x23), (.int .i64 x24), (.int .u64 x25), (.int .i64 x26), (.int .u64 x27), (.bool x28), (.bool x29), (.bool x30)]), (.agg #[(.int .i64 x32), (.int .u64 x33), (.int .i64 x34), (.int .u64 x35)])] w19 (fun (u36 : Value) (w37 : World) => ∃ x38 : Int, u36 = (.int .i64 x38) ∧ 
 
 I14 [(.int .i64 (IntKind.i64.wrap (x18 + (1 : Int))))] w37 ∧ m15 [(.int .i64 (IntKind.i64.wrap (x18 + (1 : Int))))] w37 < m15 vs16 w17) else
 Cl P f_shard_Shard_Used #[(.pointer x11)] w17 (fun (u39 : Value) (w40 : World) => ∃ x41 : Int, u39 = (.int .i64 x41) ∧ 
 Cl P f_butterylaw11_all #[(.pointer x11), (.int .i64 (1000 : Int))] w40 (fun (u42 : Value) (w43 : World) => ∃ (x44a : Option Addr) (x44n x44c : Nat), u42 = (.slice x44a x44n x44c) ∧ 
 ∃ x45 : ByteArray, ∃ (x46a : Option Addr) (x46n x46c : Nat), ∃ x47 : Int, ∃ x48 : Int, ∃ x49 : Int, ∃ x50 : Int, ∃ x51 : Int, ∃ x52 : Bool, ∃ x53 : Bool, ∃ x54 : Bool, SpanAt w43 (Addr.mk b1 0 none) [(.string x45), (.slice x46a x46n x46c), (.int .u32 x47), (.int .i64 x48), (.int .u64 x49), (.int .i64 x50), (.int .u64 x51), (.bool x52), (.bool x53), (.bool x54)] ∧ Cl P f_shard_Shard_Update #[(.pointer x11), (.agg #[(.string x45), (.slice x46a x46n x46c), (.int .u32 x47), (.int .i64 x48), (.int .u64 x49), (.int .i64 x50), (.int .u64 x51), (.bool x52), (.bool x53), (.bool x54)])] w43 (fun (u55 : Value) (w56 : World) => ∃ x57 : Int, u55 = (.int .i64 x57) ∧ 
 Cl P f_butterylaw11_all #[(.pointer x11), (.int .i64 (1000 : Int))] w56 (fun (u58 : Value) (w59 : World) => ∃ (x60a : Option Addr) (x60n x60c : Nat), u58 = (.slice x60a x60n x60c) ∧ 
 Cl P f_shard_Shard_Used #[(.pointer x11)] w59 (fun (u61 : Value) (w62 : World) => ∃ x63 : Int, u61 = (.int .i64 x63) ∧ (bif (x63 != x41) then 
 
 R (.bool false) w62 else
 
 (bif (((x44n : Nat) : Int) != ((x60n : Nat) : Int)) then
 
 R (.bool false) w62 else
 
 ∃ (I64 : List Value → World → Prop) (m65 : List Value → World → Nat), (I64 [(.int .i64 (0 : Int))] w62) ∧
 ∀ (vs66 : List Value) (w67 : World), I64 vs66 w67 → ∃ x68 : Int, vs66 = [(.int .i64 x68)] ∧ 
 (bif (decide (x68 < ((x60n : Nat) : Int))) then
 ∃ a69 : Addr, x44a = some a69 ∧ 0 ≤ x68 ∧ x68 < ((x44n : Nat) : Int) ∧ ∃ x70 : ByteArray, ∃ (x71a : Option Addr) (x71n x71c : Nat), ∃ x72 : Int, ∃ x73 : Int, ∃ x74 : Int, ∃ x75 : Int, ∃ x76 : Int, ∃ x77 : Bool, ∃ x78 : Bool, ∃ x79 : Bool, SpanAt w67 (Addr.add a69 (Int.toNat x68 * 10)) [(.string x70), (.slice x71a x71n x71c), (.int .u32 x72), (.int .i64 x73), (.int .u64 x74), (.int .i64 x75), (.int .u64 x76), (.bool x77), (.bool x78), (.bool x79)] ∧ ∀ (b80 : Nat) (w81 : World), b80 = Array.size (World.heap w67) → w81 = World.alloc w67 (.cells #[(.string (⟨#[]⟩ : ByteArray)), (.slice none 0 0), (.int .u32 (0 : Int)), (.int .i64 (0 : Int)), (.int .u64 (0 : Int)), (.int .i64 (0 : Int)), (.int .u64 (0 : Int)), (.bool false), (.bool false), (.bool false)] T_api_Item) → Wr w81 (Addr.mk b80 0 none) 10 ∧ ∀ w82 : World, w82 = setSpan w81 (Addr.mk b80 0 none) [(.string x70), (.slice x71a x71n x71c), (.int .u32 x72), (.int .i64 x73), (.int .u64 x74), (.int .i64 x75), (.int .u64 x76), (.bool x77), (.bool x78), (.bool x79)] → 
 ∃ I83 : List Value → World → Prop, ((bif (x57 == (0 : Int)) then ∃ x86 : ByteArray, World.cell? w82 (Addr.add (Addr.mk b80 0 none) 0) = some (.string x86) ∧ ∃ x87 : ByteArray, World.cell? w82 (Addr.add (Addr.mk b1 0 none) 0) = some (.string x87) ∧ 
 (bif (seq x86 x87) then
 ∃ x88 : ByteArray, ∃ (x89a : Option Addr) (x89n x89c : Nat), ∃ x90 : Int, ∃ x91 : Int, ∃ x92 : Int, ∃ x93 : Int, ∃ x94 : Int, ∃ x95 : Bool, ∃ x96 : Bool, ∃ x97 : Bool, SpanAt w82 (Addr.mk b1 0 none) [(.string x88), (.slice x89a x89n x89c), (.int .u32 x90), (.int .i64 x91), (.int .u64 x92), (.int .i64 x93), (.int .u64 x94), (.bool x95), (.bool x96), (.bool x97)] ∧ Wr w82 (Addr.mk b80 0 none) 10 ∧ ∀ w98 : World, w98 = setSpan w82 (Addr.mk b80 0 none) [(.string x88), (.slice x89a x89n x89c), (.int .u32 x90), (.int .i64 x91), (.int .u64 x92), (.int .i64 x93), (.int .u64 x94), (.bool x95), (.bool x96), (.bool x97)] → 
 I83 [] w98 else
 I83 [] w82) else
 
 I83 [] w82)) ∧
 ∀ (vs84 : List Value) (w85 : World), I83 vs84 w85 → vs84 = [] → ∀ w99 : World, w99 = World.drew w85 → ∃ a100 : Addr, x60a = some a100 ∧ 0 ≤ x68 ∧ x68 < ((x60n : Nat) : Int) ∧ ∃ x101 : ByteArray, ∃ (x102a : Option Addr) (x102n x102c : Nat), ∃ x103 : Int, ∃ x104 : Int, ∃ x105 : Int, ∃ x106 : Int, ∃ x107 : Int, ∃ x108 : Bool, ∃ x109 : Bool, ∃ x110 : Bool, SpanAt w99 (Addr.add a100 (Int.toNat x68 * 10)) [(.string x101), (.slice x102a x102n x102c), (.int .u32 x103), (.int .i64 x104), (.int .u64 x105), (.int .i64 x106), (.int .u64 x107), (.bool x108), (.bool x109), (.bool x110)] ∧ ∃ x111 : ByteArray, ∃ (x112a : Option Addr) (x112n x112c : Nat), ∃ x113 : Int, ∃ x114 : Int, ∃ x115 : Int, ∃ x116 : Int, ∃ x117 : Int, ∃ x118 : Bool, ∃ x119 : Bool, ∃ x120 : Bool, SpanAt w99 (Addr.mk b80 0 none) [(.string x111), (.slice x112a x112n x112c), (.int .u32 x113), (.int .i64 x114), (.int .u64 x115), (.int .i64 x116), (.int .u64 x117), (.bool x118), (.bool x119), (.bool x120)] ∧ Cl P f_butteryref11_Same #[(.agg #[(.string x101), (.slice x102a x102n x102c), (.int .u32 x103), (.int .i64 x104), (.int .u64 x105), (.int .i64 x106), (.int .u64 x107), (.bool x108), (.bool x109), (.bool x110)]), (.agg #[(.string x111), (.slice x112a x112n x112c), (.int .u32 x113), (.int .i64 x114), (.int .u64 x115), (.int .i64 x116), (.int .u64 x117), (.bool x118), (.bool x119), (.bool x120)])] w99 (fun (u121 : Value) (w122 : World) => ∃ x123 : Bool, u121 = (.bool x123) ∧ 
 ∀ w124 : World, w124 = World.drew w122 → (bif (!x123) then 
 
 R (.bool false) w124 else
 ∃ a125 : Addr, x60a = some a125 ∧ 0 ≤ x68 ∧ x68 < ((x60n : Nat) : Int) ∧ ∃ x126 : ByteArray, World.cell? w124 (Addr.add (Addr.add a125 (Int.toNat x68 * 10)) 0) = some (.string x126) ∧ ∃ x127 : ByteArray, World.cell? w124 (Addr.add (Addr.mk b1 0 none) 0) = some (.string x127) ∧ (bif (seq x126 x127) then ∃ a128 : Addr, x44a = some a128 ∧ 0 ≤ x68 ∧ x68 < ((x44n : Nat) : Int) ∧ ∃ (x129a : Option Addr) (x129n x129c : Nat), World.cell? w124 (Addr.add (Addr.add a128 (Int.toNat x68 * 10)) 1) = some (.slice x129a x129n x129c) ∧ ∃ (x130a : Option Addr) (x130n x130c : Nat), World.cell? w124 (Addr.add (Addr.mk b1 0 none) 1) = some (.slice x130a x130n x130c) ∧ 
 (bif (!((x57 == (0 : Int)) == (((x129n : Nat) : Int) == ((x130n : Nat) : Int)))) then
 
 R (.bool false) w124 else
 
 I64 [(.int .i64 (IntKind.i64.wrap (x68 + (1 : Int))))] w124 ∧ m65 [(.int .i64 (IntKind.i64.wrap (x68 + (1 : Int))))] w124 < m65 vs66 w67) else
 
 
 I64 [(.int .i64 (IntKind.i64.wrap (x68 + (1 : Int))))] w124 ∧ m65 [(.int .i64 (IntKind.i64.wrap (x68 + (1 : Int))))] w124 < m65 vs66 w67))) else
 (bif (x57 != (6 : Int)) then 
 R (.bool true) w67 else
 
 R (.bool (((x60n : Nat) : Int) == ((x44n : Nat) : Int))) w67))))))))))))))))))
theorem e_butterylaw11_ShardUpdates : (fun (a0 : Int) (a1a : Option Addr) (a1n a1c : Nat) (a2_0 : ByteArray) (a2_1a : Option Addr) (a2_1n a2_1c : Nat) (a2_2 : Int) (a2_3 : Int) (a2_4 : Int) (a2_5 : Int) (a2_6 : Int) (a2_7 : Bool) (a2_8 : Bool) (a2_9 : Bool) (w : World) (R : Value → World → Prop) => vf P f_butterylaw11_ShardUpdates h_butterylaw11_ShardUpdates [(.int .u64 a0), (.slice a1a a1n a1c), (.agg #[(.string a2_0), (.slice a2_1a a2_1n a2_1c), (.int .u32 a2_2), (.int .i64 a2_3), (.int .u64 a2_4), (.int .i64 a2_5), (.int .u64 a2_6), (.bool a2_7), (.bool a2_8), (.bool a2_9)])] w R) = c_butterylaw11_ShardUpdates := by kernel_rfl
theorem cl_butterylaw11_ShardUpdates {a0 : Int} {a1a : Option Addr} {a1n a1c : Nat} {a2_0 : ByteArray} {a2_1a : Option Addr} {a2_1n a2_1c : Nat} {a2_2 : Int} {a2_3 : Int} {a2_4 : Int} {a2_5 : Int} {a2_6 : Int} {a2_7 : Bool} {a2_8 : Bool} {a2_9 : Bool} {w : World} {R : Value → World → Prop} (h : c_butterylaw11_ShardUpdates a0 a1a a1n a1c a2_0 a2_1a a2_1n a2_1c a2_2 a2_3 a2_4 a2_5 a2_6 a2_7 a2_8 a2_9 w R) : Cl P f_butterylaw11_ShardUpdates #[(.int .u64 a0), (.slice a1a a1n a1c), (.agg #[(.string a2_0), (.slice a2_1a a2_1n a2_1c), (.int .u32 a2_2), (.int .i64 a2_3), (.int .u64 a2_4), (.int .i64 a2_5), (.int .u64 a2_6), (.bool a2_7), (.bool a2_8), (.bool a2_9)])] w R := cl_of mixed (congrFun (congrFun (congrFun (congrFun (congrFun (congrFun (congrFun (congrFun (congrFun (congrFun (congrFun (congrFun (congrFun (congrFun (congrFun (congrFun (congrFun (congrFun e_butterylaw11_ShardUpdates a0) a1a) a1n) a1c) a2_0) a2_1a) a2_1n) a2_1c) a2_2) a2_3) a2_4) a2_5) a2_6) a2_7) a2_8) a2_9) w) R) h

def h_butterylaw11_awake : H := (.s (.reg []) (.s (.reg []) (.s (.s (.reg []) (.s (.s (.reg []) .z) .z)) (.s (.reg []) (.s (.reg []) (.s (.reg []) (.s (.reg []) (.s (.reg []) (.s (.reg []) (.s (.reg []) (.s (.reg []) (.s (.reg []) (.s (.reg [false, false, false, true, false, false, false, true, false, false, false, true, false, false, false, true, false, false, false, true, false, false, false, false, true, false, false, false, false, false, true, false, false, false, false]) .z)))))))))))))
def c_butterylaw11_awake  (w : World) (R : Value → World → Prop) : Prop :=
 
 Cl P f_shard_New #[(.int .u64 (1 : Int)), (.int .i64 (128 : Int)), (.int .i64 (1 : Int))] w (fun (u1 : Value) (w2 : World) => ∃ x3 : Option Addr, u1 = (.pointer x3) ∧ 
 
 (bif (Option.isNone x3) then
 
 R (.bool false) w2 else
 ∀ (b4 : Nat) (w5 : World), b4 = Array.size (World.heap w2) → w5 = World.alloc w2 (.cells #[(.int .i64 (0 : Int)), (.int .u64 (0 : Int)), (.int .i64 (0 : Int)), (.int .u64 (0 : Int))] T_api_Env) → Wr w5 (Addr.mk b4 0 none) 4 ∧ ∀ w6 : World, w6 = setSpan w5 (Addr.mk b4 0 none) [(.int .i64 (1 : Int)), (.int .u64 (0 : Int)), (.int .i64 (0 : Int)), (.int .u64 (0 : Int))] → 
 ∃ x7 : Int, ∃ x8 : Int, ∃ x9 : Int, ∃ x10 : Int, SpanAt w6 (Addr.mk b4 0 none) [(.int .i64 x7), (.int .u64 x8), (.int .i64 x9), (.int .u64 x10)] ∧ Cl P f_shard_Shard_Store #[(.pointer x3), (.agg #[(.string (⟨#[97]⟩ : ByteArray)), (.slice none 0 0), (.int .u32 (0 : Int)), (.int .i64 (0 : Int)), (.int .u64 (0 : Int)), (.int .i64 (0 : Int)), (.int .u64 (0 : Int)), (.bool false), (.bool false), (.bool false)]), (.agg #[(.int .i64 x7), (.int .u64 x8), (.int .i64 x9), (.int .u64 x10)])] w6 (fun (u11 : Value) (w12 : World) => ∃ x13 : Int, u11 = (.int .i64 x13) ∧ 
 ∃ x14 : Int, ∃ x15 : Int, ∃ x16 : Int, ∃ x17 : Int, SpanAt w12 (Addr.mk b4 0 none) [(.int .i64 x14), (.int .u64 x15), (.int .i64 x16), (.int .u64 x17)] ∧ Cl P f_shard_Shard_Store #[(.pointer x3), (.agg #[(.string (⟨#[98]⟩ : ByteArray)), (.slice none 0 0), (.int .u32 (0 : Int)), (.int .i64 (0 : Int)), (.int .u64 (0 : Int)), (.int .i64 (0 : Int)), (.int .u64 (0 : Int)), (.bool false), (.bool false), (.bool false)]), (.agg #[(.int .i64 x14), (.int .u64 x15), (.int .i64 x16), (.int .u64 x17)])] w12 (fun (u18 : Value) (w19 : World) => ∃ x20 : Int, u18 = (.int .i64 x20) ∧ 
 Cl P f_shard_Shard_Used #[(.pointer x3)] w19 (fun (u21 : Value) (w22 : World) => ∃ x23 : Int, u21 = (.int .i64 x23) ∧ 
 ∃ x24 : Int, ∃ x25 : Int, ∃ x26 : Int, ∃ x27 : Int, SpanAt w22 (Addr.mk b4 0 none) [(.int .i64 x24), (.int .u64 x25), (.int .i64 x26), (.int .u64 x27)] ∧ Cl P f_shard_Shard_Store #[(.pointer x3), (.agg #[(.string (⟨#[99]⟩ : ByteArray)), (.slice none 0 0), (.int .u32 (0 : Int)), (.int .i64 (0 : Int)), (.int .u64 (0 : Int)), (.int .i64 (0 : Int)), (.int .u64 (0 : Int)), (.bool false), (.bool false), (.bool false)]), (.agg #[(.int .i64 x24), (.int .u64 x25), (.int .i64 x26), (.int .u64 x27)])] w22 (fun (u28 : Value) (w29 : World) => ∃ x30 : Int, u28 = (.int .i64 x30) ∧ 
 Cl P f_shard_Shard_Use #[(.pointer x3), (.string (⟨#[99]⟩ : ByteArray))] w29 (fun (u31 : Value) (w32 : World) => u31 = (.tuple #[]) ∧ 
 Cl P f_shard_Shard_Use #[(.pointer x3), (.string (⟨#[99]⟩ : ByteArray))] w32 (fun (u33 : Value) (w34 : World) => u33 = (.tuple #[]) ∧ 
 ∃ x35 : Int, ∃ x36 : Int, ∃ x37 : Int, ∃ x38 : Int, SpanAt w34 (Addr.mk b4 0 none) [(.int .i64 x35), (.int .u64 x36), (.int .i64 x37), (.int .u64 x38)] ∧ Cl P f_shard_Shard_Store #[(.pointer x3), (.agg #[(.string (⟨#[99]⟩ : ByteArray)), (.slice none 0 0), (.int .u32 (0 : Int)), (.int .i64 (0 : Int)), (.int .u64 (0 : Int)), (.int .i64 (0 : Int)), (.int .u64 (0 : Int)), (.bool false), (.bool false), (.bool false)]), (.agg #[(.int .i64 x35), (.int .u64 x36), (.int .i64 x37), (.int .u64 x38)])] w34 (fun (u39 : Value) (w40 : World) => ∃ x41 : Int, u39 = (.int .i64 x41) ∧ 
 Cl P f_shard_Shard_Drops #[(.pointer x3)] w40 (fun (u42 : Value) (w43 : World) => ∃ (x44a : Option Addr) (x44n x44c : Nat), u42 = (.slice x44a x44n x44c) ∧ 
 (bif (x13 == (0 : Int)) then (bif (x20 == (0 : Int)) then (bif (x30 == (8 : Int)) then (bif (x41 == (0 : Int)) then (bif (x23 == (128 : Int)) then (bif (((x44n : Nat) : Int) == (1 : Int)) then ∃ a45 : Addr, x44a = some a45 ∧ 0 ≤ (0 : Int) ∧ (0 : Int) < ((x44n : Nat) : Int) ∧ ∃ x46 : ByteArray, World.cell? w43 (Addr.add a45 (Int.toNat (0 : Int) * 1)) = some (.string x46) ∧ (bif (seq x46 (⟨#[97]⟩ : ByteArray)) then Cl P f_shard_Shard_Len #[(.pointer x3)] w43 (fun (u47 : Value) (w48 : World) => ∃ x49 : Int, u47 = (.int .i64 x49) ∧ 
 R (.bool (x49 == (2 : Int))) w48) else
 
 R (.bool false) w43) else
 
 R (.bool false) w43) else
 
 R (.bool false) w43) else
 
 R (.bool false) w43) else
 
 R (.bool false) w43) else
 
 R (.bool false) w43) else
 
 R (.bool false) w43)))))))))))
theorem e_butterylaw11_awake : (fun  (w : World) (R : Value → World → Prop) => vf P f_butterylaw11_awake h_butterylaw11_awake [] w R) = c_butterylaw11_awake := by kernel_rfl
theorem cl_butterylaw11_awake  {w : World} {R : Value → World → Prop} (h : c_butterylaw11_awake  w R) : Cl P f_butterylaw11_awake #[] w R := cl_of mixed (congrFun (congrFun e_butterylaw11_awake w) R) h

def h_butterylaw11_Few : H := (.s (.reg []) (.s (.s (.reg []) (.s (.s (.reg []) .z) .z)) (.s (.s (.reg []) (.one (.loop [(3, (.one (.int .i64)))] (.s (.s (.reg []) (.s .z .z)) (.s (.one (.s (.reg [false, false, false, false, false, false, false, false, false, true, false, false, false, false, false, false, false, false]) (.s (.s (.reg []) .z) .z))) (.reg [])))))) (.s (.reg []) .z))))
def c_butterylaw11_Few (a0a : Option Addr) (a0n a0c : Nat) (w : World) (R : Value → World → Prop) : Prop :=
 
 
 (bif (decide (((a0n : Nat) : Int) > (80 : Int))) then
 
 R (.bool false) w else
 
 ∃ (I1 : List Value → World → Prop) (m2 : List Value → World → Nat), (I1 [(.int .i64 (0 : Int))] w) ∧
 ∀ (vs3 : List Value) (w4 : World), I1 vs3 w4 → ∃ x5 : Int, vs3 = [(.int .i64 x5)] ∧ 
 (bif (decide (x5 < ((a0n : Nat) : Int))) then
 ∃ a6 : Addr, a0a = some a6 ∧ 0 ≤ x5 ∧ x5 < ((a0n : Nat) : Int) ∧ ∃ x7 : ByteArray, World.cell? w4 (Addr.add (Addr.add (Addr.add a6 (Int.toNat x5 * 15)) 1) 0) = some (.string x7) ∧ (bif (decide (((ByteArray.size x7 : Nat) : Int) > (300 : Int))) then 
 
 R (.bool false) w4 else
 ∃ a8 : Addr, a0a = some a8 ∧ 0 ≤ x5 ∧ x5 < ((a0n : Nat) : Int) ∧ ∃ (x9a : Option Addr) (x9n x9c : Nat), World.cell? w4 (Addr.add (Addr.add (Addr.add a8 (Int.toNat x5 * 15)) 1) 1) = some (.slice x9a x9n x9c) ∧ 
 (bif (decide (((x9n : Nat) : Int) > (3000 : Int))) then
 
 R (.bool false) w4 else
 
 I1 [(.int .i64 (IntKind.i64.wrap (x5 + (1 : Int))))] w4 ∧ m2 [(.int .i64 (IntKind.i64.wrap (x5 + (1 : Int))))] w4 < m2 vs3 w4)) else
 
 R (.bool true) w4))
theorem e_butterylaw11_Few : (fun (a0a : Option Addr) (a0n a0c : Nat) (w : World) (R : Value → World → Prop) => vf P f_butterylaw11_Few h_butterylaw11_Few [(.slice a0a a0n a0c)] w R) = c_butterylaw11_Few := by kernel_rfl
theorem cl_butterylaw11_Few {a0a : Option Addr} {a0n a0c : Nat} {w : World} {R : Value → World → Prop} (h : c_butterylaw11_Few a0a a0n a0c w R) : Cl P f_butterylaw11_Few #[(.slice a0a a0n a0c)] w R := cl_of mixed (congrFun (congrFun (congrFun (congrFun (congrFun e_butterylaw11_Few a0a) a0n) a0c) w) R) h

def h_butterylaw11_all : H := (.s (.reg []) (.s (.reg []) (.s (.reg []) (.s (.s (.reg [false, false, false, true, false, false]) (.s (.s (.reg []) .z) .z)) (.s (.s (.reg []) (.one (.rf [(.agg [.str, .slice, (.int .u32), (.int .i64), (.int .u64), (.int .i64), (.int .u64), .bool, .bool, .bool])] (.reg []) (.one (.s (.reg []) (.s (.reg []) (.s .z .z))))))) (.s (.reg []) .z))))))
def c_butterylaw11_all (a0 : Option Addr) (a1 : Int) (w : World) (R : Value → World → Prop) : Prop :=
 ∀ (b1 : Nat) (w2 : World), b1 = Array.size (World.heap w) → w2 = World.alloc w (.cells #[(.int .i64 a1)] T_int) → 
 ∀ (b3 : Nat) (w4 : World), b3 = Array.size (World.heap w2) → w4 = World.alloc w2 (.cells #[(.slice none 0 0)] T_s_api_Item) → 
 Cl P f_shard_Shard_All #[(.pointer a0)] w4 (fun (u5 : Value) (w6 : World) => ∃ x7 : Value, u5 = x7 ∧ 
 ∃ x8 : Int, World.cell? w6 (Addr.mk b1 0 none) = some (.int .i64 x8) ∧ (bif (decide (x8 < (1 : Int))) then 
 
 R (.slice none 0 0) w6 else
 ∃ c9 : Bool, isNilV x7 = some c9 ∧ (x7 ≠ .nilIface ∧ (∀ u v, x7 ≠ .iface u v)) ∧ 
 (bif c9 then
 
 R (.slice none 0 0) w6 else
 
 RfV x7 (fun (gf70 : FuncId) (fs71 cs72 : List Value) => entersB P gf70 = true ∧ ∀ (Lp14 : Loop → Prop) (lp13 : Loop) (D10 l11 : Nat) (w12 : World), D10 = Array.size (World.heap w6) → l11 = Array.size (World.heap w6) + 1 → w12 = World.alloc (World.alloc w6 (.deferred (some []))) (.loop lp13) → Lp14 lp13 → lp13.state = .ready → lp13.pending = none → (∀ (lp : Loop) (s : LoopState) (p : Option Code), Lp14 lp → Lp14 { lp with state := s, pending := p }) →
 (∀ (W15 : World) (lp16 : Loop) (xs17 : List Value) (R18 : Value → World → Prop), Lp14 lp16 → (World.heap W15)[l11]? = some (.loop lp16) → lp16.state = .ready → List.length xs17 = 1 → (∃ x21 : ByteArray, ∃ (x22a : Option Addr) (x22n x22c : Nat), ∃ x23 : Int, ∃ x24 : Int, ∃ x25 : Int, ∃ x26 : Int, ∃ x27 : Int, ∃ x28 : Bool, ∃ x29 : Bool, ∃ x30 : Bool, xs17 = [(.agg #[(.string x21), (.slice x22a x22n x22c), (.int .u32 x23), (.int .i64 x24), (.int .u64 x25), (.int .i64 x26), (.int .u64 x27), (.bool x28), (.bool x29), (.bool x30)])] ∧ ∀ (b31 : Nat) (w32 : World), b31 = Array.size (World.heap W15) → w32 = World.alloc W15 (.cells #[(.string (⟨#[]⟩ : ByteArray)), (.slice none 0 0), (.int .u32 (0 : Int)), (.int .i64 (0 : Int)), (.int .u64 (0 : Int)), (.int .i64 (0 : Int)), (.int .u64 (0 : Int)), (.bool false), (.bool false), (.bool false)] T_api_Item) → Wr w32 (Addr.mk b31 0 none) 10 ∧ ∀ w33 : World, w33 = setSpan w32 (Addr.mk b31 0 none) [(.string x21), (.slice x22a x22n x22c), (.int .u32 x23), (.int .i64 x24), (.int .u64 x25), (.int .i64 x26), (.int .u64 x27), (.bool x28), (.bool x29), (.bool x30)] → 
 ∃ lp35 : Loop, (World.heap w33)[l11]? = some (.loop lp35) ∧ lp35.state = .ready ∧ ∀ W34 : World, W34 = World.putObj w33 l11 (.loop { lp35 with state := .busy }) →
 ∃ (x36a : Option Addr) (x36n x36c : Nat), World.cell? W34 (Addr.mk b3 0 none) = some (.slice x36a x36n x36c) ∧ ∃ x37 : ByteArray, ∃ (x38a : Option Addr) (x38n x38c : Nat), ∃ x39 : Int, ∃ x40 : Int, ∃ x41 : Int, ∃ x42 : Int, ∃ x43 : Int, ∃ x44 : Bool, ∃ x45 : Bool, ∃ x46 : Bool, SpanAt W34 (Addr.mk b31 0 none) [(.string x37), (.slice x38a x38n x38c), (.int .u32 x39), (.int .i64 x40), (.int .u64 x41), (.int .i64 x42), (.int .u64 x43), (.bool x44), (.bool x45), (.bool x46)] ∧ ∀ (b47 : Nat) (w48 : World), b47 = Array.size (World.heap W34) → w48 = World.alloc W34 (.cells #[(.string x37), (.slice x38a x38n x38c), (.int .u32 x39), (.int .i64 x40), (.int .u64 x41), (.int .i64 x42), (.int .u64 x43), (.bool x44), (.bool x45), (.bool x46)] T_api_Item) → ∃ ys49 : List Value, RowAt w48 (some (Addr.mk b47 0 none)) (1 * 10) ys49 ∧ OneC ys49 ∧ (x36n + 1 ≤ x36c → 0 < List.length ys49 → ∃ p, x36a = some p ∧ Wr w48 (p.add (x36n * 10)) (List.length ys49)) ∧ (x36c < x36n + 1 → Builtin.nextslicecap (x36n + 1) x36c * 88 ≤ 2 ^ 48 ∧ ∃ xs, RowAt w48 x36a (x36n * 10) xs) ∧ ∀ (sa50 : Option Addr) (c51 : Nat) (w52 : World), AppR T_api_Item 10 [(.string (⟨#[]⟩ : ByteArray)), (.slice none 0 0), (.int .u32 (0 : Int)), (.int .i64 (0 : Int)), (.int .u64 (0 : Int)), (.int .i64 (0 : Int)), (.int .u64 (0 : Int)), (.bool false), (.bool false), (.bool false)] x36a x36n x36c 1 ys49 w48 sa50 c51 w52 → ((∃ u, World.cell? w52 (Addr.mk b3 0 none) = some u) ∧ World.frozen? w52 (Addr.mk b3 0 none) = false) ∧ ∀ w53 : World, w53 = World.setCell w52 (Addr.mk b3 0 none) (.slice sa50 (x36n + 1) c51) → 
 ∃ (x54a : Option Addr) (x54n x54c : Nat), World.cell? w53 (Addr.mk b3 0 none) = some (.slice x54a x54n x54c) ∧ ∃ x55 : Int, World.cell? w53 (Addr.mk b1 0 none) = some (.int .i64 x55) ∧ 
 (bif (((x54n : Nat) : Int) == x55) then
 ∃ lp56 : Loop, (World.heap w53)[l11]? = some (.loop lp56) ∧ ∀ w57 : World, w57 = World.putObj w53 l11 (.loop { lp56 with state := .done, pending := (some (.exit 0)) }) → R18 (.bool false) w57 else
 ∃ lp58 : Loop, (World.heap w53)[l11]? = some (.loop lp58) ∧ ∀ w59 : World, w59 = World.putObj w53 l11 (.loop { lp58 with state := .ready, pending := none }) → R18 (.bool true) w59)) → Yl P l11 (List.toArray xs17) W15 R18) →
 Cl P gf70 (List.toArray (fs71 ++ [Value.func (.yield l11) #[] #[]] ++ cs72)) w12 (fun (_ : Value) (w61 : World) => ∃ lp60 : Loop, (World.heap w61)[l11]? = some (.loop lp60) ∧ lp60.state ≠ .busy ∧ ∀ w62 : World, w62 = World.putObj w61 l11 (.loop { lp60 with state := .exhausted }) →
 pendR lp60.pending (∃ (x64a : Option Addr) (x64n x64c : Nat), World.cell? w62 (Addr.mk b3 0 none) = some (.slice x64a x64n x64c) ∧ 
 (World.heap w62)[D10]? = some (.deferred (some [])) ∧ ∀ w65 : World, w65 = World.putObj w62 D10 (.deferred none) → R (.slice x64a x64n x64c) w65) ((World.heap w62)[D10]? = some (.deferred (some [])) ∧ ∀ w66 : World, w66 = World.putObj w62 D10 (.deferred none) → R (.slice none 0 0) w66) (fun i67 => (bif Nat.beq i67 0 then ∃ (x68a : Option Addr) (x68n x68c : Nat), World.cell? w62 (Addr.mk b3 0 none) = some (.slice x68a x68n x68c) ∧ 
 (World.heap w62)[D10]? = some (.deferred (some [])) ∧ ∀ w69 : World, w69 = World.putObj w62 D10 (.deferred none) → R (.slice x68a x68n x68c) w69 else False)))))))
theorem e_butterylaw11_all : (fun (a0 : Option Addr) (a1 : Int) (w : World) (R : Value → World → Prop) => vf P f_butterylaw11_all h_butterylaw11_all [(.pointer a0), (.int .i64 a1)] w R) = c_butterylaw11_all := by kernel_rfl
theorem cl_butterylaw11_all {a0 : Option Addr} {a1 : Int} {w : World} {R : Value → World → Prop} (h : c_butterylaw11_all a0 a1 w R) : Cl P f_butterylaw11_all #[(.pointer a0), (.int .i64 a1)] w R := cl_of mixed (congrFun (congrFun (congrFun (congrFun e_butterylaw11_all a0) a1) w) R) h

end Go.Bty
