/- The conditions of functions of the program: what must hold ahead of a call, and that it is enough. -/
import Derived.Test.YtbjkbonnmeppoaaBtyNum
namespace Go.Bty
open Go
open Go.Proofs.Try renaming prog → P
set_option maxRecDepth 100000
def h_slab_Slab_Free : H := (.s (.reg []) (.s (.s (.any #[[], [0], [0, 1], [0, 1, 2], [], [0, 1, 2, 3, 4], [0, 1, 2, 3, 4, 5]] (.rd 0 (.rd 1 (.rd 2 (.rd 3 (.rd 4 (.rd 5 (.rd 6 .fin)))))))) (.s (.s (.reg []) .z) .z)) (.s (.any #[[], [0], [0, 1], [0, 1, 2], [], [0, 1, 2, 3, 4]] (.rd 0 (.rd 1 (.rd 2 (.rd 3 (.rd 4 (.ef 5 .fin .no))))))) (.s (.any #[[], [], [1], [], [], [4], [3], [3, 6], [3, 4, 5, 6, 7], [3, 4, 5, 6, 7, 8], [], [10], [10, 11], [3, 4, 5, 6, 7, 8, 9, 10, 11, 12], [0], [0, 14], [0, 1, 2, 3, 4, 5, 6, 7, 8, 9, 10, 11, 12, 13, 14, 15], [0, 1, 2, 3, 4, 5, 6, 7, 8, 9, 10, 11, 12, 13, 14, 15, 16]] (.rd 0 (.rd 1 (.rd 2 (.rd 3 (.rd 4 (.rd 5 (.rd 6 (.rd 7 (.rd 8 (.rd 9 (.rd 10 (.rd 11 (.rd 14 (.rd 15 (.ef 12 (.ef 13 (.rd 16 (.ef 17 .fin .no)) .no) .no)))))))))))))))) (.s (.any #[[], [0], [0, 1], [0, 1, 2], [], [4], [4, 5], [0, 1, 2, 3, 4, 5, 6], [0, 1, 2, 3, 4, 5, 6, 7], [0, 1, 2, 3, 4, 5, 6, 7, 8], [0, 1, 2, 3, 4, 5, 6, 7, 8, 9]] (.rd 0 (.rd 1 (.rd 2 (.rd 3 (.rd 4 (.rd 5 (.ef 6 (.rd 7 (.rd 8 (.rd 9 (.ef 10 .fin .no)))) .no)))))))) (.s (.reg []) .z))))))
def c_slab_Slab_Free (a0 : Option Addr) (a1_0 : Int) (a1_1 : Int) (w : World) (R : Value → World → Prop) : Prop :=
 ∀ (b1 : Nat) (w2 : World), b1 = Array.size (World.heap w) → w2 = World.alloc w (.cells #[(.int .i64 a1_0), (.int .i64 a1_1)] T_api_Chunk) → 
 ∀ w3 : World, w3 = World.drew w2 → ∃ p4 : Addr, a0 = some p4 ∧ ∃ x5 : Option Nat, World.cell? w3 (Addr.add p4 2) = some (.map x5) ∧ ∃ x6 : Int, ∃ x7 : Int, SpanAt w3 (Addr.mk b1 0 none) [(.int .i64 x6), (.int .i64 x7)] ∧ OnSome x5 (fun p10 => ∃ (es8 : Array MapEntry) (mc9 : Nat), (World.heap w3)[p10]? = some (.map es8 mc9) ∧ KeysOk .pair (Array.toList es8) ∧ ∃ x11 : Bool, Option.getD (mget (.agg #[(.int .i64 x6), (.int .i64 x7)]) (Array.toList es8)) (.bool false) = (.bool x11) ∧ 
 (bif (!x11) then
 
 R (.int .i64 (1 : Int)) w3 else
 ∀ w12 : World, w12 = World.drew w3 → ∃ p13 : Addr, a0 = some p13 ∧ ∃ x14 : Option Nat, World.cell? w12 (Addr.add p13 2) = some (.map x14) ∧ ∃ x15 : Int, ∃ x16 : Int, SpanAt w12 (Addr.mk b1 0 none) [(.int .i64 x15), (.int .i64 x16)] ∧ OnSome x14 (fun p19 => ∃ (es17 : Array MapEntry) (mc18 : Nat), (World.heap w12)[p19]? = some (.map es17 mc18) ∧ KeysOk .pair (Array.toList es17) ∧ ∀ w20 : World, w20 = World.putObj w12 p19 (mdel (.agg #[(.int .i64 x15), (.int .i64 x16)]) es17 mc18) → 
 ∀ w21 : World, w21 = World.drew w20 → ∃ x22 : Int, World.cell? w21 (Addr.add (Addr.mk b1 0 none) 0) = some (.int .i64 x22) ∧ ∃ x23 : Int, World.cell? w21 (Addr.add (Addr.mk b1 0 none) 0) = some (.int .i64 x23) ∧ ∃ p24 : Addr, a0 = some p24 ∧ 0 ≤ x23 ∧ x23 < ((6 : Nat) : Int) ∧ ∃ (x25a : Option Addr) (x25n x25c : Nat), World.cell? w21 (Addr.add (Addr.add p24 3) (Int.toNat x23 * 1)) = some (.slice x25a x25n x25c) ∧ ∃ x26 : Int, World.cell? w21 (Addr.add (Addr.mk b1 0 none) 1) = some (.int .i64 x26) ∧ ∃ p27 : Addr, a0 = some p27 ∧ ∀ (b28 : Nat) (w29 : World), b28 = Array.size (World.heap w21) → w29 = World.alloc w21 (.cells #[(.int .i64 x26)] T_int) → (∃ (x30a : Option Addr) (x30n x30c : Nat), World.cell? w29 (Addr.add (Addr.add p24 3) (Int.toNat x23 * 1)) = some (.slice x30a x30n x30c) ∧ (.slice x30a x30n x30c) = ((.slice x25a x25n x25c) : Value)) ∧ (∃ x31 : Int, World.cell? w29 (Addr.add (Addr.mk b1 0 none) 0) = some (.int .i64 x31) ∧ (.int .i64 x31) = ((.int .i64 x23) : Value)) ∧ (∃ x32 : Int, World.cell? w29 (Addr.add (Addr.mk b1 0 none) 0) = some (.int .i64 x32) ∧ (.int .i64 x32) = ((.int .i64 x22) : Value)) ∧ ∃ ys33 : List Value, RowAt w29 (some (Addr.mk b28 0 none)) (1 * 1) ys33 ∧ OneC ys33 ∧ (x25n + 1 ≤ x25c → 0 < List.length ys33 → ∃ p, x25a = some p ∧ Wr w29 (p.add (x25n * 1)) (List.length ys33)) ∧ (x25c < x25n + 1 → Builtin.nextslicecap (x25n + 1) x25c * 8 ≤ 2 ^ 48 ∧ ∃ xs, RowAt w29 x25a (x25n * 1) xs) ∧ ∀ (a34 : Option Addr) (c35 : Nat) (w36 : World), AppR T_int 1 [(.int .i64 (0 : Int))] x25a x25n x25c 1 ys33 w29 a34 c35 w36 → (∃ x37 : Int, World.cell? w36 (Addr.add (Addr.mk b1 0 none) 0) = some (.int .i64 x37) ∧ (.int .i64 x37) = ((.int .i64 x22) : Value)) ∧ 0 ≤ x22 ∧ x22 < ((6 : Nat) : Int) ∧ ((∃ u, World.cell? w36 (Addr.add (Addr.add p27 3) (Int.toNat x22 * 1)) = some u) ∧ World.frozen? w36 (Addr.add (Addr.add p27 3) (Int.toNat x22 * 1)) = false) ∧ ∀ w38 : World, w38 = World.setCell w36 (Addr.add (Addr.add p27 3) (Int.toNat x22 * 1)) (.slice a34 (x25n + 1) c35) → 
 ∀ w39 : World, w39 = World.drew w38 → ∃ p40 : Addr, a0 = some p40 ∧ ∃ x41 : Int, World.cell? w39 (Addr.add p40 1) = some (.int .i64 x41) ∧ ∃ x42 : Int, World.cell? w39 (Addr.add (Addr.mk b1 0 none) 0) = some (.int .i64 x42) ∧ Cl P f_slab_Bytes #[(.int .i64 x42)] w39 (fun (u43 : Value) (w44 : World) => ∃ x45 : Int, u43 = (.int .i64 x45) ∧ (∃ x46 : Int, World.cell? w44 (Addr.add p40 1) = some (.int .i64 x46) ∧ (.int .i64 x46) = ((.int .i64 x41) : Value)) ∧ ∃ p47 : Addr, a0 = some p47 ∧ ((∃ u, World.cell? w44 (Addr.add p47 1) = some u) ∧ World.frozen? w44 (Addr.add p47 1) = false) ∧ ∀ w48 : World, w48 = World.setCell w44 (Addr.add p47 1) (.int .i64 (IntKind.i64.wrap (x41 - x45))) → 
 
 R (.int .i64 (0 : Int)) w48))))
theorem e_slab_Slab_Free : (fun (a0 : Option Addr) (a1_0 : Int) (a1_1 : Int) (w : World) (R : Value → World → Prop) => vf P f_slab_Slab_Free h_slab_Slab_Free [(.pointer a0), (.agg #[(.int .i64 a1_0), (.int .i64 a1_1)])] w R) = c_slab_Slab_Free := by kernel_rfl
theorem cl_slab_Slab_Free {a0 : Option Addr} {a1_0 : Int} {a1_1 : Int} {w : World} {R : Value → World → Prop} (h : c_slab_Slab_Free a0 a1_0 a1_1 w R) : Cl P f_slab_Slab_Free #[(.pointer a0), (.agg #[(.int .i64 a1_0), (.int .i64 a1_1)])] w R := cl_of mixed (congrFun (congrFun (congrFun (congrFun (congrFun e_slab_Slab_Free a0) a1_0) a1_1) w) R) h

def h_slab_Slab_Take : H := (.s (.reg []) (.s (.reg []) (.s (.one (.s (.reg []) (.s (.s (.reg []) .z) (.s (.any #[[], [0], [0, 1], [0, 1, 2], [], [4], [0, 1, 2, 3, 4, 5], [], [7], [7, 8], [7, 8, 9], [0, 1, 2, 3, 4, 5, 6, 7, 8, 9, 10], [0, 1, 2, 3, 4, 5, 6, 7, 8, 9, 10, 11]] (.rd 0 (.rd 1 (.rd 2 (.rd 3 (.rd 4 (.rd 7 (.rd 8 (.rd 9 (.rd 10 (.ef 5 (.rd 6 (.rd 11 (.rd 12 .fin))) .no))))))))))) (.s (.s (.reg []) .z) .z))))) (.s (.reg []) (.s (.any #[[], [0], [0, 1], [0, 1, 2], [], [4], [0, 1, 2, 3, 4, 5], [0, 1, 2, 3, 4, 5, 6], [0, 1, 2, 3, 4, 5, 6, 7], [0, 1, 2, 3, 4, 5, 6, 7, 8]] (.rd 0 (.rd 1 (.rd 2 (.rd 3 (.rd 4 (.ef 5 (.rd 6 (.rd 7 (.rd 8 (.ef 9 .fin .no)))) .no))))))) (.s (.any #[[], [0], [0, 1], [0, 1, 2], [], [0, 1, 2, 3, 4]] (.rd 0 (.rd 1 (.rd 2 (.rd 3 (.rd 4 (.ef 5 .fin .no))))))) (.s (.reg []) .z)))))))
def c_slab_Slab_Take (a0 : Option Addr) (a1 : Int) (w : World) (R : Value → World → Prop) : Prop :=
 ∀ (b1 : Nat) (w2 : World), b1 = Array.size (World.heap w) → w2 = World.alloc w (.cells #[(.int .i64 (0 : Int)), (.int .i64 (0 : Int))] T_api_Chunk) → 
 Cl P f_slab_Class #[(.int .i64 a1)] w2 (fun (u3 : Value) (w4 : World) => ∃ x5 : Int, ∃ x6 : Int, u3 = (.tuple #[(.int .i64 x5), (.int .i64 x6)]) ∧ 
 
 (bif (x6 != (0 : Int)) then
 Wr w4 (Addr.mk b1 0 none) 2 ∧ ∀ w7 : World, w7 = setSpan w4 (Addr.mk b1 0 none) [(.int .i64 (0 : Int)), (.int .i64 (0 : Int))] → 
 ∃ x8 : Int, ∃ x9 : Int, SpanAt w7 (Addr.mk b1 0 none) [(.int .i64 x8), (.int .i64 x9)] ∧ R (.tuple #[(.agg #[(.int .i64 x8), (.int .i64 x9)]), (.int .i64 x6)]) w7 else
 ∀ w10 : World, w10 = World.drew w4 → ∃ p11 : Addr, a0 = some p11 ∧ ∃ x12 : Int, World.cell? w10 (Addr.add p11 1) = some (.int .i64 x12) ∧ ∃ p13 : Addr, a0 = some p13 ∧ ∃ x14 : Int, World.cell? w10 (Addr.add p13 0) = some (.int .i64 x14) ∧ Cl P f_slab_Bytes #[(.int .i64 x5)] w10 (fun (u15 : Value) (w16 : World) => ∃ x17 : Int, u15 = (.int .i64 x17) ∧ (∃ x18 : Int, World.cell? w16 (Addr.add p13 0) = some (.int .i64 x18) ∧ (.int .i64 x18) = ((.int .i64 x14) : Value)) ∧ (∃ x19 : Int, World.cell? w16 (Addr.add p11 1) = some (.int .i64 x19) ∧ (.int .i64 x19) = ((.int .i64 x12) : Value)) ∧ 
 (bif (decide ((IntKind.i64.wrap (x12 + x17)) > x14)) then
 Wr w16 (Addr.mk b1 0 none) 2 ∧ ∀ w20 : World, w20 = setSpan w16 (Addr.mk b1 0 none) [(.int .i64 (0 : Int)), (.int .i64 (0 : Int))] → 
 ∃ x21 : Int, ∃ x22 : Int, SpanAt w20 (Addr.mk b1 0 none) [(.int .i64 x21), (.int .i64 x22)] ∧ R (.tuple #[(.agg #[(.int .i64 x21), (.int .i64 x22)]), (.int .i64 (5 : Int))]) w20 else
 Cl P f_slab_Slab_number #[(.pointer a0), (.int .i64 x5)] w16 (fun (u23 : Value) (w24 : World) => ∃ x25 : Int, u23 = (.int .i64 x25) ∧ ∀ (b26 : Nat) (w27 : World), b26 = Array.size (World.heap w24) → w27 = World.alloc w24 (.cells #[(.int .i64 (0 : Int)), (.int .i64 (0 : Int))] T_api_Chunk) → Wr w27 (Addr.mk b26 0 none) 2 ∧ ∀ w28 : World, w28 = setSpan w27 (Addr.mk b26 0 none) [(.int .i64 x5), (.int .i64 x25)] → 
 ∀ w29 : World, w29 = World.drew w28 → ∃ p30 : Addr, a0 = some p30 ∧ ∃ x31 : Int, World.cell? w29 (Addr.add p30 1) = some (.int .i64 x31) ∧ Cl P f_slab_Bytes #[(.int .i64 x5)] w29 (fun (u32 : Value) (w33 : World) => ∃ x34 : Int, u32 = (.int .i64 x34) ∧ (∃ x35 : Int, World.cell? w33 (Addr.add p30 1) = some (.int .i64 x35) ∧ (.int .i64 x35) = ((.int .i64 x31) : Value)) ∧ ∃ p36 : Addr, a0 = some p36 ∧ ((∃ u, World.cell? w33 (Addr.add p36 1) = some u) ∧ World.frozen? w33 (Addr.add p36 1) = false) ∧ ∀ w37 : World, w37 = World.setCell w33 (Addr.add p36 1) (.int .i64 (IntKind.i64.wrap (x31 + x34))) → 
 ∀ w38 : World, w38 = World.drew w37 → ∃ p39 : Addr, a0 = some p39 ∧ ∃ x40 : Option Nat, World.cell? w38 (Addr.add p39 2) = some (.map x40) ∧ ∃ x41 : Int, ∃ x42 : Int, SpanAt w38 (Addr.mk b26 0 none) [(.int .i64 x41), (.int .i64 x42)] ∧ OnSome x40 (fun p45 => ∃ (es43 : Array MapEntry) (mc44 : Nat), (World.heap w38)[p45]? = some (.map es43 mc44) ∧ KeysOk .pair (Array.toList es43) ∧ ∀ w46 : World, w46 = World.putObj w38 p45 (mput (.agg #[(.int .i64 x41), (.int .i64 x42)]) (.bool true) es43 mc44) → 
 ∃ x47 : Int, ∃ x48 : Int, SpanAt w46 (Addr.mk b26 0 none) [(.int .i64 x47), (.int .i64 x48)] ∧ Wr w46 (Addr.mk b1 0 none) 2 ∧ ∀ w49 : World, w49 = setSpan w46 (Addr.mk b1 0 none) [(.int .i64 x47), (.int .i64 x48)] → 
 ∃ x50 : Int, ∃ x51 : Int, SpanAt w49 (Addr.mk b1 0 none) [(.int .i64 x50), (.int .i64 x51)] ∧ R (.tuple #[(.agg #[(.int .i64 x50), (.int .i64 x51)]), (.int .i64 (0 : Int))]) w49)))))))
theorem e_slab_Slab_Take : (fun (a0 : Option Addr) (a1 : Int) (w : World) (R : Value → World → Prop) => vf P f_slab_Slab_Take h_slab_Slab_Take [(.pointer a0), (.int .i64 a1)] w R) = c_slab_Slab_Take := by kernel_rfl
theorem cl_slab_Slab_Take {a0 : Option Addr} {a1 : Int} {w : World} {R : Value → World → Prop} (h : c_slab_Slab_Take a0 a1 w R) : Cl P f_slab_Slab_Take #[(.pointer a0), (.int .i64 a1)] w R := cl_of mixed (congrFun (congrFun (congrFun (congrFun e_slab_Slab_Take a0) a1) w) R) h

def h_slab_Slab_Used : H := (.s (.reg []) (.s (.reg []) .z))
def c_slab_Slab_Used (a0 : Option Addr) (w : World) (R : Value → World → Prop) : Prop :=
 
 ∃ p1 : Addr, a0 = some p1 ∧ ∃ x2 : Int, World.cell? w (Addr.add p1 1) = some (.int .i64 x2) ∧ 
 R (.int .i64 x2) w
theorem e_slab_Slab_Used : (fun (a0 : Option Addr) (w : World) (R : Value → World → Prop) => vf P f_slab_Slab_Used h_slab_Slab_Used [(.pointer a0)] w R) = c_slab_Slab_Used := by kernel_rfl
theorem cl_slab_Slab_Used {a0 : Option Addr} {w : World} {R : Value → World → Prop} (h : c_slab_Slab_Used a0 w R) : Cl P f_slab_Slab_Used #[(.pointer a0)] w R := cl_of mixed (congrFun (congrFun (congrFun e_slab_Slab_Used a0) w) R) h

def h_slab_Slab_Fits : H := (.s (.reg []) (.s (.reg []) (.s (.any #[[], [0], [0, 1], [0, 1, 2], [0, 1, 2, 3], [0, 1, 2, 3, 4], [0, 1, 2, 3, 4, 5], [0, 1, 2, 3, 4, 5, 6], [0, 1, 2, 3, 4, 5, 6], [0, 1, 2, 3, 4, 5, 6, 8], [0, 1, 2, 3, 4, 5, 6, 8, 9], [0, 1, 2, 3, 4, 5, 6, 8, 9, 10], [0, 1, 2, 3, 4, 5, 6, 7, 8, 9, 10, 11], [0, 1, 2, 3, 4, 5, 6, 7, 8, 9, 10, 11, 12], [0, 1, 2, 3, 4, 5, 6, 7, 8, 9, 10, 11, 12, 13], [0, 1, 2, 3, 4, 5, 6, 7, 8, 9, 10, 11, 12, 13, 14], [0, 1, 2, 3, 4, 5, 6, 7, 8, 9, 10, 11, 12, 13, 14, 15], [0, 1, 2, 3, 4, 5, 6, 7, 8, 9, 10, 11, 12, 13, 14, 15, 16], [0, 1, 2, 3, 4, 5, 6, 7, 8, 9, 10, 11, 12, 13, 14, 15, 16, 17], [0, 1, 2, 3, 4, 5, 6, 7, 8, 9, 10, 11, 12, 13, 14], [0, 1, 2, 3, 4, 5, 6, 7, 8, 9, 10, 11, 12, 13, 14, 15, 16, 17, 18, 19], [0, 1, 2, 3, 4, 5, 6, 7, 8, 9, 10, 11, 12, 13, 14], [0, 1, 2, 3, 4, 5, 6, 7, 8, 9, 10, 11, 12, 13, 14, 21], [0, 1, 2, 3, 4, 5, 6, 7, 8, 9, 10, 11, 12, 13, 14, 15, 16, 17, 18, 19, 20, 21, 22], [0, 1, 2, 3, 4, 5, 6, 7, 8, 9, 10, 11, 12, 13, 14], [0, 1, 2, 3, 4, 5, 6, 7, 8, 9, 10, 11, 12, 13, 14, 24], [0, 1, 2, 3, 4, 5, 6, 7, 8, 9, 10, 11, 12, 13, 14, 24, 25], [0, 1, 2, 3, 4, 5, 6, 7, 8, 9, 10, 11, 12, 13, 14, 24, 25, 26], [0, 1, 2, 3, 4, 5, 6, 7, 8, 9, 10, 11, 12, 13, 14, 15, 16, 17, 18, 19, 20, 21, 22, 23, 24, 25, 26, 27], [0, 1, 2, 3, 4, 5, 6, 7, 8, 9, 10, 11, 12, 13, 14, 15, 16, 17, 18, 19, 20, 21, 22, 23, 24, 25, 26, 27, 28], [0, 1, 2, 3, 4, 5, 6, 7, 8, 9, 10, 11, 12, 13, 14, 15, 16, 17, 18, 19, 20, 21, 22, 23, 24, 25, 26, 27, 28, 29]] (.rd 0 (.rd 1 (.rd 2 (.sp 16 (.rd 3 (.rd 4 (.rd 5 (.rd 6 (.sp 20 (.rd 7 (.rd 8 (.rd 9 (.rd 10 (.rd 11 (.rd 12 (.rd 13 (.rd 14 (.sp 28 (.rd 15 (.rd 16 (.rd 17 (.rd 18 (.rd 19 (.rd 20 (.rd 21 (.rd 24 (.rd 25 (.rd 26 (.rd 27 (.ef 22 (.rd 23 (.rd 28 (.rd 29 (.rd 30 .fin)))) .no))))))))))))))))))))))))))))))) .z)))
def c_slab_Slab_Fits (a0 : Option Addr) (a1 : Int) (a2 : Int) (w : World) (R : Value → World → Prop) : Prop :=
 
 Cl P f_slab_Class #[(.int .i64 a1)] w (fun (u1 : Value) (w2 : World) => ∃ x3 : Int, ∃ x4 : Int, u1 = (.tuple #[(.int .i64 x3), (.int .i64 x4)]) ∧ 
 ∀ w5 : World, w5 = World.drew w2 → (bif (x4 == (0 : Int)) then (bif (decide (a2 ≥ (0 : Int))) then ∃ p6 : Addr, a0 = some p6 ∧ ∃ x7 : Int, World.cell? w5 (Addr.add p6 1) = some (.int .i64 x7) ∧ (bif (decide (a2 ≤ x7)) then ∃ p8 : Addr, a0 = some p8 ∧ ∃ x9 : Int, World.cell? w5 (Addr.add p8 1) = some (.int .i64 x9) ∧ ∃ p10 : Addr, a0 = some p10 ∧ ∃ x11 : Int, World.cell? w5 (Addr.add p10 0) = some (.int .i64 x11) ∧ Cl P f_slab_Bytes #[(.int .i64 x3)] w5 (fun (u12 : Value) (w13 : World) => ∃ x14 : Int, u12 = (.int .i64 x14) ∧ (∃ x15 : Int, World.cell? w13 (Addr.add p10 0) = some (.int .i64 x15) ∧ (.int .i64 x15) = ((.int .i64 x11) : Value)) ∧ (∃ x16 : Int, World.cell? w13 (Addr.add p8 1) = some (.int .i64 x16) ∧ (.int .i64 x16) = ((.int .i64 x9) : Value)) ∧ 
 R (.bool (decide ((IntKind.i64.wrap ((IntKind.i64.wrap (x9 - a2)) + x14)) ≤ x11))) w13) else
 
 R (.bool false) w5) else
 
 R (.bool false) w5) else
 
 R (.bool false) w5))
theorem e_slab_Slab_Fits : (fun (a0 : Option Addr) (a1 : Int) (a2 : Int) (w : World) (R : Value → World → Prop) => vf P f_slab_Slab_Fits h_slab_Slab_Fits [(.pointer a0), (.int .i64 a1), (.int .i64 a2)] w R) = c_slab_Slab_Fits := by kernel_rfl
theorem cl_slab_Slab_Fits {a0 : Option Addr} {a1 : Int} {a2 : Int} {w : World} {R : Value → World → Prop} (h : c_slab_Slab_Fits a0 a1 a2 w R) : Cl P f_slab_Slab_Fits #[(.pointer a0), (.int .i64 a1), (.int .i64 a2)] w R := cl_of mixed (congrFun (congrFun (congrFun (congrFun (congrFun e_slab_Slab_Fits a0) a1) a2) w) R) h

def h_slab_Slab_number : H := (.s (.reg []) (.s (.s (.reg []) (.s (.reg []) (.s (.s (.any #[[], [], [], [], [3], [3, 4], [2, 3, 4, 5], [0], [0, 7], [0, 1, 2, 3, 4, 5, 6, 7, 8], [0, 1, 2, 3, 4, 5, 6, 7, 8, 9]] (.rd 0 (.rd 1 (.rd 2 (.rd 3 (.rd 4 (.rd 5 (.rd 6 (.rd 7 (.rd 8 (.rd 9 (.ef 10 .fin .no)))))))))))) (.s (.reg []) .z)) .z))) (.s (.any #[[], [], [0], [0, 2], [0, 1, 2, 3], [0, 1, 2, 3, 4], [0, 1, 2, 3, 4, 5], [0], [0, 7], [0, 1, 2, 3, 4, 5, 6, 7, 8], [0, 1, 2, 3, 4, 5, 6, 7, 8, 9]] (.rd 0 (.rd 1 (.rd 2 (.rd 3 (.rd 4 (.rd 5 (.rd 6 (.rd 7 (.rd 8 (.rd 9 (.ef 10 .fin .no)))))))))))) (.s (.reg []) .z))))
def c_slab_Slab_number (a0 : Option Addr) (a1 : Int) (w : World) (R : Value → World → Prop) : Prop :=
 
 ∃ p1 : Addr, a0 = some p1 ∧ 0 ≤ a1 ∧ a1 < ((6 : Nat) : Int) ∧ ∃ (x2a : Option Addr) (x2n x2c : Nat), World.cell? w (Addr.add (Addr.add p1 3) (Int.toNat a1 * 1)) = some (.slice x2a x2n x2c) ∧ 
 
 (bif (decide (((x2n : Nat) : Int) > (0 : Int))) then
 ∀ w3 : World, w3 = World.drew w → 0 ≤ (IntKind.i64.wrap (((x2n : Nat) : Int) - (1 : Int))) ∧ (IntKind.i64.wrap (((x2n : Nat) : Int) - (1 : Int))) ≤ ((x2c : Nat) : Int) ∧ ∃ p4 : Addr, a0 = some p4 ∧ 0 ≤ a1 ∧ a1 < ((6 : Nat) : Int) ∧ ((∃ u, World.cell? w3 (Addr.add (Addr.add p4 3) (Int.toNat a1 * 1)) = some u) ∧ World.frozen? w3 (Addr.add (Addr.add p4 3) (Int.toNat a1 * 1)) = false) ∧ ∀ w5 : World, w5 = World.setCell w3 (Addr.add (Addr.add p4 3) (Int.toNat a1 * 1)) (.slice (offA x2a x2c 0 1) ((Int.toNat (IntKind.i64.wrap (((x2n : Nat) : Int) - (1 : Int)))) - 0) (x2c - 0)) → 
 ∃ a6 : Addr, x2a = some a6 ∧ 0 ≤ (IntKind.i64.wrap (((x2n : Nat) : Int) - (1 : Int))) ∧ (IntKind.i64.wrap (((x2n : Nat) : Int) - (1 : Int))) < ((x2n : Nat) : Int) ∧ ∃ x7 : Int, World.cell? w5 (Addr.add a6 (Int.toNat (IntKind.i64.wrap (((x2n : Nat) : Int) - (1 : Int))) * 1)) = some (.int .i64 x7) ∧ 
 R (.int .i64 x7) w5 else
 ∀ w8 : World, w8 = World.drew w → ∃ p9 : Addr, a0 = some p9 ∧ 0 ≤ a1 ∧ a1 < ((6 : Nat) : Int) ∧ ∃ x10 : Int, World.cell? w8 (Addr.add (Addr.add p9 9) (Int.toNat a1 * 1)) = some (.int .i64 x10) ∧ ∃ p11 : Addr, a0 = some p11 ∧ 0 ≤ a1 ∧ a1 < ((6 : Nat) : Int) ∧ ((∃ u, World.cell? w8 (Addr.add (Addr.add p11 9) (Int.toNat a1 * 1)) = some u) ∧ World.frozen? w8 (Addr.add (Addr.add p11 9) (Int.toNat a1 * 1)) = false) ∧ ∀ w12 : World, w12 = World.setCell w8 (Addr.add (Addr.add p11 9) (Int.toNat a1 * 1)) (.int .i64 (IntKind.i64.wrap (x10 + (1 : Int)))) → 
 ∃ p13 : Addr, a0 = some p13 ∧ 0 ≤ a1 ∧ a1 < ((6 : Nat) : Int) ∧ ∃ x14 : Int, World.cell? w12 (Addr.add (Addr.add p13 9) (Int.toNat a1 * 1)) = some (.int .i64 x14) ∧ 
 R (.int .i64 (IntKind.i64.wrap (x14 - (1 : Int)))) w12)
theorem e_slab_Slab_number : (fun (a0 : Option Addr) (a1 : Int) (w : World) (R : Value → World → Prop) => vf P f_slab_Slab_number h_slab_Slab_number [(.pointer a0), (.int .i64 a1)] w R) = c_slab_Slab_number := by kernel_rfl
theorem cl_slab_Slab_number {a0 : Option Addr} {a1 : Int} {w : World} {R : Value → World → Prop} (h : c_slab_Slab_number a0 a1 w R) : Cl P f_slab_Slab_number #[(.pointer a0), (.int .i64 a1)] w R := cl_of mixed (congrFun (congrFun (congrFun (congrFun e_slab_Slab_number a0) a1) w) R) h

def h_slab_Class : H := (.s (.reg []) (.s (.s (.reg []) (.one (.loop [(5, (.one (.int .i64)))] (.s (.reg []) (.s (.s .z .z) (.s (.one (.s (.reg []) (.s (.reg []) (.s (.s (.reg []) .z) .z)))) (.reg []))))))) (.s (.reg []) .z)))
def c_slab_Class (a0 : Int) (w : World) (R : Value → World → Prop) : Prop :=
 
 
 ∃ (I1 : List Value → World → Prop) (m2 : List Value → World → Nat), (I1 [(.int .i64 (0 : Int))] w) ∧
 ∀ (vs3 : List Value) (w4 : World), I1 vs3 w4 → ∃ x5 : Int, vs3 = [(.int .i64 x5)] ∧ 
 (bif (decide (x5 < (6 : Int))) then
 
 Cl P f_slab_Bytes #[(.int .i64 x5)] w4 (fun (u6 : Value) (w7 : World) => ∃ x8 : Int, u6 = (.int .i64 x8) ∧ 
 (bif (decide (x8 ≥ a0)) then
 
 R (.tuple #[(.int .i64 x5), (.int .i64 (0 : Int))]) w7 else
 
 I1 [(.int .i64 (IntKind.i64.wrap (x5 + (1 : Int))))] w7 ∧ m2 [(.int .i64 (IntKind.i64.wrap (x5 + (1 : Int))))] w7 < m2 vs3 w4)) else
 
 R (.tuple #[(.int .i64 (0 : Int)), (.int .i64 (4 : Int))]) w4)
theorem e_slab_Class : (fun (a0 : Int) (w : World) (R : Value → World → Prop) => vf P f_slab_Class h_slab_Class [(.int .i64 a0)] w R) = c_slab_Class := by kernel_rfl
theorem cl_slab_Class {a0 : Int} {w : World} {R : Value → World → Prop} (h : c_slab_Class a0 w R) : Cl P f_slab_Class #[(.int .i64 a0)] w R := cl_of mixed (congrFun (congrFun (congrFun e_slab_Class a0) w) R) h

def h_slab_Bytes : H := (.s (.reg []) (.s (.s (.reg [false, false, false, true, false, false]) (.s (.s (.reg []) .z) .z)) (.s (.reg []) .z)))
def c_slab_Bytes (a0 : Int) (w : World) (R : Value → World → Prop) : Prop :=
 
 (bif (decide (a0 < (0 : Int))) then 
 
 R (.int .i64 (0 : Int)) w else
 
 (bif (decide (a0 ≥ (6 : Int))) then
 
 R (.int .i64 (0 : Int)) w else
 0 ≤ a0 ∧ 
 R (.int .i64 (IntKind.i64.wrap ((64 : Int) * 2 ^ (min (Int.toNat a0) (IntKind.bits .i64))))) w))
theorem e_slab_Bytes : (fun (a0 : Int) (w : World) (R : Value → World → Prop) => vf P f_slab_Bytes h_slab_Bytes [(.int .i64 a0)] w R) = c_slab_Bytes := by kernel_rfl
theorem cl_slab_Bytes {a0 : Int} {w : World} {R : Value → World → Prop} (h : c_slab_Bytes a0 w R) : Cl P f_slab_Bytes #[(.int .i64 a0)] w R := cl_of mixed (congrFun (congrFun (congrFun e_slab_Bytes a0) w) R) h

def h_slab_New : H := (.s (.reg []) (.s (.reg []) .z))
def c_slab_New (a0 : Int) (w : World) (R : Value → World → Prop) : Prop :=
 
 ∀ (b1 : Nat) (w2 : World), b1 = Array.size (World.heap w) → w2 = World.alloc w (.map #[] 0) → ∀ (b3 : Nat) (w4 : World), b3 = Array.size (World.heap w2) → w4 = World.alloc w2 (.cells #[(.int .i64 a0), (.int .i64 (0 : Int)), (.map (some b1)), (.slice none 0 0), (.slice none 0 0), (.slice none 0 0), (.slice none 0 0), (.slice none 0 0), (.slice none 0 0), (.int .i64 (0 : Int)), (.int .i64 (0 : Int)), (.int .i64 (0 : Int)), (.int .i64 (0 : Int)), (.int .i64 (0 : Int)), (.int .i64 (0 : Int))] T_slab_Slab) → 
 R (.pointer (some (Addr.mk b3 0 none))) w4
theorem e_slab_New : (fun (a0 : Int) (w : World) (R : Value → World → Prop) => vf P f_slab_New h_slab_New [(.int .i64 a0)] w R) = c_slab_New := by kernel_rfl
theorem cl_slab_New {a0 : Int} {w : World} {R : Value → World → Prop} (h : c_slab_New a0 w R) : Cl P f_slab_New #[(.int .i64 a0)] w R := cl_of mixed (congrFun (congrFun (congrFun e_slab_New a0) w) R) h

end Go.Bty
