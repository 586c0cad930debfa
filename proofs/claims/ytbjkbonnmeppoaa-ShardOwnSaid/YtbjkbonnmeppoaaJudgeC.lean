/- The conditions of functions of the program: what must hold ahead of a call, and that it is enough. -/
import Derived.Test.YtbjkbonnmeppoaaBtyNum
namespace Go.Bty
open Go
open Go.Proofs.Try renaming prog → P
set_option maxRecDepth 100000
def h_tiny_Judge_Touch : H := (.s (.reg [false, false, false, false, false, false, false, true, false, false, false, false, false, false]) (.s (.reg []) .z))
def c_tiny_Judge_Touch (a0 : Option Addr) (a1 : ByteArray) (w : World) (R : Value → World → Prop) : Prop :=
 ∃ p1 : Addr, a0 = some p1 ∧ ∃ x2 : Option Addr, World.cell? w (Addr.add p1 0) = some (.pointer x2) ∧ Cl P f_bloom_Filter_Add #[(.pointer x2), (.string a1)] w (fun (u3 : Value) (w4 : World) => ∃ x5 : Bool, u3 = (.bool x5) ∧ (bif x5 then ∃ p6 : Addr, a0 = some p6 ∧ ∃ x7 : Option Addr, World.cell? w4 (Addr.add p6 1) = some (.pointer x7) ∧ Cl P f_sketch_Sketch_Add #[(.pointer x7), (.string a1)] w4 (fun (u8 : Value) (w9 : World) => ∃ x10 : Bool, u8 = (.bool x10) ∧ 
 (bif x10 then
 ∃ p11 : Addr, a0 = some p11 ∧ ∃ x12 : Option Addr, World.cell? w9 (Addr.add p11 0) = some (.pointer x12) ∧ Cl P f_bloom_Filter_Clear #[(.pointer x12)] w9 (fun (u13 : Value) (w14 : World) => u13 = (.tuple #[]) ∧ 
 R (.tuple #[]) w14) else
 R (.tuple #[]) w9)) else
 
 R (.tuple #[]) w4))
theorem e_tiny_Judge_Touch : (fun (a0 : Option Addr) (a1 : ByteArray) (w : World) (R : Value → World → Prop) => vf P f_tiny_Judge_Touch h_tiny_Judge_Touch [(.pointer a0), (.string a1)] w R) = c_tiny_Judge_Touch := by kernel_rfl
theorem cl_tiny_Judge_Touch {a0 : Option Addr} {a1 : ByteArray} {w : World} {R : Value → World → Prop} (h : c_tiny_Judge_Touch a0 a1 w R) : Cl P f_tiny_Judge_Touch #[(.pointer a0), (.string a1)] w R := cl_of mixed (congrFun (congrFun (congrFun (congrFun e_tiny_Judge_Touch a0) a1) w) R) h

def h_tiny_Judge_Admit : H := (.s (.reg []) (.s (.reg []) .z))
def c_tiny_Judge_Admit (a0 : Option Addr) (a1 : ByteArray) (a2 : ByteArray) (w : World) (R : Value → World → Prop) : Prop :=
 
 Cl P f_tiny_Judge_Worth #[(.pointer a0), (.string a1)] w (fun (u1 : Value) (w2 : World) => ∃ x3 : Int, u1 = (.int .i64 x3) ∧ Cl P f_tiny_Judge_Worth #[(.pointer a0), (.string a2)] w2 (fun (u4 : Value) (w5 : World) => ∃ x6 : Int, u4 = (.int .i64 x6) ∧ 
 R (.bool (decide (x3 > x6))) w5))
theorem e_tiny_Judge_Admit : (fun (a0 : Option Addr) (a1 : ByteArray) (a2 : ByteArray) (w : World) (R : Value → World → Prop) => vf P f_tiny_Judge_Admit h_tiny_Judge_Admit [(.pointer a0), (.string a1), (.string a2)] w R) = c_tiny_Judge_Admit := by kernel_rfl
theorem cl_tiny_Judge_Admit {a0 : Option Addr} {a1 : ByteArray} {a2 : ByteArray} {w : World} {R : Value → World → Prop} (h : c_tiny_Judge_Admit a0 a1 a2 w R) : Cl P f_tiny_Judge_Admit #[(.pointer a0), (.string a1), (.string a2)] w R := cl_of mixed (congrFun (congrFun (congrFun (congrFun (congrFun e_tiny_Judge_Admit a0) a1) a2) w) R) h

def h_bloom_Filter_Add : H := (.s (.reg []) (.s (.reg []) (.s (.s (.reg []) (.one (.rf [(.one (.int .i64)), (.one (.int .u64))] (.reg []) (.one (.s (.reg []) (.any #[[], [], [1], [0], [0, 3], [0, 1, 2, 3, 4], [0, 1, 2, 3, 4, 5], [], [7], [7, 8], [0, 1, 2, 3, 4, 5, 6, 7, 8, 9], [0], [0, 11], [0, 1, 2, 3, 4, 5, 6, 7, 8, 9, 10, 11, 12], [0, 1, 2, 3, 4, 5, 6, 7, 8, 9, 10, 11, 12, 13]] (.rd 0 (.rd 1 (.rd 2 (.rd 3 (.rd 4 (.rd 5 (.rd 6 (.rd 7 (.rd 8 (.rd 9 (.rd 10 (.rd 11 (.rd 12 (.rd 13 (.ef 14 .fin .no))))))))))))))))))))) (.s (.reg []) .z))))
def c_bloom_Filter_Add (a0 : Option Addr) (a1 : ByteArray) (w : World) (R : Value → World → Prop) : Prop :=
 ∀ (b1 : Nat) (w2 : World), b1 = Array.size (World.heap w) → w2 = World.alloc w (.cells #[(.pointer a0)] T_p_bloom_Filter) → 
 ∃ x3 : Option Addr, World.cell? w2 (Addr.mk b1 0 none) = some (.pointer x3) ∧ Cl P f_bloom_Filter_Has #[(.pointer x3), (.string a1)] w2 (fun (u4 : Value) (w5 : World) => ∃ x6 : Bool, u4 = (.bool x6) ∧ 
 ∃ x7 : Option Addr, World.cell? w5 (Addr.mk b1 0 none) = some (.pointer x7) ∧ ∃ p8 : Addr, x7 = some p8 ∧ ∃ x9 : Int, World.cell? w5 (Addr.add p8 0) = some (.int .u64 x9) ∧ Cl P f_hash_Several #[(.int .u64 x9), (.string a1), (.int .i64 (3 : Int))] w5 (fun (u10 : Value) (w11 : World) => ∃ x12 : Value, u10 = x12 ∧ 
 RfV x12 (fun (gf47 : FuncId) (fs48 cs49 : List Value) => entersB P gf47 = true ∧ ∀ (Lp17 : Loop → Prop) (lp16 : Loop) (D13 l14 : Nat) (w15 : World), D13 = Array.size (World.heap w11) → l14 = Array.size (World.heap w11) + 1 → w15 = World.alloc (World.alloc w11 (.deferred (some []))) (.loop lp16) → Lp17 lp16 → lp16.state = .ready → lp16.pending = none → (∀ (lp : Loop) (s : LoopState) (p : Option Code), Lp17 lp → Lp17 { lp with state := s, pending := p }) →
 (∀ (W18 : World) (lp19 : Loop) (xs20 : List Value) (R21 : Value → World → Prop), Lp17 lp19 → (World.heap W18)[l14]? = some (.loop lp19) → lp19.state = .ready → List.length xs20 = 2 → (∃ x24 : Int, ∃ x25 : Int, xs20 = [(.int .i64 x24), (.int .u64 x25)] ∧ 
 ∃ lp27 : Loop, (World.heap W18)[l14]? = some (.loop lp27) ∧ lp27.state = .ready ∧ ∀ W26 : World, W26 = World.putObj W18 l14 (.loop { lp27 with state := .busy }) →
 Cl P f_hash_Below #[(.int .u64 x25), (.int .i64 (512 : Int))] W26 (fun (u28 : Value) (w29 : World) => ∃ x30 : Int, u28 = (.int .i64 x30) ∧ 
 ∀ w31 : World, w31 = World.drew w29 → ∃ x32 : Option Addr, World.cell? w31 (Addr.mk b1 0 none) = some (.pointer x32) ∧ (64 : Int) ≠ 0 ∧ ∃ p33 : Addr, x32 = some p33 ∧ 0 ≤ (IntKind.i64.wrap (Int.tdiv x30 (64 : Int))) ∧ (IntKind.i64.wrap (Int.tdiv x30 (64 : Int))) < ((8 : Nat) : Int) ∧ ∃ x34 : Int, World.cell? w31 (Addr.add (Addr.add p33 1) (Int.toNat (IntKind.i64.wrap (Int.tdiv x30 (64 : Int))) * 1)) = some (.int .u64 x34) ∧ (64 : Int) ≠ 0 ∧ 0 ≤ (Int.tmod x30 (64 : Int)) ∧ ∃ p35 : Addr, x32 = some p35 ∧ 0 ≤ (IntKind.i64.wrap (Int.tdiv x30 (64 : Int))) ∧ (IntKind.i64.wrap (Int.tdiv x30 (64 : Int))) < ((8 : Nat) : Int) ∧ ((∃ u, World.cell? w31 (Addr.add (Addr.add p35 1) (Int.toNat (IntKind.i64.wrap (Int.tdiv x30 (64 : Int))) * 1)) = some u) ∧ World.frozen? w31 (Addr.add (Addr.add p35 1) (Int.toNat (IntKind.i64.wrap (Int.tdiv x30 (64 : Int))) * 1)) = false) ∧ ∀ w36 : World, w36 = World.setCell w31 (Addr.add (Addr.add p35 1) (Int.toNat (IntKind.i64.wrap (Int.tdiv x30 (64 : Int))) * 1)) (.int .u64 (IntKind.u64.wrap ((BitVec.ofInt (IntKind.bits .u64) x34 ||| BitVec.ofInt (IntKind.bits .u64) (IntKind.u64.wrap ((1 : Int) * 2 ^ (min (Int.toNat (Int.tmod x30 (64 : Int))) (IntKind.bits .u64))))).toNat : Int))) → 
 ∃ lp37 : Loop, (World.heap w36)[l14]? = some (.loop lp37) ∧ ∀ w38 : World, w38 = World.putObj w36 l14 (.loop { lp37 with state := .ready, pending := none }) → R21 (.bool true) w38)) → Yl P l14 (List.toArray xs20) W18 R21) →
 Cl P gf47 (List.toArray (fs48 ++ [Value.func (.yield l14) #[] #[]] ++ cs49)) w15 (fun (_ : Value) (w40 : World) => ∃ lp39 : Loop, (World.heap w40)[l14]? = some (.loop lp39) ∧ lp39.state ≠ .busy ∧ ∀ w41 : World, w41 = World.putObj w40 l14 (.loop { lp39 with state := .exhausted }) →
 pendR lp39.pending (
 (World.heap w41)[D13]? = some (.deferred (some [])) ∧ ∀ w43 : World, w43 = World.putObj w41 D13 (.deferred none) → R (.bool x6) w43) ((World.heap w41)[D13]? = some (.deferred (some [])) ∧ ∀ w44 : World, w44 = World.putObj w41 D13 (.deferred none) → R (.bool false) w44) (fun i45 => (bif Nat.beq i45 0 then 
 (World.heap w41)[D13]? = some (.deferred (some [])) ∧ ∀ w46 : World, w46 = World.putObj w41 D13 (.deferred none) → R (.bool x6) w46 else False))))))
theorem e_bloom_Filter_Add : (fun (a0 : Option Addr) (a1 : ByteArray) (w : World) (R : Value → World → Prop) => vf P f_bloom_Filter_Add h_bloom_Filter_Add [(.pointer a0), (.string a1)] w R) = c_bloom_Filter_Add := by kernel_rfl
theorem cl_bloom_Filter_Add {a0 : Option Addr} {a1 : ByteArray} {w : World} {R : Value → World → Prop} (h : c_bloom_Filter_Add a0 a1 w R) : Cl P f_bloom_Filter_Add #[(.pointer a0), (.string a1)] w R := cl_of mixed (congrFun (congrFun (congrFun (congrFun e_bloom_Filter_Add a0) a1) w) R) h

def h_sketch_Sketch_Add : H := (.s (.reg []) (.s (.s (.reg []) (.one (.rf [(.one (.int .i64)), (.one (.int .u64))] (.s (.reg []) (.reg [])) (.one (.any #[[], [], [], [2], [0, 1, 2, 3]] (.rd 0 (.rd 1 (.rd 2 (.ef 3 (.ef 4 .fin .no) .no))))))))) (.s (.reg []) (.s (.s (.reg []) (.s (.s (.reg []) .z) .z)) (.s (.reg []) (.s (.reg []) .z))))))
def c_sketch_Sketch_Add (a0 : Option Addr) (a1 : ByteArray) (w : World) (R : Value → World → Prop) : Prop :=
 ∀ (b1 : Nat) (w2 : World), b1 = Array.size (World.heap w) → w2 = World.alloc w (.cells #[(.pointer a0)] T_p_sketch_Sketch) → 
 ∃ x3 : Option Addr, World.cell? w2 (Addr.mk b1 0 none) = some (.pointer x3) ∧ ∃ p4 : Addr, x3 = some p4 ∧ ∃ x5 : Int, World.cell? w2 (Addr.add p4 0) = some (.int .u64 x5) ∧ Cl P f_hash_Several #[(.int .u64 x5), (.string a1), (.int .i64 (4 : Int))] w2 (fun (u6 : Value) (w7 : World) => ∃ x8 : Value, u6 = x8 ∧ 
 RfV x8 (fun (gf66 : FuncId) (fs67 cs68 : List Value) => entersB P gf66 = true ∧ ∀ (Lp13 : Loop → Prop) (lp12 : Loop) (D9 l10 : Nat) (w11 : World), D9 = Array.size (World.heap w7) → l10 = Array.size (World.heap w7) + 1 → w11 = World.alloc (World.alloc w7 (.deferred (some []))) (.loop lp12) → Lp13 lp12 → lp12.state = .ready → lp12.pending = none → (∀ (lp : Loop) (s : LoopState) (p : Option Code), Lp13 lp → Lp13 { lp with state := s, pending := p }) →
 (∀ (W14 : World) (lp15 : Loop) (xs16 : List Value) (R17 : Value → World → Prop), Lp13 lp15 → (World.heap W14)[l10]? = some (.loop lp15) → lp15.state = .ready → List.length xs16 = 2 → (∃ x20 : Int, ∃ x21 : Int, xs16 = [(.int .i64 x20), (.int .u64 x21)] ∧ 
 
 ∃ lp23 : Loop, (World.heap W14)[l10]? = some (.loop lp23) ∧ lp23.state = .ready ∧ ∀ W22 : World, W22 = World.putObj W14 l10 (.loop { lp23 with state := .busy }) →
 ∀ w24 : World, w24 = World.drew W22 → ∃ x25 : Option Addr, World.cell? w24 (Addr.mk b1 0 none) = some (.pointer x25) ∧ Cl P f_hash_Below #[(.int .u64 x21), (.int .i64 (64 : Int))] w24 (fun (u26 : Value) (w27 : World) => ∃ x28 : Int, u26 = (.int .i64 x28) ∧ (∃ x29 : Option Addr, World.cell? w27 (Addr.mk b1 0 none) = some (.pointer x29) ∧ (.pointer x29) = ((.pointer x25) : Value)) ∧ Cl P f_sketch_Sketch_raise #[(.pointer x25), (.int .i64 x20), (.int .i64 x28)] w27 (fun (u30 : Value) (w31 : World) => u30 = (.tuple #[]) ∧ 
 ∃ lp32 : Loop, (World.heap w31)[l10]? = some (.loop lp32) ∧ ∀ w33 : World, w33 = World.putObj w31 l10 (.loop { lp32 with state := .ready, pending := none }) → R17 (.bool true) w33))) → Yl P l10 (List.toArray xs16) W14 R17) →
 Cl P gf66 (List.toArray (fs67 ++ [Value.func (.yield l10) #[] #[]] ++ cs68)) w11 (fun (_ : Value) (w35 : World) => ∃ lp34 : Loop, (World.heap w35)[l10]? = some (.loop lp34) ∧ lp34.state ≠ .busy ∧ ∀ w36 : World, w36 = World.putObj w35 l10 (.loop { lp34 with state := .exhausted }) →
 pendR lp34.pending (∃ x38 : Option Addr, World.cell? w36 (Addr.mk b1 0 none) = some (.pointer x38) ∧ ∃ p39 : Addr, x38 = some p39 ∧ ∃ x40 : Int, World.cell? w36 (Addr.add p39 129) = some (.int .i64 x40) ∧ ∃ p41 : Addr, x38 = some p41 ∧ ((∃ u, World.cell? w36 (Addr.add p41 129) = some u) ∧ World.frozen? w36 (Addr.add p41 129) = false) ∧ ∀ w42 : World, w42 = World.setCell w36 (Addr.add p41 129) (.int .i64 (IntKind.i64.wrap (x40 + (1 : Int)))) → 
 ∃ x43 : Option Addr, World.cell? w42 (Addr.mk b1 0 none) = some (.pointer x43) ∧ ∃ p44 : Addr, x43 = some p44 ∧ ∃ x45 : Int, World.cell? w42 (Addr.add p44 129) = some (.int .i64 x45) ∧ 
 (bif (decide (x45 < (640 : Int))) then
 
 (World.heap w42)[D9]? = some (.deferred (some [])) ∧ ∀ w46 : World, w46 = World.putObj w42 D9 (.deferred none) → R (.bool false) w46 else
 ∃ x47 : Option Addr, World.cell? w42 (Addr.mk b1 0 none) = some (.pointer x47) ∧ Cl P f_sketch_Sketch_halve #[(.pointer x47)] w42 (fun (u48 : Value) (w49 : World) => u48 = (.tuple #[]) ∧ 
 
 (World.heap w49)[D9]? = some (.deferred (some [])) ∧ ∀ w50 : World, w50 = World.putObj w49 D9 (.deferred none) → R (.bool true) w50))) ((World.heap w36)[D9]? = some (.deferred (some [])) ∧ ∀ w51 : World, w51 = World.putObj w36 D9 (.deferred none) → R (.bool false) w51) (fun i52 => (bif Nat.beq i52 0 then ∃ x53 : Option Addr, World.cell? w36 (Addr.mk b1 0 none) = some (.pointer x53) ∧ ∃ p54 : Addr, x53 = some p54 ∧ ∃ x55 : Int, World.cell? w36 (Addr.add p54 129) = some (.int .i64 x55) ∧ ∃ p56 : Addr, x53 = some p56 ∧ ((∃ u, World.cell? w36 (Addr.add p56 129) = some u) ∧ World.frozen? w36 (Addr.add p56 129) = false) ∧ ∀ w57 : World, w57 = World.setCell w36 (Addr.add p56 129) (.int .i64 (IntKind.i64.wrap (x55 + (1 : Int)))) → 
 ∃ x58 : Option Addr, World.cell? w57 (Addr.mk b1 0 none) = some (.pointer x58) ∧ ∃ p59 : Addr, x58 = some p59 ∧ ∃ x60 : Int, World.cell? w57 (Addr.add p59 129) = some (.int .i64 x60) ∧ 
 (bif (decide (x60 < (640 : Int))) then
 
 (World.heap w57)[D9]? = some (.deferred (some [])) ∧ ∀ w61 : World, w61 = World.putObj w57 D9 (.deferred none) → R (.bool false) w61 else
 ∃ x62 : Option Addr, World.cell? w57 (Addr.mk b1 0 none) = some (.pointer x62) ∧ Cl P f_sketch_Sketch_halve #[(.pointer x62)] w57 (fun (u63 : Value) (w64 : World) => u63 = (.tuple #[]) ∧ 
 
 (World.heap w64)[D9]? = some (.deferred (some [])) ∧ ∀ w65 : World, w65 = World.putObj w64 D9 (.deferred none) → R (.bool true) w65)) else False)))))
theorem e_sketch_Sketch_Add : (fun (a0 : Option Addr) (a1 : ByteArray) (w : World) (R : Value → World → Prop) => vf P f_sketch_Sketch_Add h_sketch_Sketch_Add [(.pointer a0), (.string a1)] w R) = c_sketch_Sketch_Add := by kernel_rfl
theorem cl_sketch_Sketch_Add {a0 : Option Addr} {a1 : ByteArray} {w : World} {R : Value → World → Prop} (h : c_sketch_Sketch_Add a0 a1 w R) : Cl P f_sketch_Sketch_Add #[(.pointer a0), (.string a1)] w R := cl_of mixed (congrFun (congrFun (congrFun (congrFun e_sketch_Sketch_Add a0) a1) w) R) h

def h_bloom_Filter_Clear : H := (.reg [])
def c_bloom_Filter_Clear (a0 : Option Addr) (w : World) (R : Value → World → Prop) : Prop :=
 ∃ p1 : Addr, a0 = some p1 ∧ (0 < (8 - 0) → ∃ p, (some (offB (Addr.add p1 1) 8 0 1)) = some p ∧ Wr w p ((8 - 0) * 1)) ∧ ∀ w2 : World, w2 = clrSet (some (offB (Addr.add p1 1) 8 0 1)) (8 - 0) [(.int .u64 (0 : Int))] w → 
 R (.tuple #[]) w2
theorem e_bloom_Filter_Clear : (fun (a0 : Option Addr) (w : World) (R : Value → World → Prop) => vf P f_bloom_Filter_Clear h_bloom_Filter_Clear [(.pointer a0)] w R) = c_bloom_Filter_Clear := by kernel_rfl
theorem cl_bloom_Filter_Clear {a0 : Option Addr} {w : World} {R : Value → World → Prop} (h : c_bloom_Filter_Clear a0 w R) : Cl P f_bloom_Filter_Clear #[(.pointer a0)] w R := cl_of mixed (congrFun (congrFun (congrFun e_bloom_Filter_Clear a0) w) R) h

def h_tiny_Judge_Worth : H := (.s (.reg []) (.s (.reg []) (.s (.s (.reg []) (.s (.reg []) .z)) (.s (.reg []) .z))))
def c_tiny_Judge_Worth (a0 : Option Addr) (a1 : ByteArray) (w : World) (R : Value → World → Prop) : Prop :=
 
 ∃ p1 : Addr, a0 = some p1 ∧ ∃ x2 : Option Addr, World.cell? w (Addr.add p1 1) = some (.pointer x2) ∧ Cl P f_sketch_Sketch_Count #[(.pointer x2), (.string a1)] w (fun (u3 : Value) (w4 : World) => ∃ x5 : Int, u3 = (.int .i64 x5) ∧ 
 ∃ p6 : Addr, a0 = some p6 ∧ ∃ x7 : Option Addr, World.cell? w4 (Addr.add p6 0) = some (.pointer x7) ∧ Cl P f_bloom_Filter_Has #[(.pointer x7), (.string a1)] w4 (fun (u8 : Value) (w9 : World) => ∃ x10 : Bool, u8 = (.bool x10) ∧ 
 (bif x10 then
 
 
 R (.int .i64 (IntKind.i64.wrap (x5 + (1 : Int)))) w9 else
 
 R (.int .i64 x5) w9)))
theorem e_tiny_Judge_Worth : (fun (a0 : Option Addr) (a1 : ByteArray) (w : World) (R : Value → World → Prop) => vf P f_tiny_Judge_Worth h_tiny_Judge_Worth [(.pointer a0), (.string a1)] w R) = c_tiny_Judge_Worth := by kernel_rfl
theorem cl_tiny_Judge_Worth {a0 : Option Addr} {a1 : ByteArray} {w : World} {R : Value → World → Prop} (h : c_tiny_Judge_Worth a0 a1 w R) : Cl P f_tiny_Judge_Worth #[(.pointer a0), (.string a1)] w R := cl_of mixed (congrFun (congrFun (congrFun (congrFun e_tiny_Judge_Worth a0) a1) w) R) h

def h_bloom_Filter_Has : H := (.s (.reg []) (.s (.s (.reg []) (.one (.rf [(.one (.int .i64)), (.one (.int .u64))] (.reg []) (.one (.s (.reg []) (.s (.reg []) (.s (.s (.reg []) .z) .z))))))) (.s (.reg []) .z)))
def c_bloom_Filter_Has (a0 : Option Addr) (a1 : ByteArray) (w : World) (R : Value → World → Prop) : Prop :=
 ∀ (b1 : Nat) (w2 : World), b1 = Array.size (World.heap w) → w2 = World.alloc w (.cells #[(.pointer a0)] T_p_bloom_Filter) → ∀ (b3 : Nat) (w4 : World), b3 = Array.size (World.heap w2) → w4 = World.alloc w2 (.cells #[(.bool false)] T_bool) → 
 ∃ x5 : Option Addr, World.cell? w4 (Addr.mk b1 0 none) = some (.pointer x5) ∧ ∃ p6 : Addr, x5 = some p6 ∧ ∃ x7 : Int, World.cell? w4 (Addr.add p6 0) = some (.int .u64 x7) ∧ Cl P f_hash_Several #[(.int .u64 x7), (.string a1), (.int .i64 (3 : Int))] w4 (fun (u8 : Value) (w9 : World) => ∃ x10 : Value, u8 = x10 ∧ 
 RfV x10 (fun (gf50 : FuncId) (fs51 cs52 : List Value) => entersB P gf50 = true ∧ ∀ (Lp15 : Loop → Prop) (lp14 : Loop) (D11 l12 : Nat) (w13 : World), D11 = Array.size (World.heap w9) → l12 = Array.size (World.heap w9) + 1 → w13 = World.alloc (World.alloc w9 (.deferred (some []))) (.loop lp14) → Lp15 lp14 → lp14.state = .ready → lp14.pending = none → (∀ (lp : Loop) (s : LoopState) (p : Option Code), Lp15 lp → Lp15 { lp with state := s, pending := p }) →
 (∀ (W16 : World) (lp17 : Loop) (xs18 : List Value) (R19 : Value → World → Prop), Lp15 lp17 → (World.heap W16)[l12]? = some (.loop lp17) → lp17.state = .ready → List.length xs18 = 2 → (∃ x22 : Int, ∃ x23 : Int, xs18 = [(.int .i64 x22), (.int .u64 x23)] ∧ 
 ∃ lp25 : Loop, (World.heap W16)[l12]? = some (.loop lp25) ∧ lp25.state = .ready ∧ ∀ W24 : World, W24 = World.putObj W16 l12 (.loop { lp25 with state := .busy }) →
 Cl P f_hash_Below #[(.int .u64 x23), (.int .i64 (512 : Int))] W24 (fun (u26 : Value) (w27 : World) => ∃ x28 : Int, u26 = (.int .i64 x28) ∧ 
 ∃ x29 : Option Addr, World.cell? w27 (Addr.mk b1 0 none) = some (.pointer x29) ∧ (64 : Int) ≠ 0 ∧ ∃ p30 : Addr, x29 = some p30 ∧ 0 ≤ (IntKind.i64.wrap (Int.tdiv x28 (64 : Int))) ∧ (IntKind.i64.wrap (Int.tdiv x28 (64 : Int))) < ((8 : Nat) : Int) ∧ ∃ x31 : Int, World.cell? w27 (Addr.add (Addr.add p30 1) (Int.toNat (IntKind.i64.wrap (Int.tdiv x28 (64 : Int))) * 1)) = some (.int .u64 x31) ∧ (64 : Int) ≠ 0 ∧ 0 ≤ (Int.tmod x28 (64 : Int)) ∧ 
 (bif ((IntKind.u64.wrap ((BitVec.ofInt (IntKind.bits .u64) (Int.fdiv x31 (2 ^ (min (Int.toNat (Int.tmod x28 (64 : Int))) (IntKind.bits .u64)))) &&& BitVec.ofInt (IntKind.bits .u64) (1 : Int)).toNat : Int)) == (0 : Int)) then
 ((∃ u, World.cell? w27 (Addr.mk b3 0 none) = some u) ∧ World.frozen? w27 (Addr.mk b3 0 none) = false) ∧ ∀ w32 : World, w32 = World.setCell w27 (Addr.mk b3 0 none) (.bool false) → 
 ∃ lp33 : Loop, (World.heap w32)[l12]? = some (.loop lp33) ∧ ∀ w34 : World, w34 = World.putObj w32 l12 (.loop { lp33 with state := .done, pending := (some .ret) }) → R19 (.bool false) w34 else
 ∃ lp35 : Loop, (World.heap w27)[l12]? = some (.loop lp35) ∧ ∀ w36 : World, w36 = World.putObj w27 l12 (.loop { lp35 with state := .ready, pending := none }) → R19 (.bool true) w36))) → Yl P l12 (List.toArray xs18) W16 R19) →
 Cl P gf50 (List.toArray (fs51 ++ [Value.func (.yield l12) #[] #[]] ++ cs52)) w13 (fun (_ : Value) (w38 : World) => ∃ lp37 : Loop, (World.heap w38)[l12]? = some (.loop lp37) ∧ lp37.state ≠ .busy ∧ ∀ w39 : World, w39 = World.putObj w38 l12 (.loop { lp37 with state := .exhausted }) →
 pendR lp37.pending (((∃ u, World.cell? w39 (Addr.mk b3 0 none) = some u) ∧ World.frozen? w39 (Addr.mk b3 0 none) = false) ∧ ∀ w41 : World, w41 = World.setCell w39 (Addr.mk b3 0 none) (.bool true) → 
 (World.heap w41)[D11]? = some (.deferred (some [])) ∧ ∀ w42 : World, w42 = World.putObj w41 D11 (.deferred none) → ∃ x43 : Bool, World.cell? w42 (Addr.mk b3 0 none) = some (.bool x43) ∧ R (.bool x43) w42) ((World.heap w39)[D11]? = some (.deferred (some [])) ∧ ∀ w44 : World, w44 = World.putObj w39 D11 (.deferred none) → ∃ x45 : Bool, World.cell? w44 (Addr.mk b3 0 none) = some (.bool x45) ∧ R (.bool x45) w44) (fun i46 => (bif Nat.beq i46 0 then ((∃ u, World.cell? w39 (Addr.mk b3 0 none) = some u) ∧ World.frozen? w39 (Addr.mk b3 0 none) = false) ∧ ∀ w47 : World, w47 = World.setCell w39 (Addr.mk b3 0 none) (.bool true) → 
 (World.heap w47)[D11]? = some (.deferred (some [])) ∧ ∀ w48 : World, w48 = World.putObj w47 D11 (.deferred none) → ∃ x49 : Bool, World.cell? w48 (Addr.mk b3 0 none) = some (.bool x49) ∧ R (.bool x49) w48 else False)))))
theorem e_bloom_Filter_Has : (fun (a0 : Option Addr) (a1 : ByteArray) (w : World) (R : Value → World → Prop) => vf P f_bloom_Filter_Has h_bloom_Filter_Has [(.pointer a0), (.string a1)] w R) = c_bloom_Filter_Has := by kernel_rfl
theorem cl_bloom_Filter_Has {a0 : Option Addr} {a1 : ByteArray} {w : World} {R : Value → World → Prop} (h : c_bloom_Filter_Has a0 a1 w R) : Cl P f_bloom_Filter_Has #[(.pointer a0), (.string a1)] w R := cl_of mixed (congrFun (congrFun (congrFun (congrFun e_bloom_Filter_Has a0) a1) w) R) h

def h_sketch_Sketch_raise : H := (.s (.reg []) (.s (.any #[[], [], [], [2], [0], [0, 4], [0, 1, 4, 5], [0, 1, 2, 3, 4, 5, 6], [0, 1, 2, 3, 4, 5, 6, 7], [], [9], [9, 10], [9, 10, 11], [0, 1, 2, 3, 4, 5, 6, 7, 8, 9, 10, 11, 12], [0], [0, 14], [0, 1, 14, 15], [0, 1, 2, 3, 4, 5, 6, 7, 8, 9, 10, 11, 12, 13, 14, 15, 16], [0, 1, 2, 3, 4, 5, 6, 7, 8, 9, 10, 11, 12, 13, 14, 15, 16, 17]] (.rd 0 (.rd 1 (.rd 2 (.rd 3 (.rd 4 (.rd 5 (.rd 6 (.rd 7 (.rd 8 (.rd 9 (.rd 10 (.rd 11 (.rd 12 (.rd 13 (.rd 14 (.rd 15 (.rd 16 (.rd 17 (.ef 18 .fin .no)))))))))))))))))))) .z))
def c_sketch_Sketch_raise (a0 : Option Addr) (a1 : Int) (a2 : Int) (w : World) (R : Value → World → Prop) : Prop :=
 Cl P f_sketch_Sketch_get #[(.pointer a0), (.int .i64 a1), (.int .i64 a2)] w (fun (u1 : Value) (w2 : World) => ∃ x3 : Int, u1 = (.int .i64 x3) ∧ 
 (bif (decide (x3 < (15 : Int))) then
 ∀ w4 : World, w4 = World.drew w2 → (2 : Int) ≠ 0 ∧ ∃ p5 : Addr, a0 = some p5 ∧ 0 ≤ a1 ∧ a1 < ((4 : Nat) : Int) ∧ 0 ≤ (IntKind.i64.wrap (Int.tdiv a2 (2 : Int))) ∧ (IntKind.i64.wrap (Int.tdiv a2 (2 : Int))) < ((32 : Nat) : Int) ∧ ∃ x6 : Int, World.cell? w4 (Addr.add (Addr.add (Addr.add p5 1) (Int.toNat a1 * 32)) (Int.toNat (IntKind.i64.wrap (Int.tdiv a2 (2 : Int))) * 1)) = some (.int .u8 x6) ∧ (2 : Int) ≠ 0 ∧ 0 ≤ (IntKind.i64.wrap ((4 : Int) * (Int.tmod a2 (2 : Int)))) ∧ ∃ p7 : Addr, a0 = some p7 ∧ 0 ≤ a1 ∧ a1 < ((4 : Nat) : Int) ∧ 0 ≤ (IntKind.i64.wrap (Int.tdiv a2 (2 : Int))) ∧ (IntKind.i64.wrap (Int.tdiv a2 (2 : Int))) < ((32 : Nat) : Int) ∧ ((∃ u, World.cell? w4 (Addr.add (Addr.add (Addr.add p7 1) (Int.toNat a1 * 32)) (Int.toNat (IntKind.i64.wrap (Int.tdiv a2 (2 : Int))) * 1)) = some u) ∧ World.frozen? w4 (Addr.add (Addr.add (Addr.add p7 1) (Int.toNat a1 * 32)) (Int.toNat (IntKind.i64.wrap (Int.tdiv a2 (2 : Int))) * 1)) = false) ∧ ∀ w8 : World, w8 = World.setCell w4 (Addr.add (Addr.add (Addr.add p7 1) (Int.toNat a1 * 32)) (Int.toNat (IntKind.i64.wrap (Int.tdiv a2 (2 : Int))) * 1)) (.int .u8 (IntKind.u8.wrap (x6 + (IntKind.u8.wrap ((1 : Int) * 2 ^ (min (Int.toNat (IntKind.i64.wrap ((4 : Int) * (Int.tmod a2 (2 : Int))))) (IntKind.bits .u8))))))) → 
 R (.tuple #[]) w8 else
 R (.tuple #[]) w2))
theorem e_sketch_Sketch_raise : (fun (a0 : Option Addr) (a1 : Int) (a2 : Int) (w : World) (R : Value → World → Prop) => vf P f_sketch_Sketch_raise h_sketch_Sketch_raise [(.pointer a0), (.int .i64 a1), (.int .i64 a2)] w R) = c_sketch_Sketch_raise := by kernel_rfl
theorem cl_sketch_Sketch_raise {a0 : Option Addr} {a1 : Int} {a2 : Int} {w : World} {R : Value → World → Prop} (h : c_sketch_Sketch_raise a0 a1 a2 w R) : Cl P f_sketch_Sketch_raise #[(.pointer a0), (.int .i64 a1), (.int .i64 a2)] w R := cl_of mixed (congrFun (congrFun (congrFun (congrFun (congrFun e_sketch_Sketch_raise a0) a1) a2) w) R) h

def h_sketch_Sketch_halve : H := (.s (.s (.reg []) (.one (.loop [(4, (.one (.int .i64)))] (.s (.reg []) (.s (.s .z .z) (.s (.one (.s (.reg []) (.s (.reg []) (.one (.loop [(7, (.one (.int .i64)))] (.s (.reg []) (.s (.s .z .z) (.s (.one (.s (.reg []) (.any #[[], [], [], [], [], [], [3], [3, 6], [3, 4, 6, 7], [3, 4, 5, 6, 7, 8], [3, 4, 5, 6, 7, 8, 9], [3, 4, 5, 6, 7, 8, 9, 10], [3, 4, 5, 6, 7, 8, 9, 10, 11], [0], [0, 13], [0, 1, 13, 14], [0, 1, 2, 3, 4, 5, 6, 7, 8, 9, 10, 11, 12, 13, 14, 15], [0, 1, 2, 3, 4, 5, 6, 7, 8, 9, 10, 11, 12, 13, 14, 15, 16]] (.rd 0 (.rd 1 (.rd 2 (.rd 3 (.rd 4 (.rd 5 (.rd 6 (.rd 7 (.rd 8 (.rd 9 (.rd 10 (.rd 11 (.rd 12 (.rd 13 (.rd 14 (.rd 15 (.rd 16 (.ef 17 .fin .no))))))))))))))))))))) (.reg []))))))))) (.reg []))))))) (.reg []))
def c_sketch_Sketch_halve (a0 : Option Addr) (w : World) (R : Value → World → Prop) : Prop :=
 
 ∃ (I1 : List Value → World → Prop) (m2 : List Value → World → Nat), (I1 [(.int .i64 (0 : Int))] w) ∧
 ∀ (vs3 : List Value) (w4 : World), I1 vs3 w4 → ∃ x5 : Int, vs3 = [(.int .i64 x5)] ∧ 
 (bif (decide (x5 < (4 : Int))) then
 
 
 ∃ (I6 : List Value → World → Prop) (m7 : List Value → World → Nat), (I6 [(.int .i64 (0 : Int))] w4) ∧
 ∀ (vs8 : List Value) (w9 : World), I6 vs8 w9 → ∃ x10 : Int, vs8 = [(.int .i64 x10)] ∧ 
 (bif (decide (x10 < (32 : Int))) then
 
 ∀ w11 : World, w11 = World.drew w9 → ∃ p12 : Addr, a0 = some p12 ∧ 0 ≤ x5 ∧ x5 < ((4 : Nat) : Int) ∧ 0 ≤ x10 ∧ x10 < ((32 : Nat) : Int) ∧ ∃ x13 : Int, World.cell? w11 (Addr.add (Addr.add (Addr.add p12 1) (Int.toNat x5 * 32)) (Int.toNat x10 * 1)) = some (.int .u8 x13) ∧ 0 ≤ (1 : Int) ∧ ∃ p14 : Addr, a0 = some p14 ∧ 0 ≤ x5 ∧ x5 < ((4 : Nat) : Int) ∧ 0 ≤ x10 ∧ x10 < ((32 : Nat) : Int) ∧ ((∃ u, World.cell? w11 (Addr.add (Addr.add (Addr.add p14 1) (Int.toNat x5 * 32)) (Int.toNat x10 * 1)) = some u) ∧ World.frozen? w11 (Addr.add (Addr.add (Addr.add p14 1) (Int.toNat x5 * 32)) (Int.toNat x10 * 1)) = false) ∧ ∀ w15 : World, w15 = World.setCell w11 (Addr.add (Addr.add (Addr.add p14 1) (Int.toNat x5 * 32)) (Int.toNat x10 * 1)) (.int .u8 (IntKind.u8.wrap ((BitVec.ofInt (IntKind.bits .u8) (Int.fdiv x13 (2 ^ (min (Int.toNat (1 : Int)) (IntKind.bits .u8)))) &&& BitVec.ofInt (IntKind.bits .u8) (119 : Int)).toNat : Int))) → 
 
 I6 [(.int .i64 (IntKind.i64.wrap (x10 + (1 : Int))))] w15 ∧ m7 [(.int .i64 (IntKind.i64.wrap (x10 + (1 : Int))))] w15 < m7 vs8 w9 else
 
 I1 [(.int .i64 (IntKind.i64.wrap (x5 + (1 : Int))))] w9 ∧ m2 [(.int .i64 (IntKind.i64.wrap (x5 + (1 : Int))))] w9 < m2 vs3 w4) else
 ∃ p16 : Addr, a0 = some p16 ∧ ((∃ u, World.cell? w4 (Addr.add p16 129) = some u) ∧ World.frozen? w4 (Addr.add p16 129) = false) ∧ ∀ w17 : World, w17 = World.setCell w4 (Addr.add p16 129) (.int .i64 (320 : Int)) → 
 R (.tuple #[]) w17)
theorem e_sketch_Sketch_halve : (fun (a0 : Option Addr) (w : World) (R : Value → World → Prop) => vf P f_sketch_Sketch_halve h_sketch_Sketch_halve [(.pointer a0)] w R) = c_sketch_Sketch_halve := by kernel_rfl
theorem cl_sketch_Sketch_halve {a0 : Option Addr} {w : World} {R : Value → World → Prop} (h : c_sketch_Sketch_halve a0 w R) : Cl P f_sketch_Sketch_halve #[(.pointer a0)] w R := cl_of mixed (congrFun (congrFun (congrFun e_sketch_Sketch_halve a0) w) R) h

def h_sketch_Sketch_Count : H := (.s (.reg []) (.s (.reg []) (.s (.s (.reg []) (.one (.rf [(.one (.int .i64)), (.one (.int .u64))] (.s (.reg []) (.reg [])) (.one (.any #[[], [], [], [], [3], [1, 2, 3, 4], [0, 1, 2, 3, 4, 5], [0, 1, 2, 3, 4, 5, 6]] (.rd 0 (.rd 1 (.rd 2 (.rd 3 (.ef 4 (.ef 5 (.rd 6 (.ef 7 .fin .no)) .no) .no)))))))))) (.s (.reg []) .z))))
def c_sketch_Sketch_Count (a0 : Option Addr) (a1 : ByteArray) (w : World) (R : Value → World → Prop) : Prop :=
 ∀ (b1 : Nat) (w2 : World), b1 = Array.size (World.heap w) → w2 = World.alloc w (.cells #[(.pointer a0)] T_p_sketch_Sketch) → 
 ∀ (b3 : Nat) (w4 : World), b3 = Array.size (World.heap w2) → w4 = World.alloc w2 (.cells #[(.int .i64 (0 : Int))] T_int) → ((∃ u, World.cell? w4 (Addr.mk b3 0 none) = some u) ∧ World.frozen? w4 (Addr.mk b3 0 none) = false) ∧ ∀ w5 : World, w5 = World.setCell w4 (Addr.mk b3 0 none) (.int .i64 (15 : Int)) → 
 ∃ x6 : Option Addr, World.cell? w5 (Addr.mk b1 0 none) = some (.pointer x6) ∧ ∃ p7 : Addr, x6 = some p7 ∧ ∃ x8 : Int, World.cell? w5 (Addr.add p7 0) = some (.int .u64 x8) ∧ Cl P f_hash_Several #[(.int .u64 x8), (.string a1), (.int .i64 (4 : Int))] w5 (fun (u9 : Value) (w10 : World) => ∃ x11 : Value, u9 = x11 ∧ 
 RfV x11 (fun (gf52 : FuncId) (fs53 cs54 : List Value) => entersB P gf52 = true ∧ ∀ (Lp16 : Loop → Prop) (lp15 : Loop) (D12 l13 : Nat) (w14 : World), D12 = Array.size (World.heap w10) → l13 = Array.size (World.heap w10) + 1 → w14 = World.alloc (World.alloc w10 (.deferred (some []))) (.loop lp15) → Lp16 lp15 → lp15.state = .ready → lp15.pending = none → (∀ (lp : Loop) (s : LoopState) (p : Option Code), Lp16 lp → Lp16 { lp with state := s, pending := p }) →
 (∀ (W17 : World) (lp18 : Loop) (xs19 : List Value) (R20 : Value → World → Prop), Lp16 lp18 → (World.heap W17)[l13]? = some (.loop lp18) → lp18.state = .ready → List.length xs19 = 2 → (∃ x23 : Int, ∃ x24 : Int, xs19 = [(.int .i64 x23), (.int .u64 x24)] ∧ 
 
 ∃ lp26 : Loop, (World.heap W17)[l13]? = some (.loop lp26) ∧ lp26.state = .ready ∧ ∀ W25 : World, W25 = World.putObj W17 l13 (.loop { lp26 with state := .busy }) →
 ∀ w27 : World, w27 = World.drew W25 → ∃ x28 : Int, World.cell? w27 (Addr.mk b3 0 none) = some (.int .i64 x28) ∧ ∃ x29 : Option Addr, World.cell? w27 (Addr.mk b1 0 none) = some (.pointer x29) ∧ Cl P f_hash_Below #[(.int .u64 x24), (.int .i64 (64 : Int))] w27 (fun (u30 : Value) (w31 : World) => ∃ x32 : Int, u30 = (.int .i64 x32) ∧ (∃ x33 : Option Addr, World.cell? w31 (Addr.mk b1 0 none) = some (.pointer x33) ∧ (.pointer x33) = ((.pointer x29) : Value)) ∧ (∃ x34 : Int, World.cell? w31 (Addr.mk b3 0 none) = some (.int .i64 x34) ∧ (.int .i64 x34) = ((.int .i64 x28) : Value)) ∧ Cl P f_sketch_Sketch_get #[(.pointer x29), (.int .i64 x23), (.int .i64 x32)] w31 (fun (u35 : Value) (w36 : World) => ∃ x37 : Int, u35 = (.int .i64 x37) ∧ (∃ x38 : Int, World.cell? w36 (Addr.mk b3 0 none) = some (.int .i64 x38) ∧ (.int .i64 x38) = ((.int .i64 x28) : Value)) ∧ ((∃ u, World.cell? w36 (Addr.mk b3 0 none) = some u) ∧ World.frozen? w36 (Addr.mk b3 0 none) = false) ∧ ∀ w39 : World, w39 = World.setCell w36 (Addr.mk b3 0 none) (.int .i64 (if x37 < x28 then x37 else x28)) → 
 ∃ lp40 : Loop, (World.heap w39)[l13]? = some (.loop lp40) ∧ ∀ w41 : World, w41 = World.putObj w39 l13 (.loop { lp40 with state := .ready, pending := none }) → R20 (.bool true) w41))) → Yl P l13 (List.toArray xs19) W17 R20) →
 Cl P gf52 (List.toArray (fs53 ++ [Value.func (.yield l13) #[] #[]] ++ cs54)) w14 (fun (_ : Value) (w43 : World) => ∃ lp42 : Loop, (World.heap w43)[l13]? = some (.loop lp42) ∧ lp42.state ≠ .busy ∧ ∀ w44 : World, w44 = World.putObj w43 l13 (.loop { lp42 with state := .exhausted }) →
 pendR lp42.pending (∃ x46 : Int, World.cell? w44 (Addr.mk b3 0 none) = some (.int .i64 x46) ∧ 
 (World.heap w44)[D12]? = some (.deferred (some [])) ∧ ∀ w47 : World, w47 = World.putObj w44 D12 (.deferred none) → R (.int .i64 x46) w47) ((World.heap w44)[D12]? = some (.deferred (some [])) ∧ ∀ w48 : World, w48 = World.putObj w44 D12 (.deferred none) → R (.int .i64 (0 : Int)) w48) (fun i49 => (bif Nat.beq i49 0 then ∃ x50 : Int, World.cell? w44 (Addr.mk b3 0 none) = some (.int .i64 x50) ∧ 
 (World.heap w44)[D12]? = some (.deferred (some [])) ∧ ∀ w51 : World, w51 = World.putObj w44 D12 (.deferred none) → R (.int .i64 x50) w51 else False)))))
theorem e_sketch_Sketch_Count : (fun (a0 : Option Addr) (a1 : ByteArray) (w : World) (R : Value → World → Prop) => vf P f_sketch_Sketch_Count h_sketch_Sketch_Count [(.pointer a0), (.string a1)] w R) = c_sketch_Sketch_Count := by kernel_rfl
theorem cl_sketch_Sketch_Count {a0 : Option Addr} {a1 : ByteArray} {w : World} {R : Value → World → Prop} (h : c_sketch_Sketch_Count a0 a1 w R) : Cl P f_sketch_Sketch_Count #[(.pointer a0), (.string a1)] w R := cl_of mixed (congrFun (congrFun (congrFun (congrFun e_sketch_Sketch_Count a0) a1) w) R) h

def h_sketch_Sketch_get : H := (.s (.reg []) (.s (.reg []) .z))
def c_sketch_Sketch_get (a0 : Option Addr) (a1 : Int) (a2 : Int) (w : World) (R : Value → World → Prop) : Prop :=
 
 (2 : Int) ≠ 0 ∧ ∃ p1 : Addr, a0 = some p1 ∧ 0 ≤ a1 ∧ a1 < ((4 : Nat) : Int) ∧ 0 ≤ (IntKind.i64.wrap (Int.tdiv a2 (2 : Int))) ∧ (IntKind.i64.wrap (Int.tdiv a2 (2 : Int))) < ((32 : Nat) : Int) ∧ ∃ x2 : Int, World.cell? w (Addr.add (Addr.add (Addr.add p1 1) (Int.toNat a1 * 32)) (Int.toNat (IntKind.i64.wrap (Int.tdiv a2 (2 : Int))) * 1)) = some (.int .u8 x2) ∧ (2 : Int) ≠ 0 ∧ 0 ≤ (IntKind.i64.wrap ((4 : Int) * (Int.tmod a2 (2 : Int)))) ∧ 
 R (.int .i64 (IntKind.i64.wrap (IntKind.u8.wrap ((BitVec.ofInt (IntKind.bits .u8) (Int.fdiv x2 (2 ^ (min (Int.toNat (IntKind.i64.wrap ((4 : Int) * (Int.tmod a2 (2 : Int))))) (IntKind.bits .u8)))) &&& BitVec.ofInt (IntKind.bits .u8) (15 : Int)).toNat : Int)))) w
theorem e_sketch_Sketch_get : (fun (a0 : Option Addr) (a1 : Int) (a2 : Int) (w : World) (R : Value → World → Prop) => vf P f_sketch_Sketch_get h_sketch_Sketch_get [(.pointer a0), (.int .i64 a1), (.int .i64 a2)] w R) = c_sketch_Sketch_get := by kernel_rfl
theorem cl_sketch_Sketch_get {a0 : Option Addr} {a1 : Int} {a2 : Int} {w : World} {R : Value → World → Prop} (h : c_sketch_Sketch_get a0 a1 a2 w R) : Cl P f_sketch_Sketch_get #[(.pointer a0), (.int .i64 a1), (.int .i64 a2)] w R := cl_of mixed (congrFun (congrFun (congrFun (congrFun (congrFun e_sketch_Sketch_get a0) a1) a2) w) R) h

def h_tiny_New : H := (.s (.reg []) (.s (.reg []) .z))
def c_tiny_New (a0 : Int) (w : World) (R : Value → World → Prop) : Prop :=
 
 Cl P f_bloom_New #[(.int .u64 a0)] w (fun (u1 : Value) (w2 : World) => ∃ x3 : Option Addr, u1 = (.pointer x3) ∧ Cl P f_sketch_New #[(.int .u64 (IntKind.u64.wrap (a0 + (1 : Int))))] w2 (fun (u4 : Value) (w5 : World) => ∃ x6 : Option Addr, u4 = (.pointer x6) ∧ ∀ (b7 : Nat) (w8 : World), b7 = Array.size (World.heap w5) → w8 = World.alloc w5 (.cells #[(.pointer x3), (.pointer x6)] T_tiny_Judge) → 
 R (.pointer (some (Addr.mk b7 0 none))) w8))
theorem e_tiny_New : (fun (a0 : Int) (w : World) (R : Value → World → Prop) => vf P f_tiny_New h_tiny_New [(.int .u64 a0)] w R) = c_tiny_New := by kernel_rfl
theorem cl_tiny_New {a0 : Int} {w : World} {R : Value → World → Prop} (h : c_tiny_New a0 w R) : Cl P f_tiny_New #[(.int .u64 a0)] w R := cl_of mixed (congrFun (congrFun (congrFun e_tiny_New a0) w) R) h

def h_bloom_New : H := (.s (.reg []) (.s (.reg []) .z))
def c_bloom_New (a0 : Int) (w : World) (R : Value → World → Prop) : Prop :=
 
 ∀ (b1 : Nat) (w2 : World), b1 = Array.size (World.heap w) → w2 = World.alloc w (.cells #[(.int .u64 a0), (.int .u64 (0 : Int)), (.int .u64 (0 : Int)), (.int .u64 (0 : Int)), (.int .u64 (0 : Int)), (.int .u64 (0 : Int)), (.int .u64 (0 : Int)), (.int .u64 (0 : Int)), (.int .u64 (0 : Int))] T_bloom_Filter) → 
 R (.pointer (some (Addr.mk b1 0 none))) w2
theorem e_bloom_New : (fun (a0 : Int) (w : World) (R : Value → World → Prop) => vf P f_bloom_New h_bloom_New [(.int .u64 a0)] w R) = c_bloom_New := by kernel_rfl
theorem cl_bloom_New {a0 : Int} {w : World} {R : Value → World → Prop} (h : c_bloom_New a0 w R) : Cl P f_bloom_New #[(.int .u64 a0)] w R := cl_of mixed (congrFun (congrFun (congrFun e_bloom_New a0) w) R) h

def h_sketch_New : H := (.s (.reg []) (.s (.reg []) .z))
def c_sketch_New (a0 : Int) (w : World) (R : Value → World → Prop) : Prop :=
 
 ∀ (b1 : Nat) (w2 : World), b1 = Array.size (World.heap w) → w2 = World.alloc w (.cells #[(.int .u64 a0), (.int .u8 (0 : Int)), (.int .u8 (0 : Int)), (.int .u8 (0 : Int)), (.int .u8 (0 : Int)), (.int .u8 (0 : Int)), (.int .u8 (0 : Int)), (.int .u8 (0 : Int)), (.int .u8 (0 : Int)), (.int .u8 (0 : Int)), (.int .u8 (0 : Int)), (.int .u8 (0 : Int)), (.int .u8 (0 : Int)), (.int .u8 (0 : Int)), (.int .u8 (0 : Int)), (.int .u8 (0 : Int)), (.int .u8 (0 : Int)), (.int .u8 (0 : Int)), (.int .u8 (0 : Int)), (.int .u8 (0 : Int)), (.int .u8 (0 : Int)), (.int .u8 (0 : Int)), (.int .u8 (0 : Int)), (.int .u8 (0 : Int)), (.int .u8 (0 : Int)), (.int .u8 (0 : Int)), (.int .u8 (0 : Int)), (.int .u8 (0 : Int)), (.int .u8 (0 : Int)), (.int .u8 (0 : Int)), (.int .u8 (0 : Int)), (.int .u8 (0 : Int)), (.int .u8 (0 : Int)), (.int .u8 (0 : Int)), (.int .u8 (0 : Int)), (.int .u8 (0 : Int)), (.int .u8 (0 : Int)), (.int .u8 (0 : Int)), (.int .u8 (0 : Int)), (.int .u8 (0 : Int)), (.int .u8 (0 : Int)), (.int .u8 (0 : Int)), (.int .u8 (0 : Int)), (.int .u8 (0 : Int)), (.int .u8 (0 : Int)), (.int .u8 (0 : Int)), (.int .u8 (0 : Int)), (.int .u8 (0 : Int)), (.int .u8 (0 : Int)), (.int .u8 (0 : Int)), (.int .u8 (0 : Int)), (.int .u8 (0 : Int)), (.int .u8 (0 : Int)), (.int .u8 (0 : Int)), (.int .u8 (0 : Int)), (.int .u8 (0 : Int)), (.int .u8 (0 : Int)), (.int .u8 (0 : Int)), (.int .u8 (0 : Int)), (.int .u8 (0 : Int)), (.int .u8 (0 : Int)), (.int .u8 (0 : Int)), (.int .u8 (0 : Int)), (.int .u8 (0 : Int)), (.int .u8 (0 : Int)), (.int .u8 (0 : Int)), (.int .u8 (0 : Int)), (.int .u8 (0 : Int)), (.int .u8 (0 : Int)), (.int .u8 (0 : Int)), (.int .u8 (0 : Int)), (.int .u8 (0 : Int)), (.int .u8 (0 : Int)), (.int .u8 (0 : Int)), (.int .u8 (0 : Int)), (.int .u8 (0 : Int)), (.int .u8 (0 : Int)), (.int .u8 (0 : Int)), (.int .u8 (0 : Int)), (.int .u8 (0 : Int)), (.int .u8 (0 : Int)), (.int .u8 (0 : Int)), (.int .u8 (0 : Int)), (.int .u8 (0 : Int)), (.int .u8 (0 : Int)), (.int .u8 (0 : Int)), (.int .u8 (0 : Int)), (.int .u8 (0 : Int)), (.int .u8 (0 : Int)), (.int .u8 (0 : Int)), (.int .u8 (0 : Int)), (.int .u8 (0 : Int)), (.int .u8 (0 : Int)), (.int .u8 (0 : Int)), (.int .u8 (0 : Int)), (.int .u8 (0 : Int)), (.int .u8 (0 : Int)), (.int .u8 (0 : Int)), (.int .u8 (0 : Int)), (.int .u8 (0 : Int)), (.int .u8 (0 : Int)), (.int .u8 (0 : Int)), (.int .u8 (0 : Int)), (.int .u8 (0 : Int)), (.int .u8 (0 : Int)), (.int .u8 (0 : Int)), (.int .u8 (0 : Int)), (.int .u8 (0 : Int)), (.int .u8 (0 : Int)), (.int .u8 (0 : Int)), (.int .u8 (0 : Int)), (.int .u8 (0 : Int)), (.int .u8 (0 : Int)), (.int .u8 (0 : Int)), (.int .u8 (0 : Int)), (.int .u8 (0 : Int)), (.int .u8 (0 : Int)), (.int .u8 (0 : Int)), (.int .u8 (0 : Int)), (.int .u8 (0 : Int)), (.int .u8 (0 : Int)), (.int .u8 (0 : Int)), (.int .u8 (0 : Int)), (.int .u8 (0 : Int)), (.int .u8 (0 : Int)), (.int .u8 (0 : Int)), (.int .u8 (0 : Int)), (.int .u8 (0 : Int)), (.int .u8 (0 : Int)), (.int .i64 (0 : Int))] T_sketch_Sketch) → 
 R (.pointer (some (Addr.mk b1 0 none))) w2
theorem e_sketch_New : (fun (a0 : Int) (w : World) (R : Value → World → Prop) => vf P f_sketch_New h_sketch_New [(.int .u64 a0)] w R) = c_sketch_New := by kernel_rfl
theorem cl_sketch_New {a0 : Int} {w : World} {R : Value → World → Prop} (h : c_sketch_New a0 w R) : Cl P f_sketch_New #[(.int .u64 a0)] w R := cl_of mixed (congrFun (congrFun (congrFun e_sketch_New a0) w) R) h

def h_hash_Several : H := (.s (.reg []) (.s (.reg []) .z))
def c_hash_Several (a0 : Int) (a1 : ByteArray) (a2 : Int) (w : World) (R : Value → World → Prop) : Prop :=
 ∀ (b1 : Nat) (w2 : World), b1 = Array.size (World.heap w) → w2 = World.alloc w (.cells #[(.int .u64 a0)] T_uint64) → ∀ (b3 : Nat) (w4 : World), b3 = Array.size (World.heap w2) → w4 = World.alloc w2 (.cells #[(.string a1)] T_string) → ∀ (b5 : Nat) (w6 : World), b5 = Array.size (World.heap w4) → w6 = World.alloc w4 (.cells #[(.int .i64 a2)] T_int) → 
 
 R (.func (.func f_hash_Several_1) #[] #[(.pointer (some (Addr.mk b5 0 none))), (.pointer (some (Addr.mk b1 0 none))), (.pointer (some (Addr.mk b3 0 none)))]) w6
theorem e_hash_Several : (fun (a0 : Int) (a1 : ByteArray) (a2 : Int) (w : World) (R : Value → World → Prop) => vf P f_hash_Several h_hash_Several [(.int .u64 a0), (.string a1), (.int .i64 a2)] w R) = c_hash_Several := by kernel_rfl
theorem cl_hash_Several {a0 : Int} {a1 : ByteArray} {a2 : Int} {w : World} {R : Value → World → Prop} (h : c_hash_Several a0 a1 a2 w R) : Cl P f_hash_Several #[(.int .u64 a0), (.string a1), (.int .i64 a2)] w R := cl_of mixed (congrFun (congrFun (congrFun (congrFun (congrFun e_hash_Several a0) a1) a2) w) R) h

def h_hash_Below : H := (.s (.reg []) (.s (.s (.reg []) (.s (.s (.reg []) .z) .z)) (.s (.reg []) .z)))
def c_hash_Below (a0 : Int) (a1 : Int) (w : World) (R : Value → World → Prop) : Prop :=
 
 
 (bif (decide (a1 < (1 : Int))) then
 
 R (.int .i64 (0 : Int)) w else
 (IntKind.u64.wrap a1) ≠ 0 ∧ 
 R (.int .i64 (IntKind.i64.wrap (Int.tmod a0 (IntKind.u64.wrap a1)))) w)
theorem e_hash_Below : (fun (a0 : Int) (a1 : Int) (w : World) (R : Value → World → Prop) => vf P f_hash_Below h_hash_Below [(.int .u64 a0), (.int .i64 a1)] w R) = c_hash_Below := by kernel_rfl
theorem cl_hash_Below {a0 : Int} {a1 : Int} {w : World} {R : Value → World → Prop} (h : c_hash_Below a0 a1 w R) : Cl P f_hash_Below #[(.int .u64 a0), (.int .i64 a1)] w R := cl_of mixed (congrFun (congrFun (congrFun (congrFun e_hash_Below a0) a1) w) R) h

def h_hash_Of : H := (.s (.reg []) (.s (.reg []) (.s (.s (.reg []) (.one (.loop [(5, (.one (.int .u64))), (11, (.one (.int .i64)))] (.s (.reg []) (.s (.s .z .z) (.s (.one (.s (.reg []) (.reg []))) (.reg []))))))) (.s (.reg []) .z))))
def c_hash_Of (a0 : Int) (a1 : ByteArray) (w : World) (R : Value → World → Prop) : Prop :=
 
 Cl P f_hash_Mix #[(.int .u64 a0)] w (fun (u1 : Value) (w2 : World) => ∃ x3 : Int, u1 = (.int .u64 x3) ∧ 
 
 ∃ (I4 : List Value → World → Prop) (m5 : List Value → World → Nat), (I4 [(.int .u64 x3), (.int .i64 (0 : Int))] w2) ∧
 ∀ (vs6 : List Value) (w7 : World), I4 vs6 w7 → ∃ x8 : Int, ∃ x9 : Int, vs6 = [(.int .u64 x8), (.int .i64 x9)] ∧ 
 (bif (decide (x9 < ((ByteArray.size a1 : Nat) : Int))) then
 
 0 ≤ x9 ∧ ∃ b10 : UInt8, a1[Int.toNat x9]? = some b10 ∧ 
 
 I4 [(.int .u64 (IntKind.u64.wrap ((IntKind.u64.wrap ((BitVec.ofInt (IntKind.bits .u64) x8 ^^^ BitVec.ofInt (IntKind.bits .u64) (IntKind.u64.wrap ((UInt8.toNat b10 : Nat) : Int))).toNat : Int)) * (1099511628211 : Int)))), (.int .i64 (IntKind.i64.wrap (x9 + (1 : Int))))] w7 ∧ m5 [(.int .u64 (IntKind.u64.wrap ((IntKind.u64.wrap ((BitVec.ofInt (IntKind.bits .u64) x8 ^^^ BitVec.ofInt (IntKind.bits .u64) (IntKind.u64.wrap ((UInt8.toNat b10 : Nat) : Int))).toNat : Int)) * (1099511628211 : Int)))), (.int .i64 (IntKind.i64.wrap (x9 + (1 : Int))))] w7 < m5 vs6 w7 else
 Cl P f_hash_Mix #[(.int .u64 x8)] w7 (fun (u11 : Value) (w12 : World) => ∃ x13 : Int, u11 = (.int .u64 x13) ∧ 
 R (.int .u64 x13) w12)))
theorem e_hash_Of : (fun (a0 : Int) (a1 : ByteArray) (w : World) (R : Value → World → Prop) => vf P f_hash_Of h_hash_Of [(.int .u64 a0), (.string a1)] w R) = c_hash_Of := by kernel_rfl
theorem cl_hash_Of {a0 : Int} {a1 : ByteArray} {w : World} {R : Value → World → Prop} (h : c_hash_Of a0 a1 w R) : Cl P f_hash_Of #[(.int .u64 a0), (.string a1)] w R := cl_of mixed (congrFun (congrFun (congrFun (congrFun e_hash_Of a0) a1) w) R) h

def h_hash_Several_1 : H := (.s (.reg []) (.one (.loop [(7, (.one (.int .i64)))] (.s (.reg []) (.s (.s .z .z) (.s (.one (.s (.reg []) (.s (.reg []) (.s .z .z)))) (.reg [])))))))
def c_hash_Several_1 (a0 : Value) (q0 : Addr) (q1 : Addr) (q2 : Addr) (w : World) (R : Value → World → Prop) : Prop :=
 ∃ x1 : Int, World.cell? w q0 = some (.int .i64 x1) ∧ 
 ∃ (I2 : List Value → World → Prop) (m3 : List Value → World → Nat), (I2 [(.int .i64 (0 : Int))] w) ∧
 ∀ (vs4 : List Value) (w5 : World), I2 vs4 w5 → ∃ x6 : Int, vs4 = [(.int .i64 x6)] ∧ 
 (bif (decide (x6 < x1)) then
 
 ∃ x7 : Int, World.cell? w5 q1 = some (.int .u64 x7) ∧ ∃ x8 : ByteArray, World.cell? w5 q2 = some (.string x8) ∧ Cl P f_hash_Of #[(.int .u64 (IntKind.u64.wrap (x7 + (IntKind.u64.wrap x6)))), (.string x8)] w5 (fun (u9 : Value) (w10 : World) => ∃ x11 : Int, u9 = (.int .u64 x11) ∧ FvCall P a0 [(.int .i64 x6), (.int .u64 x11)] w10 (fun (u12 : Value) (w13 : World) => ∃ x14 : Bool, u12 = (.bool x14) ∧ 
 (bif (!x14) then
 R (.tuple #[]) w13 else
 
 I2 [(.int .i64 (IntKind.i64.wrap (x6 + (1 : Int))))] w13 ∧ m3 [(.int .i64 (IntKind.i64.wrap (x6 + (1 : Int))))] w13 < m3 vs4 w5))) else
 R (.tuple #[]) w5)
theorem e_hash_Several_1 : (fun (a0 : Value) (q0 : Addr) (q1 : Addr) (q2 : Addr) (w : World) (R : Value → World → Prop) => vf P f_hash_Several_1 h_hash_Several_1 [a0, (.pointer (some q0)), (.pointer (some q1)), (.pointer (some q2))] w R) = c_hash_Several_1 := by kernel_rfl
theorem cl_hash_Several_1 {a0 : Value} {q0 : Addr} {q1 : Addr} {q2 : Addr} {w : World} {R : Value → World → Prop} (h : c_hash_Several_1 a0 q0 q1 q2 w R) : Cl P f_hash_Several_1 #[a0, (.pointer (some q0)), (.pointer (some q1)), (.pointer (some q2))] w R := cl_of mixed (congrFun (congrFun (congrFun (congrFun (congrFun (congrFun e_hash_Several_1 a0) q0) q1) q2) w) R) h

def h_hash_Mix : H := (.s (.reg []) (.s (.reg []) (.s (.reg []) (.s (.reg []) .z))))
def c_hash_Mix (a0 : Int) (w : World) (R : Value → World → Prop) : Prop :=
 
 0 ≤ (30 : Int) ∧ 
 0 ≤ (27 : Int) ∧ 
 0 ≤ (31 : Int) ∧ 
 R (.int .u64 (IntKind.u64.wrap ((BitVec.ofInt (IntKind.bits .u64) (IntKind.u64.wrap ((IntKind.u64.wrap ((BitVec.ofInt (IntKind.bits .u64) (IntKind.u64.wrap ((IntKind.u64.wrap ((BitVec.ofInt (IntKind.bits .u64) a0 ^^^ BitVec.ofInt (IntKind.bits .u64) (Int.fdiv a0 (2 ^ (min (Int.toNat (30 : Int)) (IntKind.bits .u64))))).toNat : Int)) * (13787848793156543929 : Int))) ^^^ BitVec.ofInt (IntKind.bits .u64) (Int.fdiv (IntKind.u64.wrap ((IntKind.u64.wrap ((BitVec.ofInt (IntKind.bits .u64) a0 ^^^ BitVec.ofInt (IntKind.bits .u64) (Int.fdiv a0 (2 ^ (min (Int.toNat (30 : Int)) (IntKind.bits .u64))))).toNat : Int)) * (13787848793156543929 : Int))) (2 ^ (min (Int.toNat (27 : Int)) (IntKind.bits .u64))))).toNat : Int)) * (10723151780598845931 : Int))) ^^^ BitVec.ofInt (IntKind.bits .u64) (Int.fdiv (IntKind.u64.wrap ((IntKind.u64.wrap ((BitVec.ofInt (IntKind.bits .u64) (IntKind.u64.wrap ((IntKind.u64.wrap ((BitVec.ofInt (IntKind.bits .u64) a0 ^^^ BitVec.ofInt (IntKind.bits .u64) (Int.fdiv a0 (2 ^ (min (Int.toNat (30 : Int)) (IntKind.bits .u64))))).toNat : Int)) * (13787848793156543929 : Int))) ^^^ BitVec.ofInt (IntKind.bits .u64) (Int.fdiv (IntKind.u64.wrap ((IntKind.u64.wrap ((BitVec.ofInt (IntKind.bits .u64) a0 ^^^ BitVec.ofInt (IntKind.bits .u64) (Int.fdiv a0 (2 ^ (min (Int.toNat (30 : Int)) (IntKind.bits .u64))))).toNat : Int)) * (13787848793156543929 : Int))) (2 ^ (min (Int.toNat (27 : Int)) (IntKind.bits .u64))))).toNat : Int)) * (10723151780598845931 : Int))) (2 ^ (min (Int.toNat (31 : Int)) (IntKind.bits .u64))))).toNat : Int))) w
theorem e_hash_Mix : (fun (a0 : Int) (w : World) (R : Value → World → Prop) => vf P f_hash_Mix h_hash_Mix [(.int .u64 a0)] w R) = c_hash_Mix := by kernel_rfl
theorem cl_hash_Mix {a0 : Int} {w : World} {R : Value → World → Prop} (h : c_hash_Mix a0 w R) : Cl P f_hash_Mix #[(.int .u64 a0)] w R := cl_of mixed (congrFun (congrFun (congrFun e_hash_Mix a0) w) R) h

end Go.Bty
