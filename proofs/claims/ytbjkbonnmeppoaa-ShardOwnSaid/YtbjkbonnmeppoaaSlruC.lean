/- The conditions of functions of the program: what must hold ahead of a call, and that it is enough. -/
import Derived.Test.YtbjkbonnmeppoaaBtyNum
namespace Go.Bty
open Go
open Go.Proofs.Try renaming prog → P
set_option maxRecDepth 100000
def h_slru_List_Add : H := (.s (.reg []) (.s (.s (.reg []) (.s (.s (.reg []) .z) .z)) (.s (.reg []) (.s (.reg []) (.s (.reg []) (.s (.reg []) .z))))))
def c_slru_List_Add (a0 : Option Addr) (a1 : ByteArray) (w : World) (R : Value → World → Prop) : Prop :=
 
 ∃ p1 : Addr, a0 = some p1 ∧ ∃ x2 : Option Nat, World.cell? w (Addr.add p1 1) = some (.map x2) ∧ OnSome x2 (fun p5 => ∃ (es3 : Array MapEntry) (mc4 : Nat), (World.heap w)[p5]? = some (.map es3 mc4) ∧ KeysOk .str (Array.toList es3) ∧ ∃ x6 : Option Addr, Option.getD (mget (.string a1) (Array.toList es3)) (.pointer none) = (.pointer x6) ∧ 
 (bif (!(Option.isNone x6)) then
 
 R (.int .i64 (7 : Int)) w else
 ∀ (b7 : Nat) (w8 : World), b7 = Array.size (World.heap w) → w8 = World.alloc w (.cells #[(.string a1), (.pointer none), (.pointer none), (.pointer none)] T_slru_node) → 
 ∃ p9 : Addr, a0 = some p9 ∧ ∃ x10 : Option Nat, World.cell? w8 (Addr.add p9 1) = some (.map x10) ∧ OnSome x10 (fun p13 => ∃ (es11 : Array MapEntry) (mc12 : Nat), (World.heap w8)[p13]? = some (.map es11 mc12) ∧ KeysOk .str (Array.toList es11) ∧ ∀ w14 : World, w14 = World.putObj w8 p13 (mput (.string a1) (.pointer (some (Addr.mk b7 0 none))) es11 mc12) → 
 ∃ p15 : Addr, a0 = some p15 ∧ Cl P f_slru_row_push #[(.pointer (some (Addr.add p15 2))), (.pointer (some (Addr.mk b7 0 none)))] w14 (fun (u16 : Value) (w17 : World) => u16 = (.tuple #[]) ∧ 
 
 R (.int .i64 (0 : Int)) w17))))
theorem e_slru_List_Add : (fun (a0 : Option Addr) (a1 : ByteArray) (w : World) (R : Value → World → Prop) => vf P f_slru_List_Add h_slru_List_Add [(.pointer a0), (.string a1)] w R) = c_slru_List_Add := by kernel_rfl
theorem cl_slru_List_Add {a0 : Option Addr} {a1 : ByteArray} {w : World} {R : Value → World → Prop} (h : c_slru_List_Add a0 a1 w R) : Cl P f_slru_List_Add #[(.pointer a0), (.string a1)] w R := cl_of mixed (congrFun (congrFun (congrFun (congrFun e_slru_List_Add a0) a1) w) R) h

def h_slru_List_Hit : H := (.s (.reg []) (.s (.reg []) (.s (.s (.reg []) (.s (.s (.reg []) .z) .z)) (.s (.reg []) (.s (.reg []) (.s (.s (.any #[[], [0], [0, 1], [0, 1, 2], [0, 1, 2, 3], [], [5], [5, 6], [5, 6, 7], [5, 6, 7, 8], [0, 1, 2, 3, 4, 5, 6, 7, 8, 9]] (.rd 0 (.rd 1 (.rd 2 (.rd 3 (.rd 4 (.rd 5 (.rd 6 (.rd 7 (.rd 8 (.rd 9 (.rd 10 .fin)))))))))))) (.s (.s (.reg []) (.s (.reg []) (.reg []))) .z)) (.s (.reg []) .z)))))))
def c_slru_List_Hit (a0 : Option Addr) (a1 : ByteArray) (w : World) (R : Value → World → Prop) : Prop :=
 
 ∃ p1 : Addr, a0 = some p1 ∧ ∃ x2 : Option Nat, World.cell? w (Addr.add p1 1) = some (.map x2) ∧ OnSome x2 (fun p5 => ∃ (es3 : Array MapEntry) (mc4 : Nat), (World.heap w)[p5]? = some (.map es3 mc4) ∧ KeysOk .str (Array.toList es3) ∧ ∃ x6 : Option Addr, Option.getD (mget (.string a1) (Array.toList es3)) (.pointer none) = (.pointer x6) ∧ 
 
 (bif (Option.isNone x6) then
 
 R (.int .i64 (6 : Int)) w else
 Cl P f_slru_node_pull #[(.pointer x6)] w (fun (u7 : Value) (w8 : World) => u7 = (.tuple #[]) ∧ 
 ∃ p9 : Addr, a0 = some p9 ∧ Cl P f_slru_row_push #[(.pointer (some (Addr.add p9 5))), (.pointer x6)] w8 (fun (u10 : Value) (w11 : World) => u10 = (.tuple #[]) ∧ 
 ∀ w12 : World, w12 = World.drew w11 → ∃ p13 : Addr, a0 = some p13 ∧ ∃ x14 : Int, World.cell? w12 (Addr.add (Addr.add p13 5) 2) = some (.int .i64 x14) ∧ ∃ p15 : Addr, a0 = some p15 ∧ ∃ x16 : Int, World.cell? w12 (Addr.add p15 0) = some (.int .i64 x16) ∧ 
 (bif (decide (x14 > (if (0 : Int) > x16 then (0 : Int) else x16))) then
 ∃ p17 : Addr, a0 = some p17 ∧ ∃ x18 : Option Addr, World.cell? w12 (Addr.add (Addr.add p17 5) 0) = some (.pointer x18) ∧ 
 Cl P f_slru_node_pull #[(.pointer x18)] w12 (fun (u19 : Value) (w20 : World) => u19 = (.tuple #[]) ∧ 
 ∃ p21 : Addr, a0 = some p21 ∧ Cl P f_slru_row_push #[(.pointer (some (Addr.add p21 2))), (.pointer x18)] w20 (fun (u22 : Value) (w23 : World) => u22 = (.tuple #[]) ∧ 
 
 R (.int .i64 (0 : Int)) w23)) else
 
 R (.int .i64 (0 : Int)) w12)))))
theorem e_slru_List_Hit : (fun (a0 : Option Addr) (a1 : ByteArray) (w : World) (R : Value → World → Prop) => vf P f_slru_List_Hit h_slru_List_Hit [(.pointer a0), (.string a1)] w R) = c_slru_List_Hit := by kernel_rfl
theorem cl_slru_List_Hit {a0 : Option Addr} {a1 : ByteArray} {w : World} {R : Value → World → Prop} (h : c_slru_List_Hit a0 a1 w R) : Cl P f_slru_List_Hit #[(.pointer a0), (.string a1)] w R := cl_of mixed (congrFun (congrFun (congrFun (congrFun e_slru_List_Hit a0) a1) w) R) h

def h_slru_List_Remove : H := (.s (.reg []) (.s (.reg []) (.s (.s (.reg []) (.s (.s (.reg []) .z) .z)) (.s (.reg []) (.s (.reg []) (.s (.reg []) .z))))))
def c_slru_List_Remove (a0 : Option Addr) (a1 : ByteArray) (w : World) (R : Value → World → Prop) : Prop :=
 
 ∃ p1 : Addr, a0 = some p1 ∧ ∃ x2 : Option Nat, World.cell? w (Addr.add p1 1) = some (.map x2) ∧ OnSome x2 (fun p5 => ∃ (es3 : Array MapEntry) (mc4 : Nat), (World.heap w)[p5]? = some (.map es3 mc4) ∧ KeysOk .str (Array.toList es3) ∧ ∃ x6 : Option Addr, Option.getD (mget (.string a1) (Array.toList es3)) (.pointer none) = (.pointer x6) ∧ 
 
 (bif (Option.isNone x6) then
 
 R (.int .i64 (6 : Int)) w else
 Cl P f_slru_node_pull #[(.pointer x6)] w (fun (u7 : Value) (w8 : World) => u7 = (.tuple #[]) ∧ 
 ∃ p9 : Addr, a0 = some p9 ∧ ∃ x10 : Option Nat, World.cell? w8 (Addr.add p9 1) = some (.map x10) ∧ OnSome x10 (fun p13 => ∃ (es11 : Array MapEntry) (mc12 : Nat), (World.heap w8)[p13]? = some (.map es11 mc12) ∧ KeysOk .str (Array.toList es11) ∧ ∀ w14 : World, w14 = World.putObj w8 p13 (mdel (.string a1) es11 mc12) → 
 
 R (.int .i64 (0 : Int)) w14))))
theorem e_slru_List_Remove : (fun (a0 : Option Addr) (a1 : ByteArray) (w : World) (R : Value → World → Prop) => vf P f_slru_List_Remove h_slru_List_Remove [(.pointer a0), (.string a1)] w R) = c_slru_List_Remove := by kernel_rfl
theorem cl_slru_List_Remove {a0 : Option Addr} {a1 : ByteArray} {w : World} {R : Value → World → Prop} (h : c_slru_List_Remove a0 a1 w R) : Cl P f_slru_List_Remove #[(.pointer a0), (.string a1)] w R := cl_of mixed (congrFun (congrFun (congrFun (congrFun e_slru_List_Remove a0) a1) w) R) h

def h_slru_List_Victim : H := (.s (.reg []) (.s (.s (.reg []) (.one (.rf [(.one .str)] (.reg []) (.one (.s (.reg []) (.s (.s (.reg []) .z) .z)))))) (.s (.reg []) .z)))
def c_slru_List_Victim (a0 : Option Addr) (a1 : ByteArray) (w : World) (R : Value → World → Prop) : Prop :=
 ∀ (b1 : Nat) (w2 : World), b1 = Array.size (World.heap w) → w2 = World.alloc w (.cells #[(.string a1)] T_string) → ∀ (b3 : Nat) (w4 : World), b3 = Array.size (World.heap w2) → w4 = World.alloc w2 (.cells #[(.string (⟨#[]⟩ : ByteArray))] T_string) → ∀ (b5 : Nat) (w6 : World), b5 = Array.size (World.heap w4) → w6 = World.alloc w4 (.cells #[(.bool false)] T_bool) → 
 Cl P f_slru_List_All #[(.pointer a0)] w6 (fun (u7 : Value) (w8 : World) => ∃ x9 : Value, u7 = x9 ∧ 
 RfV x9 (fun (gf49 : FuncId) (fs50 cs51 : List Value) => entersB P gf49 = true ∧ ∀ (Lp14 : Loop → Prop) (lp13 : Loop) (D10 l11 : Nat) (w12 : World), D10 = Array.size (World.heap w8) → l11 = Array.size (World.heap w8) + 1 → w12 = World.alloc (World.alloc w8 (.deferred (some []))) (.loop lp13) → Lp14 lp13 → lp13.state = .ready → lp13.pending = none → (∀ (lp : Loop) (s : LoopState) (p : Option Code), Lp14 lp → Lp14 { lp with state := s, pending := p }) →
 (∀ (W15 : World) (lp16 : Loop) (xs17 : List Value) (R18 : Value → World → Prop), Lp14 lp16 → (World.heap W15)[l11]? = some (.loop lp16) → lp16.state = .ready → List.length xs17 = 1 → (∃ x21 : ByteArray, xs17 = [(.string x21)] ∧ 
 ∃ lp23 : Loop, (World.heap W15)[l11]? = some (.loop lp23) ∧ lp23.state = .ready ∧ ∀ W22 : World, W22 = World.putObj W15 l11 (.loop { lp23 with state := .busy }) →
 ∃ x24 : ByteArray, World.cell? W22 (Addr.mk b1 0 none) = some (.string x24) ∧ 
 (bif (!(seq x21 x24)) then
 ((∃ u, World.cell? W22 (Addr.mk b3 0 none) = some u) ∧ World.frozen? W22 (Addr.mk b3 0 none) = false) ∧ ∀ w25 : World, w25 = World.setCell W22 (Addr.mk b3 0 none) (.string x21) → ((∃ u, World.cell? w25 (Addr.mk b5 0 none) = some u) ∧ World.frozen? w25 (Addr.mk b5 0 none) = false) ∧ ∀ w26 : World, w26 = World.setCell w25 (Addr.mk b5 0 none) (.bool true) → 
 ∃ lp27 : Loop, (World.heap w26)[l11]? = some (.loop lp27) ∧ ∀ w28 : World, w28 = World.putObj w26 l11 (.loop { lp27 with state := .done, pending := (some .ret) }) → R18 (.bool false) w28 else
 ∃ lp29 : Loop, (World.heap W22)[l11]? = some (.loop lp29) ∧ ∀ w30 : World, w30 = World.putObj W22 l11 (.loop { lp29 with state := .ready, pending := none }) → R18 (.bool true) w30)) → Yl P l11 (List.toArray xs17) W15 R18) →
 Cl P gf49 (List.toArray (fs50 ++ [Value.func (.yield l11) #[] #[]] ++ cs51)) w12 (fun (_ : Value) (w32 : World) => ∃ lp31 : Loop, (World.heap w32)[l11]? = some (.loop lp31) ∧ lp31.state ≠ .busy ∧ ∀ w33 : World, w33 = World.putObj w32 l11 (.loop { lp31 with state := .exhausted }) →
 pendR lp31.pending (((∃ u, World.cell? w33 (Addr.mk b3 0 none) = some u) ∧ World.frozen? w33 (Addr.mk b3 0 none) = false) ∧ ∀ w35 : World, w35 = World.setCell w33 (Addr.mk b3 0 none) (.string (⟨#[]⟩ : ByteArray)) → ((∃ u, World.cell? w35 (Addr.mk b5 0 none) = some u) ∧ World.frozen? w35 (Addr.mk b5 0 none) = false) ∧ ∀ w36 : World, w36 = World.setCell w35 (Addr.mk b5 0 none) (.bool false) → 
 (World.heap w36)[D10]? = some (.deferred (some [])) ∧ ∀ w37 : World, w37 = World.putObj w36 D10 (.deferred none) → ∃ x38 : ByteArray, World.cell? w37 (Addr.mk b3 0 none) = some (.string x38) ∧ ∃ x39 : Bool, World.cell? w37 (Addr.mk b5 0 none) = some (.bool x39) ∧ R (.tuple #[(.string x38), (.bool x39)]) w37) ((World.heap w33)[D10]? = some (.deferred (some [])) ∧ ∀ w40 : World, w40 = World.putObj w33 D10 (.deferred none) → ∃ x41 : ByteArray, World.cell? w40 (Addr.mk b3 0 none) = some (.string x41) ∧ ∃ x42 : Bool, World.cell? w40 (Addr.mk b5 0 none) = some (.bool x42) ∧ R (.tuple #[(.string x41), (.bool x42)]) w40) (fun i43 => (bif Nat.beq i43 0 then ((∃ u, World.cell? w33 (Addr.mk b3 0 none) = some u) ∧ World.frozen? w33 (Addr.mk b3 0 none) = false) ∧ ∀ w44 : World, w44 = World.setCell w33 (Addr.mk b3 0 none) (.string (⟨#[]⟩ : ByteArray)) → ((∃ u, World.cell? w44 (Addr.mk b5 0 none) = some u) ∧ World.frozen? w44 (Addr.mk b5 0 none) = false) ∧ ∀ w45 : World, w45 = World.setCell w44 (Addr.mk b5 0 none) (.bool false) → 
 (World.heap w45)[D10]? = some (.deferred (some [])) ∧ ∀ w46 : World, w46 = World.putObj w45 D10 (.deferred none) → ∃ x47 : ByteArray, World.cell? w46 (Addr.mk b3 0 none) = some (.string x47) ∧ ∃ x48 : Bool, World.cell? w46 (Addr.mk b5 0 none) = some (.bool x48) ∧ R (.tuple #[(.string x47), (.bool x48)]) w46 else False)))))
theorem e_slru_List_Victim : (fun (a0 : Option Addr) (a1 : ByteArray) (w : World) (R : Value → World → Prop) => vf P f_slru_List_Victim h_slru_List_Victim [(.pointer a0), (.string a1)] w R) = c_slru_List_Victim := by kernel_rfl
theorem cl_slru_List_Victim {a0 : Option Addr} {a1 : ByteArray} {w : World} {R : Value → World → Prop} (h : c_slru_List_Victim a0 a1 w R) : Cl P f_slru_List_Victim #[(.pointer a0), (.string a1)] w R := cl_of mixed (congrFun (congrFun (congrFun (congrFun e_slru_List_Victim a0) a1) w) R) h

def h_slru_row_push : H := (.s (.reg []) (.s (.s (.reg []) (.s (.reg []) (.reg []))) (.s (.reg []) (.reg []))))
def c_slru_row_push (a0 : Option Addr) (a1 : Option Addr) (w : World) (R : Value → World → Prop) : Prop :=
 ∃ p1 : Addr, a0 = some p1 ∧ ∃ x2 : Option Addr, World.cell? w (Addr.add p1 1) = some (.pointer x2) ∧ ∃ p3 : Addr, a1 = some p3 ∧ ((∃ u, World.cell? w (Addr.add p3 1) = some u) ∧ World.frozen? w (Addr.add p3 1) = false) ∧ ∀ w4 : World, w4 = World.setCell w (Addr.add p3 1) (.pointer x2) → ∃ p5 : Addr, a1 = some p5 ∧ ((∃ u, World.cell? w4 (Addr.add p5 2) = some u) ∧ World.frozen? w4 (Addr.add p5 2) = false) ∧ ∀ w6 : World, w6 = World.setCell w4 (Addr.add p5 2) (.pointer none) → ∃ p7 : Addr, a1 = some p7 ∧ ((∃ u, World.cell? w6 (Addr.add p7 3) = some u) ∧ World.frozen? w6 (Addr.add p7 3) = false) ∧ ∀ w8 : World, w8 = World.setCell w6 (Addr.add p7 3) (.pointer a0) → 
 ∃ p9 : Addr, a0 = some p9 ∧ ∃ x10 : Option Addr, World.cell? w8 (Addr.add p9 1) = some (.pointer x10) ∧ 
 (bif (Option.isNone x10) then
 ∃ p11 : Addr, a0 = some p11 ∧ ((∃ u, World.cell? w8 (Addr.add p11 0) = some u) ∧ World.frozen? w8 (Addr.add p11 0) = false) ∧ ∀ w12 : World, w12 = World.setCell w8 (Addr.add p11 0) (.pointer a1) → 
 ∃ p13 : Addr, a0 = some p13 ∧ ((∃ u, World.cell? w12 (Addr.add p13 1) = some u) ∧ World.frozen? w12 (Addr.add p13 1) = false) ∧ ∀ w14 : World, w14 = World.setCell w12 (Addr.add p13 1) (.pointer a1) → 
 ∃ p15 : Addr, a0 = some p15 ∧ ∃ x16 : Int, World.cell? w14 (Addr.add p15 2) = some (.int .i64 x16) ∧ ∃ p17 : Addr, a0 = some p17 ∧ ((∃ u, World.cell? w14 (Addr.add p17 2) = some u) ∧ World.frozen? w14 (Addr.add p17 2) = false) ∧ ∀ w18 : World, w18 = World.setCell w14 (Addr.add p17 2) (.int .i64 (IntKind.i64.wrap (x16 + (1 : Int)))) → 
 R (.tuple #[]) w18 else
 ∃ p19 : Addr, a0 = some p19 ∧ ∃ x20 : Option Addr, World.cell? w8 (Addr.add p19 1) = some (.pointer x20) ∧ ∃ p21 : Addr, x20 = some p21 ∧ ((∃ u, World.cell? w8 (Addr.add p21 2) = some u) ∧ World.frozen? w8 (Addr.add p21 2) = false) ∧ ∀ w22 : World, w22 = World.setCell w8 (Addr.add p21 2) (.pointer a1) → 
 ∃ p23 : Addr, a0 = some p23 ∧ ((∃ u, World.cell? w22 (Addr.add p23 1) = some u) ∧ World.frozen? w22 (Addr.add p23 1) = false) ∧ ∀ w24 : World, w24 = World.setCell w22 (Addr.add p23 1) (.pointer a1) → 
 ∃ p25 : Addr, a0 = some p25 ∧ ∃ x26 : Int, World.cell? w24 (Addr.add p25 2) = some (.int .i64 x26) ∧ ∃ p27 : Addr, a0 = some p27 ∧ ((∃ u, World.cell? w24 (Addr.add p27 2) = some u) ∧ World.frozen? w24 (Addr.add p27 2) = false) ∧ ∀ w28 : World, w28 = World.setCell w24 (Addr.add p27 2) (.int .i64 (IntKind.i64.wrap (x26 + (1 : Int)))) → 
 R (.tuple #[]) w28)
theorem e_slru_row_push : (fun (a0 : Option Addr) (a1 : Option Addr) (w : World) (R : Value → World → Prop) => vf P f_slru_row_push h_slru_row_push [(.pointer a0), (.pointer a1)] w R) = c_slru_row_push := by kernel_rfl
theorem cl_slru_row_push {a0 : Option Addr} {a1 : Option Addr} {w : World} {R : Value → World → Prop} (h : c_slru_row_push a0 a1 w R) : Cl P f_slru_row_push #[(.pointer a0), (.pointer a1)] w R := cl_of mixed (congrFun (congrFun (congrFun (congrFun e_slru_row_push a0) a1) w) R) h

def h_slru_node_pull : H := (.s (.reg []) (.s (.s (.reg []) (.s (.reg []) (.any #[[], [0], [0, 1], [0, 1, 2], [], [4], [4, 5], [4, 5, 6], [0, 1, 2, 3, 4, 5, 6, 7], [0, 1, 2, 3, 4, 5, 6, 7, 8], [0, 1, 2, 3, 4, 5, 6, 7, 8, 9]] (.rd 0 (.rd 1 (.rd 2 (.rd 3 (.rd 4 (.rd 5 (.rd 6 (.rd 7 (.rd 8 (.rd 9 (.ef 10 .fin .no)))))))))))))) (.s (.s (.reg []) (.s (.reg []) (.any #[[], [0], [0, 1], [0, 1, 2], [], [4], [4, 5], [4, 5, 6], [0, 1, 2, 3, 4, 5, 6, 7], [0, 1, 2, 3, 4, 5, 6, 7, 8], [0, 1, 2, 3, 4, 5, 6, 7, 8, 9]] (.rd 0 (.rd 1 (.rd 2 (.rd 3 (.rd 4 (.rd 5 (.rd 6 (.rd 7 (.rd 8 (.rd 9 (.ef 10 .fin .no)))))))))))))) (.reg []))))
def c_slru_node_pull (a0 : Option Addr) (w : World) (R : Value → World → Prop) : Prop :=
 ∃ p1 : Addr, a0 = some p1 ∧ ∃ x2 : Option Addr, World.cell? w (Addr.add p1 3) = some (.pointer x2) ∧ 
 ∃ p3 : Addr, a0 = some p3 ∧ ∃ x4 : Option Addr, World.cell? w (Addr.add p3 1) = some (.pointer x4) ∧ 
 (bif (Option.isNone x4) then
 ∃ p5 : Addr, a0 = some p5 ∧ ∃ x6 : Option Addr, World.cell? w (Addr.add p5 2) = some (.pointer x6) ∧ ∃ p7 : Addr, x2 = some p7 ∧ ((∃ u, World.cell? w (Addr.add p7 0) = some u) ∧ World.frozen? w (Addr.add p7 0) = false) ∧ ∀ w8 : World, w8 = World.setCell w (Addr.add p7 0) (.pointer x6) → 
 ∃ p9 : Addr, a0 = some p9 ∧ ∃ x10 : Option Addr, World.cell? w8 (Addr.add p9 2) = some (.pointer x10) ∧ 
 (bif (Option.isNone x10) then
 ∃ p11 : Addr, a0 = some p11 ∧ ∃ x12 : Option Addr, World.cell? w8 (Addr.add p11 1) = some (.pointer x12) ∧ ∃ p13 : Addr, x2 = some p13 ∧ ((∃ u, World.cell? w8 (Addr.add p13 1) = some u) ∧ World.frozen? w8 (Addr.add p13 1) = false) ∧ ∀ w14 : World, w14 = World.setCell w8 (Addr.add p13 1) (.pointer x12) → 
 ∃ p15 : Addr, x2 = some p15 ∧ ∃ x16 : Int, World.cell? w14 (Addr.add p15 2) = some (.int .i64 x16) ∧ ∃ p17 : Addr, x2 = some p17 ∧ ((∃ u, World.cell? w14 (Addr.add p17 2) = some u) ∧ World.frozen? w14 (Addr.add p17 2) = false) ∧ ∀ w18 : World, w18 = World.setCell w14 (Addr.add p17 2) (.int .i64 (IntKind.i64.wrap (x16 - (1 : Int)))) → 
 R (.tuple #[]) w18 else
 ∀ w19 : World, w19 = World.drew w8 → ∃ p20 : Addr, a0 = some p20 ∧ ∃ x21 : Option Addr, World.cell? w19 (Addr.add p20 2) = some (.pointer x21) ∧ ∃ p22 : Addr, a0 = some p22 ∧ ∃ x23 : Option Addr, World.cell? w19 (Addr.add p22 1) = some (.pointer x23) ∧ ∃ p24 : Addr, x21 = some p24 ∧ ((∃ u, World.cell? w19 (Addr.add p24 1) = some u) ∧ World.frozen? w19 (Addr.add p24 1) = false) ∧ ∀ w25 : World, w25 = World.setCell w19 (Addr.add p24 1) (.pointer x23) → 
 ∃ p26 : Addr, x2 = some p26 ∧ ∃ x27 : Int, World.cell? w25 (Addr.add p26 2) = some (.int .i64 x27) ∧ ∃ p28 : Addr, x2 = some p28 ∧ ((∃ u, World.cell? w25 (Addr.add p28 2) = some u) ∧ World.frozen? w25 (Addr.add p28 2) = false) ∧ ∀ w29 : World, w29 = World.setCell w25 (Addr.add p28 2) (.int .i64 (IntKind.i64.wrap (x27 - (1 : Int)))) → 
 R (.tuple #[]) w29) else
 ∀ w30 : World, w30 = World.drew w → ∃ p31 : Addr, a0 = some p31 ∧ ∃ x32 : Option Addr, World.cell? w30 (Addr.add p31 1) = some (.pointer x32) ∧ ∃ p33 : Addr, a0 = some p33 ∧ ∃ x34 : Option Addr, World.cell? w30 (Addr.add p33 2) = some (.pointer x34) ∧ ∃ p35 : Addr, x32 = some p35 ∧ ((∃ u, World.cell? w30 (Addr.add p35 2) = some u) ∧ World.frozen? w30 (Addr.add p35 2) = false) ∧ ∀ w36 : World, w36 = World.setCell w30 (Addr.add p35 2) (.pointer x34) → 
 ∃ p37 : Addr, a0 = some p37 ∧ ∃ x38 : Option Addr, World.cell? w36 (Addr.add p37 2) = some (.pointer x38) ∧ 
 (bif (Option.isNone x38) then
 ∃ p39 : Addr, a0 = some p39 ∧ ∃ x40 : Option Addr, World.cell? w36 (Addr.add p39 1) = some (.pointer x40) ∧ ∃ p41 : Addr, x2 = some p41 ∧ ((∃ u, World.cell? w36 (Addr.add p41 1) = some u) ∧ World.frozen? w36 (Addr.add p41 1) = false) ∧ ∀ w42 : World, w42 = World.setCell w36 (Addr.add p41 1) (.pointer x40) → 
 ∃ p43 : Addr, x2 = some p43 ∧ ∃ x44 : Int, World.cell? w42 (Addr.add p43 2) = some (.int .i64 x44) ∧ ∃ p45 : Addr, x2 = some p45 ∧ ((∃ u, World.cell? w42 (Addr.add p45 2) = some u) ∧ World.frozen? w42 (Addr.add p45 2) = false) ∧ ∀ w46 : World, w46 = World.setCell w42 (Addr.add p45 2) (.int .i64 (IntKind.i64.wrap (x44 - (1 : Int)))) → 
 R (.tuple #[]) w46 else
 ∀ w47 : World, w47 = World.drew w36 → ∃ p48 : Addr, a0 = some p48 ∧ ∃ x49 : Option Addr, World.cell? w47 (Addr.add p48 2) = some (.pointer x49) ∧ ∃ p50 : Addr, a0 = some p50 ∧ ∃ x51 : Option Addr, World.cell? w47 (Addr.add p50 1) = some (.pointer x51) ∧ ∃ p52 : Addr, x49 = some p52 ∧ ((∃ u, World.cell? w47 (Addr.add p52 1) = some u) ∧ World.frozen? w47 (Addr.add p52 1) = false) ∧ ∀ w53 : World, w53 = World.setCell w47 (Addr.add p52 1) (.pointer x51) → 
 ∃ p54 : Addr, x2 = some p54 ∧ ∃ x55 : Int, World.cell? w53 (Addr.add p54 2) = some (.int .i64 x55) ∧ ∃ p56 : Addr, x2 = some p56 ∧ ((∃ u, World.cell? w53 (Addr.add p56 2) = some u) ∧ World.frozen? w53 (Addr.add p56 2) = false) ∧ ∀ w57 : World, w57 = World.setCell w53 (Addr.add p56 2) (.int .i64 (IntKind.i64.wrap (x55 - (1 : Int)))) → 
 R (.tuple #[]) w57))
theorem e_slru_node_pull : (fun (a0 : Option Addr) (w : World) (R : Value → World → Prop) => vf P f_slru_node_pull h_slru_node_pull [(.pointer a0)] w R) = c_slru_node_pull := by kernel_rfl
theorem cl_slru_node_pull {a0 : Option Addr} {w : World} {R : Value → World → Prop} (h : c_slru_node_pull a0 w R) : Cl P f_slru_node_pull #[(.pointer a0)] w R := cl_of mixed (congrFun (congrFun (congrFun e_slru_node_pull a0) w) R) h

def h_slru_List_All : H := (.s (.reg []) (.s (.reg []) .z))
def c_slru_List_All (a0 : Option Addr) (w : World) (R : Value → World → Prop) : Prop :=
 ∀ (b1 : Nat) (w2 : World), b1 = Array.size (World.heap w) → w2 = World.alloc w (.cells #[(.pointer a0)] T_p_slru_List) → 
 
 R (.func (.func f_slru_List_All_1) #[] #[(.pointer (some (Addr.mk b1 0 none)))]) w2
theorem e_slru_List_All : (fun (a0 : Option Addr) (w : World) (R : Value → World → Prop) => vf P f_slru_List_All h_slru_List_All [(.pointer a0)] w R) = c_slru_List_All := by kernel_rfl
theorem cl_slru_List_All {a0 : Option Addr} {w : World} {R : Value → World → Prop} (h : c_slru_List_All a0 w R) : Cl P f_slru_List_All #[(.pointer a0)] w R := cl_of mixed (congrFun (congrFun (congrFun e_slru_List_All a0) w) R) h

def h_slru_List_All_1 : H := (.s (.any #[[], [0], [0, 1], [], [3], [3, 4], [0, 1, 2, 3, 4, 5], []] (.rd 0 (.rd 1 (.rd 2 (.rd 3 (.rd 4 (.rd 5 (.rd 6 (.rd 7 .fin))))))))) (.one (.loop [(13, (.one (.int .i64)))] (.s (.reg []) (.s (.s .z .z) (.s (.one (.s (.reg []) (.s (.reg []) (.one (.loop [(5, (.one .ptr))] (.s (.s (.reg []) (.s .z .z)) (.s (.one (.s (.reg []) (.s .z .z))) (.reg [])))))))) (.reg [])))))))
def c_slru_List_All_1 (a0 : Value) (q0 : Addr) (w : World) (R : Value → World → Prop) : Prop :=
 ∀ w1 : World, w1 = World.drew w → ∃ x2 : Option Addr, World.cell? w1 q0 = some (.pointer x2) ∧ ∃ p3 : Addr, x2 = some p3 ∧ ∃ x4 : Option Addr, World.cell? w1 q0 = some (.pointer x4) ∧ ∃ p5 : Addr, x4 = some p5 ∧ 
 ∃ (I6 : List Value → World → Prop) (m7 : List Value → World → Nat), (I6 [(.int .i64 (0 : Int))] w1) ∧
 ∀ (vs8 : List Value) (w9 : World), I6 vs8 w9 → ∃ x10 : Int, vs8 = [(.int .i64 x10)] ∧ 
 (bif (decide (x10 < (2 : Int))) then
 0 ≤ x10 ∧ x10 < ((2 : Nat) : Int) ∧ ∃ x11 : Option Addr, ([(.pointer (some (Addr.add p3 2))), (.pointer (some (Addr.add p5 5)))] : List Value)[Int.toNat x10]? = some (.pointer x11) ∧ 
 ∃ p12 : Addr, x11 = some p12 ∧ ∃ x13 : Option Addr, World.cell? w9 (Addr.add p12 0) = some (.pointer x13) ∧ 
 ∃ (I14 : List Value → World → Prop) (m15 : List Value → World → Nat), (I14 [(.pointer x13)] w9) ∧
 ∀ (vs16 : List Value) (w17 : World), I14 vs16 w17 → ∃ x18 : Option Addr, vs16 = [(.pointer x18)] ∧ 
 (bif (!(Option.isNone x18)) then
 ∃ p19 : Addr, x18 = some p19 ∧ ∃ x20 : ByteArray, World.cell? w17 (Addr.add p19 0) = some (.string x20) ∧ FvCall P a0 [(.string x20)] w17 (fun (u21 : Value) (w22 : World) => ∃ x23 : Bool, u21 = (.bool x23) ∧ 
 (bif (!x23) then
 R (.tuple #[]) w22 else
 ∃ p24 : Addr, x18 = some p24 ∧ ∃ x25 : Option Addr, World.cell? w22 (Addr.add p24 2) = some (.pointer x25) ∧ 
 I14 [(.pointer x25)] w22 ∧ m15 [(.pointer x25)] w22 < m15 vs16 w17)) else
 
 I6 [(.int .i64 (IntKind.i64.wrap (x10 + (1 : Int))))] w17 ∧ m7 [(.int .i64 (IntKind.i64.wrap (x10 + (1 : Int))))] w17 < m7 vs8 w9) else
 R (.tuple #[]) w9)
theorem e_slru_List_All_1 : (fun (a0 : Value) (q0 : Addr) (w : World) (R : Value → World → Prop) => vf P f_slru_List_All_1 h_slru_List_All_1 [a0, (.pointer (some q0))] w R) = c_slru_List_All_1 := by kernel_rfl
theorem cl_slru_List_All_1 {a0 : Value} {q0 : Addr} {w : World} {R : Value → World → Prop} (h : c_slru_List_All_1 a0 q0 w R) : Cl P f_slru_List_All_1 #[a0, (.pointer (some q0))] w R := cl_of mixed (congrFun (congrFun (congrFun (congrFun e_slru_List_All_1 a0) q0) w) R) h

def h_slru_New : H := (.s (.reg []) (.s (.reg []) .z))
def c_slru_New (a0 : Int) (w : World) (R : Value → World → Prop) : Prop :=
 
 ∀ (b1 : Nat) (w2 : World), b1 = Array.size (World.heap w) → w2 = World.alloc w (.map #[] 0) → ∀ (b3 : Nat) (w4 : World), b3 = Array.size (World.heap w2) → w4 = World.alloc w2 (.cells #[(.int .i64 a0), (.map (some b1)), (.pointer none), (.pointer none), (.int .i64 (0 : Int)), (.pointer none), (.pointer none), (.int .i64 (0 : Int))] T_slru_List) → 
 R (.pointer (some (Addr.mk b3 0 none))) w4
theorem e_slru_New : (fun (a0 : Int) (w : World) (R : Value → World → Prop) => vf P f_slru_New h_slru_New [(.int .i64 a0)] w R) = c_slru_New := by kernel_rfl
theorem cl_slru_New {a0 : Int} {w : World} {R : Value → World → Prop} (h : c_slru_New a0 w R) : Cl P f_slru_New #[(.int .i64 a0)] w R := cl_of mixed (congrFun (congrFun (congrFun e_slru_New a0) w) R) h

end Go.Bty
