/- The condition of a function's code. -/
import Derived.Test.YtbjkbonnmeppoaaBtyL
namespace Go.Bty
open Go

inductive H where
  | z
  | s (a b : H)
  | cut (live : List (Nat × S2)) (a b : H)
  | one (a : H)
  | ct (a : H)
  | cf (a : H)
  | loop (live : List (Nat × S2)) (a : H)
  | reg (bs : List Bool)
  | any (an : Array (List Nat)) (t : RT)
  | rf (sh : List S2) (a b : H)

abbrev CPost := Exit → Env → List Nat → World → Prop

def wrC : Code → List Nat
  | .region _ ops _ => wrOps ops.toList
  | .seq a b => wrC a ++ wrC b
  | .cond _ a b => wrC a ++ wrC b
  | .block _ a => wrC a
  | .loop a => wrC a
  | .scope a => wrC a
  | _ => []

/-- The values of temporaries. -/
def lives (ρ : Env) : List (Nat × S2) → (List Value → Prop) → Prop
  | [], K => K []
  | p :: l, K => match ρ.get p.1 with
    | some v => lives ρ l fun vs => K (v :: vs)
    | none => False
/-- Values of known shapes, as temporaries. -/
def takes : List (Nat × S2) → List Value → (Env → Prop) → Prop
  | [], vs, K => vs = [] → K []
  | p :: l, vs, K => takes' p l vs K
  where takes' (p : Nat × S2) (l : List (Nat × S2)) (vs : List Value) (K : Env → Prop) : Prop := exs2 ((p :: l).map (·.2)) fun xs => vs = xs ∧ K (((p :: l).map (·.1)).zip xs)

/-- The end of a round: the record, read; then turned. -/
def endR (l : Nat) (jump : Option Code) (w : World) (R : Value → World → Prop) : Prop :=
  ∃ lp, w.heap[l]? = some (.loop lp) ∧ ∀ w', w' = w.putObj l (.loop { lp with state := if jump.isNone then .ready else .done, pending := jump }) → R (.bool jump.isNone) w'

def nodupB : List Nat → Bool
  | [] => true
  | t :: ts => !(ts.any fun u => Nat.beq t u) && nodupB ts

/-- A function that is ranged over. -/
def RfV (fv : Value) (K : FuncId → List Value → List Value → Prop) : Prop :=
  match fv with
  | .func (.func gf) fs cs => K gf fs.toList cs.toList
  | _ => False
/-- What a round's end leaves behind. -/
def pendR (p : Option Code) (n r : Prop) (x : Nat → Prop) : Prop :=
  match p with
  | none => n
  | some .ret => r
  | some (.exit i) => x i
  | _ => False

def vc (P : Program) (N : Nat) (inR : Bool) : Code → H → CPost → Env → List Nat → World → Prop
  | .skip, _, Q, ρ, ds, w => Q .normal ρ ds w
  | .label _, _, Q, ρ, ds, w => Q .normal ρ ds w
  | .ret, _, Q, ρ, ds, w => Q .ret ρ ds w
  | .exit i, _, Q, ρ, ds, w => Q (.exit i) ρ ds w
  | .seq a b, .s ha hb, Q, ρ, ds, w => vc P N inR a ha (fun e ρ ds w => match e with
      | .normal => vc P N inR b hb Q ρ ds w
      | e => Q e ρ ds w) ρ ds w
  | .seq a b, .cut live ha hb, Q, ρ, ds, w => match ds with
    | [] => ∃ I : List Value → World → Prop, vc P N inR a ha (fun e ρ' ds' w' => match e with
        | .normal => match ds' with
          | [] => lives ρ' live fun vs => I vs w'
          | _ => False
        | e => Q e ρ' ds' w') ρ [] w ∧ ∀ vs w', I vs w' → takes live vs fun σ => vc P N inR b hb Q (σ ++ ρ.drop (wrC a)) [] w'
    | _ => False
  | .cond c a b, .s ha hb, Q, ρ, ds, w => vx ρ c fun v => match v with
    | .bool x => bif x then vc P N inR a ha Q ρ ds w else vc P N inR b hb Q ρ ds w
    | _ => False
  | .cond c a _, .ct ha, Q, ρ, ds, w => vx ρ c fun v => match v with
    | .bool true => vc P N inR a ha Q ρ ds w
    | _ => False
  | .cond c _ b, .cf hb, Q, ρ, ds, w => vx ρ c fun v => match v with
    | .bool false => vc P N inR b hb Q ρ ds w
    | _ => False
  | .block i a, .one ha, Q, ρ, ds, w => vc P N inR a ha (fun e ρ ds w => match e with
      | .exit j => bif Nat.beq j i then Q .normal ρ ds w else Q (.exit j) ρ ds w
      | e => Q e ρ ds w) ρ ds w
  | .scope a, .one ha, Q, ρ, ds, w => vc P N inR a ha (fun e ρ ds w => match e with
      | .goto _ => False
      | e => Q e ρ ds w) ρ ds w
  | .loop a, .loop live ha, Q, ρ, ds, w => match ds with
    | [] => ∃ (I : List Value → World → Prop) (μ : List Value → World → Nat), (lives ρ live fun vs => I vs w) ∧
        ∀ vs w', I vs w' → takes live vs fun σ => vc P N inR a ha (fun e ρ' ds' w'' => match e with
          | .normal => match ds' with
            | [] => lives ρ' live fun vs' => I vs' w'' ∧ μ vs' w'' < μ vs w'
            | _ => False
          | e => Q e ρ' ds' w'') (σ ++ ρ.drop (wrC a)) [] w'
    | _ => False
  | .region _ ops draw, .reg bs, Q, ρ, ds, w => bif draw then False else vops P N ops ops.toList bs ρ w fun ρ w => Q .normal ρ ds w
  | .region _ ops draw, .any an t, Q, ρ, ds, w => bif draw && sureB ops an && RT.strict (strictB ops an) t && RT.ok ops t ops.size (Array.replicate ops.size false) none then
      ∀ w', w' = w.drew → vt P N ops (fun j => an.getD j []) t ρ [] w' fun ρ w => Q .normal ρ ds w
    else False
  | .rangeFunc g ps as bd, .rf sh ha hb, Q, ρ, ds, w => bif inR || !(nodupB ps.toList) || !(ps.toList.all fun t => Nat.blt t N) || !(Nat.beq sh.length ps.toList.length) then False else vx ρ g fun fv => RfV fv fun gf fs cs => entersB P gf = true ∧ ∀ (Lp : Loop → Prop) (lp : Loop) (D l : Nat) (w1 : World), D = w.heap.size → l = w.heap.size + 1 →
        w1 = (w.alloc (.deferred (some []))).alloc (.loop lp) → Lp lp → lp.state = .ready → lp.pending = none → (∀ lp s p, Lp lp → Lp { lp with state := s, pending := p }) →
        (∀ (W : World) (lp : Loop) (xs : List Value) (R : Value → World → Prop), Lp lp → W.heap[l]? = some (.loop lp) → lp.state = .ready → xs.length = ps.toList.length →
          takes (ps.toList.zip sh) xs (fun σ => vc P N true as ha (fun e ρ1 ds1 W1 => match e with
            | .normal => match ds1 with
              | [] => ∃ lp1, W1.heap[l]? = some (.loop lp1) ∧ lp1.state = .ready ∧ ∀ W2, W2 = W1.putObj l (.loop { lp1 with state := .busy }) →
                  vc P N true bd hb (fun e _ _ W3 => match e with
                    | .normal => endR l none W3 R
                    | .ret => endR l (some .ret) W3 R
                    | .exit i => endR l (some (.exit i)) W3 R
                    | _ => False) ρ1 [] W2
              | _ => False
            | _ => False) (σ ++ ρ) [] W) → Yl P l xs.toArray W R) →
        Cl P gf (fs ++ [Value.func (.yield l) #[] #[]] ++ cs).toArray w1 fun _ w2 => ∃ lp2, w2.heap[l]? = some (.loop lp2) ∧ lp2.state ≠ .busy ∧ ∀ w3, w3 = w2.putObj l (.loop { lp2 with state := .exhausted }) →
          pendR lp2.pending (Q .normal ρ (D :: ds) w3) (Q .ret ρ (D :: ds) w3) (fun i => Q (.exit i) ρ (D :: ds) w3)
  | _, _, _, _, _, _ => False

/-- The marks that loops over functions have left are paid. -/
def leave : List Nat → World → (World → Prop) → Prop
  | [], w, K => K w
  | D :: ds, w, K => w.heap[D]? = some (.deferred (some [])) ∧ ∀ w', w' = w.putObj D (.deferred none) → leave ds w' K
/-- The results. -/
def resultsV (P : Program) (ρ : Env) : List ResultVar → World → (List Value → Prop) → Prop
  | [], _, K => K []
  | .tmp t :: l, w, K => match ρ.get t with
    | some v => resultsV P ρ l w fun vs => K (v :: vs)
    | none => False
  | .cell t ty :: l, w, K => match ρ.get t with
    | some (.pointer (some a)) => vload P ty a w fun v => resultsV P ρ l w fun vs => K (v :: vs)
    | _ => False
def oneOf : List Value → Value
  | [v] => v
  | vs => .tuple vs.toArray
def argEnv : List Value → Nat → Env
  | [], _ => []
  | v :: vs, i => (i, v) :: argEnv vs (i + 1)
/-- A function's condition. -/
def vf (P : Program) (f : FuncId) (h : H) (args : List Value) (w : World) (R : Value → World → Prop) : Prop :=
  match P.funcs[f]? with
  | some fn => match fn.body with
    | some c => bif Nat.ble args.length fn.ntmps then vc P fn.ntmps false c h (fun e ρ ds w => match e with
        | .normal => leave ds w fun w => resultsV P ρ fn.results.toList w fun vs => R (oneOf vs) w
        | .ret => leave ds w fun w => resultsV P ρ fn.results.toList w fun vs => R (oneOf vs) w
        | _ => False) (argEnv args 0) [] w
      else False
    | none => False
  | none => False
end Go.Bty
