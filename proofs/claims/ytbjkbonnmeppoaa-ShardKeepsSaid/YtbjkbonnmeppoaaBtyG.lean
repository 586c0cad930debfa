/- 'vr': operations that read the world and leave it alone; 've': operations that turn it. -/
import Derived.Test.YtbjkbonnmeppoaaBtyF
namespace Go.Bty
open Go

/-- A row of k values from a on (nothing, at nil). -/
def RowAt (w : World) (a : Option Addr) (k : Nat) (vs : List Value) : Prop := vs.length = k ∧ match a with
  | none => k = 0
  | some p => SpanAt w p vs
def bytesV (bs : List UInt8) : List Value := bs.map fun b => .int .u8 (b.toNat : Int)
/-- The bytes of a slice of n bytes at a. -/
def BytesAt (w : World) (a : Option Addr) (n : Nat) (bs : List UInt8) : Prop := match a with
  | none => bs = []
  | some p => bs.length = n ∧ SpanAt w p (bytesV bs)
def OneC (vs : List Value) : Prop := ∀ u ∈ vs, u.oneCell' = true
def zc (n : Nat) (z : List Value) : List Value := (List.replicate n z).flatten
def u8T (d : Option TypeDesc) : Bool := match d with | some (.int .u8) => true | _ => false
def i64T (d : Option TypeDesc) : Bool := match d with | some (.int .i64) => true | _ => false
def mapOf (d : Option TypeDesc) : Option (TypeId × TypeId) := match d with | some (.map k e) => some (k, e) | _ => none
def vok (ok : Bool) (v : Value) (b : Bool) : Value := bif ok then .tuple #[v, .bool b] else v

def vload (P : Program) (t : TypeId) (a : Addr) (w : World) (K : Value → Prop) : Prop :=
  match shOf P t with
  | some (.one s) => s.ex fun v => w.cell? a = some v ∧ K v
  | some (.agg ss) => exs ss fun vs => SpanAt w a vs ∧ K (.agg vs.toArray)
  | none => False

def vr (P : Program) (ρ : Env) (o : Op) (w : World) (K : Value → Prop) : Prop :=
  match o with
  | .load t x => vx ρ x fun v => match v with
    | .pointer q => OnSome q fun a => vload P t a w K
    | _ => False
  | .lookup t x ix ok => match mapOf (P.underlying t) with
    | some (kt, e) => match kkOf P kt with
      | some kk => match zeroOf P e with
        | some z => match shOf P e with
          | some (.one s) => vx ρ x fun m => vx ρ ix fun k => match m with
            | .map q => OnSome q fun r => bif kFits kk k then ∃ es c, w.heap[r]? = some (.map es c) ∧ KeysOk kk es.toList ∧ s.ex fun v => (mget k es.toList).getD z = v ∧ K (vok ok v (mget k es.toList).isSome)
              else False
            | _ => False
          | _ => False
        | none => False
      | none => False
    | none => False
  | .convert s d x => bif strT (P.underlying d) then match P.underlying s with
      | some (.slice e) => bif u8T (P.underlying e) then vx ρ x fun v => match v with
          | .slice a n _ => ∃ bs, BytesAt w a n bs ∧ K (.string ⟨bs.toArray⟩)
          | _ => False
        else False
      | _ => False
    else False
  | .call { callee := .builtin .len, args, argTypes } => match args.toList, argTypes.toList with
    | [x], t :: _ => bif mapT (P.underlying t) then vx ρ x fun v => match v with
        | .map q => OnSome q fun r => ∃ es c, w.heap[r]? = some (.map es c) ∧ K (.int .i64 es.size)
        | _ => False
      else False
    | _, _ => False
  | _ => False

/-- A call of a function of the program's. -/
def Cl (P : Program) (f : FuncId) (args : Array Value) (w : World) (R : Value → World → Prop) : Prop :=
  CallsIn (Fn none) 0 P f args w fun e w' => ∃ v, e = .returned v ∧ R v w'
def entersB (P : Program) (f : FuncId) : Bool :=
  match P.funcs[f]? with
  | some fn => fn.body.isSome && fn.name != "runtime.NumGoroutine"
  | none => false
/-- A call of a function without a Go body. -/
def Ext (P : Program) (f : FuncId) (args : Array Value) (w : World) (R : Value → World → Prop) : Prop :=
  ∃ v, (callFunc f args).run P w = .ok (.value v) w ∧ R v w
/-- A call of yield. -/
def Yl (P : Program) (l : Nat) (args : Array Value) (w : World) (R : Value → World → Prop) : Prop :=
  ∃ fn tmps assign body, (Instr.yield l args).run P w = .ok (.round l fn tmps assign body) w ∧ RoundIn (Fn none) 0 P l fn tmps assign body w fun e w' => ∃ v, e = .returned v ∧ R v w'
def vcall (P : Program) (f : FuncId) (t : TypeId) (args : Array Value) (w : World) (K : Value → World → Prop) : Prop :=
  match shOfT P t with
  | some sh => bif entersB P f then Cl P f args w fun u w' => sh.ex fun v => u = v ∧ K v w'
    else Ext P f args w fun u w' => sh.ex fun v => u = v ∧ K v w'
  | none => False
/-- A call of a function value. -/
def FvCall (P : Program) (fv : Value) (args : List Value) (w : World) (R : Value → World → Prop) : Prop :=
  match fv with
  | .func (.func f) fs cs => entersB P f = true ∧ Cl P f (fs.toList ++ args ++ cs.toList).toArray w R
  | .func (.yield l) fs _ => fs = #[] ∧ Yl P l args.toArray w R
  | _ => False

def vstore (n : Nat) (a : Addr) (v : Value) (w : World) (K : World → Prop) : Prop :=
  match v with
  | .agg cs => bif Nat.beq cs.toList.length n && cs.toList.all Value.oneCell' then Wr w a n ∧ ∀ w', w' = setSpan w a cs.toList → K w' else False
  | .tuple _ => False
  | v => bif Nat.beq n 1 then ((∃ u, w.cell? a = some u) ∧ w.frozen? a = false) ∧ ∀ w', w' = w.setCell a v → K w' else False
def valloc (w : World) (o : Obj) (K : Nat → World → Prop) : Prop := ∀ b w', b = w.heap.size → w' = w.alloc o → K b w'

def appSet (base : Option Addr) (n sz : Nat) (ys : List Value) (w : World) : World := match base with | some p => setSpan w (p.add (n * sz)) ys | none => w
def vapp0 (t : TypeId) (sz bytes : Nat) (z : List Value) (base : Option Addr) (n cap m : Nat) (ys : List Value) (w : World) (K : Value → World → Prop) : Prop :=
  OneC ys ∧
  (n + m ≤ cap → (0 < ys.length → ∃ p, base = some p ∧ Wr w (p.add (n * sz)) ys.length) ∧ ∀ w', w' = appSet base n sz ys w → K (.slice base (n + m) cap) w') ∧
  (cap < n + m → Builtin.nextslicecap (n + m) cap * bytes ≤ 2 ^ 48 ∧ ∃ xs, RowAt w base (n * sz) xs ∧
    ∀ c b w', n + m ≤ c → b = w.heap.size → w' = w.drew.alloc (.cells (xs ++ ys ++ zc (c - (n + m)) z).toArray t) → K (.slice (some ⟨b, 0, none⟩) (n + m) c) w')
/-- What 'append' leaves: in place, or in a row of its own. -/
def AppR (t : TypeId) (sz : Nat) (z : List Value) (base : Option Addr) (n cap m : Nat) (ys : List Value) (w : World) (a' : Option Addr) (c' : Nat) (w' : World) : Prop :=
  (n + m ≤ cap ∧ a' = base ∧ c' = cap ∧ w' = appSet base n sz ys w) ∨
  (cap < n + m ∧ n + m ≤ c' ∧ a' = some ⟨w.heap.size, 0, none⟩ ∧ ∃ xs, RowAt w base (n * sz) xs ∧ w' = w.drew.alloc (.cells (xs ++ ys ++ zc (c' - (n + m)) z).toArray t))
/-- What 'append' asks and leaves, for a row of values 'ys' (m elements). -/
def vapp (t : TypeId) (sz bytes : Nat) (z : List Value) (base : Option Addr) (n cap m : Nat) (ys : List Value) (w : World) (K : Value → World → Prop) : Prop :=
  OneC ys ∧ (n + m ≤ cap → 0 < ys.length → ∃ p, base = some p ∧ Wr w (p.add (n * sz)) ys.length) ∧
  (cap < n + m → Builtin.nextslicecap (n + m) cap * bytes ≤ 2 ^ 48 ∧ ∃ xs, RowAt w base (n * sz) xs) ∧
  ∀ (a' : Option Addr) (c' : Nat) (w' : World), AppR t sz z base n cap m ys w a' c' w' → K (.slice a' (n + m) c') w'
theorem vapp_old {t : TypeId} {sz bytes : Nat} {z : List Value} {base : Option Addr} {n cap m : Nat} {ys : List Value} {w : World} {K : Value → World → Prop} (h : vapp t sz bytes z base n cap m ys w K) : vapp0 t sz bytes z base n cap m ys w K := by
  obtain ⟨h1, h2, h3, h4⟩ := h
  refine ⟨h1, fun hc => ⟨h2 hc, fun w' e => h4 _ _ _ (.inl ⟨hc, rfl, rfl, e⟩)⟩, fun hc => ?_⟩
  obtain ⟨h5, xs, hxs⟩ := h3 hc
  exact ⟨h5, xs, hxs, fun c b w' hle eb e => h4 _ _ _ (.inr ⟨hc, hle, by rw [eb], xs, hxs, e⟩)⟩

/-- What 'clear' leaves of a row. -/
def clrSet (base : Option Addr) (n : Nat) (z : List Value) (w : World) : World := match base with | some p => setSpan w p (zc n z) | none => w
def ve (P : Program) (ρ : Env) (o : Oper) (w : World) (K : Value → World → Prop) : Prop :=
  match o.op with
  | .alloc t => match zeroOf P t with
    | some z => valloc w (.cells z.cells t) fun b w => K (.pointer (some ⟨b, 0, none⟩)) w
    | none => False
  | .box t x => vx ρ x fun v => valloc w (.cells v.cells t) fun b w => K (.pointer (some ⟨b, 0, none⟩)) w
  | .buildSlice t len ps => match P.underlying t with
    | some (.slice e) => match szOf P e with
      | some sz => bif Nat.beq len 0 && ps.toList.isEmpty then valloc w (.cells #[] e) fun b w => K (.slice (some ⟨b, 0, none⟩) 0 0) w else match zeroOf P e with
        | some z => match evp ρ ps.toList with
          | some qs => bif Nat.ble 1 (len * sz) && Nat.ble (len * sz) 16777216 && Nat.beq z.cells.size sz then match Instr.fill (fun i => some (i * sz, sz)) (zc len z.cells.toList).toArray qs with
              | some cs => valloc w (.cells cs.toList.toArray e) fun b w => K (.slice (some ⟨b, 0, none⟩) len len) w
              | none => False
            else False
          | none => False
        | none => False
      | none => False
    | _ => False
  | .makeMap _ r => match r with
    | none => valloc w (.map #[] 0) fun b w => K (.map (some b)) w
    | some _ => False
  | .makeSlice t l c => match P.underlying t with
    | some (.slice e) => match P.info? e with
      | some i => match i.zero with
        | some z => bif Nat.ble 1 i.bytes && Nat.beq z.cells.size i.size then vx ρ l (isI fun _ n => vx ρ c (isI fun _ m => 0 ≤ n ∧ n ≤ m ∧ i.bytes * m ≤ 2 ^ 48 ∧
            valloc w (.cells (zc m.toNat z.cells.toList).toArray e) fun b w => K (.slice (some ⟨b, 0, none⟩) n.toNat m.toNat) w))
          else False
        | none => False
      | none => False
    | _ => False
  | .store t x v => match szOf P t with
    | some n => vx ρ x fun p => vx ρ v fun v => match p with
      | .pointer q => OnSome q fun a => vstore n a v w fun w => K undef w
      | _ => False
    | none => False
  | .mapUpdate t m k v => match mapOf (P.underlying t) with
    | some (kt, _) => match kkOf P kt with
      | some kk => vx ρ m fun m => vx ρ k fun k => vx ρ v fun v => match m with
        | .map q => OnSome q fun r => bif kFits kk k then ∃ es c, w.heap[r]? = some (.map es c) ∧ KeysOk kk es.toList ∧ ∀ w', w' = w.putObj r (mput k v es c) → K undef w'
          else False
        | _ => False
      | none => False
    | none => False
  | .call { callee := .builtin .delete, args, argTypes } => match args.toList, argTypes.toList with
    | [m, k], t :: _ => match mapOf (P.underlying t) with
      | some (kt, _) => match kkOf P kt with
        | some kk => vx ρ m fun m => vx ρ k fun k => match m with
          | .map q => OnSome q fun r => bif kFits kk k then ∃ es c, w.heap[r]? = some (.map es c) ∧ KeysOk kk es.toList ∧ ∀ w', w' = w.putObj r (mdel k es c) → K (.tuple #[]) w'
            else False
          | _ => False
        | none => False
      | none => False
    | _, _ => False
  | .call { callee := .builtin .clear, args, argTypes } => match args.toList, argTypes.toList with
    | [x], t :: _ => match P.underlying t with
      | some (.slice e) => match zeroOf P e with
        | some z => bif z.cells.toList.all Value.oneCell' then vx ρ x fun x => match x with
            | .slice base n _ => (0 < n → ∃ p, base = some p ∧ Wr w p (n * z.cells.toList.length)) ∧ ∀ w', w' = clrSet base n z.cells.toList w → K (.tuple #[]) w'
            | _ => False
          else False
        | none => False
      | _ => False
    | _, _ => False
  | .call { callee := .builtin .append, args, argTypes } => match args.toList, argTypes.toList with
    | [x, y], t :: u :: _ => match P.underlying t with
      | some (.slice e) => match P.info? e with
        | some i => match i.zero with
          | some z => bif Nat.ble 1 i.bytes && Nat.ble 1 i.size && Nat.beq z.cells.size i.size then vx ρ x fun x => vx ρ y fun y => match x with
              | .slice base n cap => bif sliceT (P.underlying u) then match y with
                  | .slice yb m _ => ∃ ys, RowAt w yb (m * i.size) ys ∧ vapp e i.size i.bytes z.cells.toList base n cap m ys w K
                  | _ => False
                else bif strT (P.underlying u) && Nat.beq i.size 1 then match y with
                  | .string s => vapp e i.size i.bytes z.cells.toList base n cap s.size (bytesV s.data.toList) w K
                  | _ => False
                else bif i64T (P.underlying u) then match y with
                  | .int _ l => 0 ≤ l ∧ l * i.bytes ≤ 2 ^ 48 ∧ ((n + l.toNat : Nat) : Int) ≤ IntKind.i64.max ∧ vapp e i.size i.bytes z.cells.toList base n cap l.toNat (zc l.toNat z.cells.toList) w K
                  | _ => False
                else False
              | _ => False
            else False
          | none => False
        | none => False
      | _ => False
    | _, _ => False
  | .call { callee := .value g, args, .. } => match evs ρ args.toList with
    | some vs => match g with
      | .func f => vcall P f o.type vs.toArray w K
      | g => match shOfT P o.type with
        | some sh => vx ρ g fun fv => FvCall P fv vs w fun u w' => sh.ex fun v => u = v ∧ K v w'
        | none => False
    | none => False
  | _ => False
end Go.Bty
