/- Part of the proof: V3. -/
import Derived.Test.YtonenlplcidihaaDoorV2
import Derived.Laws.OwnMore
import Derived.Laws.Slices
import Derived.Laws.BytesArg
import Derived.Lib.AppendStr
import Derived.Orders
import Derived.Laws.StructEq
import Derived.Lib.ConvBytes
import Derived.Below
/-! What one operation asks. -/
namespace Go.V
open Go

structure Env where
  P : Program
  okf : List (Nat × Rs)
def lookR (f : Nat) : List (Nat × Rs) → Option Rs
  | [] => none
  | (g, r) :: l => cond (Nat.beq g f) (some r) (lookR f l)
def fnOk (P : Program) (f : Nat) : Prop := ∃ fn, P.funcs[f]? = some fn ∧ (fn.name == "runtime.NumGoroutine") = false ∧ fn.body.isNone = false
structure Env.Ok (E : Env) : Prop where
  fns : ∀ f rs, lookR f E.okf = some rs → fnOk E.P f
  mixed : E.P.follows .mixedOrders = true

/-- A byte of a string. -/
def bt (s : ByteArray) (i : Int) : Int := ((s.data.toList.getD i.toNat 0).toNat : Int)
/-- The address of a slice that is cut off in front. -/
def subA (a : Option Addr) (l m size : Nat) : Option Addr := if m = l then a else a.map (·.add (l * size))

def vcells (w : World) (a : Addr) : Nat → List Value → Prop
  | _, [] => True
  | i, v :: vs => w.cell? (a.add i) = some v ∧ vcells w a (i + 1) vs

def zcells (P : Program) (t : TypeId) : Option Value := match P.info? t with | some i => i.zero | none => none

def vload (P : Program) (t : TypeId) (a : Addr) (w : World) (K : Value → Prop) : Prop :=
  match P.underlying t, P.info? t with
  | some (.struct _), some i | some (.array _ _), some i =>
    match i.zero with
    | some (.agg z) => cond (Nat.beq (B.ofL z.toList).length i.size) (B.exL (B.ofL z.toList) fun vs => vcells w a 0 vs ∧ K (.agg vs.toArray)) False
    | _ => False
  | some _, some i =>
    match i.zero with
    | some (.agg _) => False
    | some z => (B.of z).ex fun v => w.cell? a = some v ∧ K v
    | none => False
  | _, _ => False

/-- May these cells be written? -/
def writable (w : World) (a : Addr) (n : Nat) : Prop := ∀ i, i < n → (∃ u, w.cell? (a.add i) = some u) ∧ w.frozen? (a.add i) = false
def setCells (w : World) (a : Addr) : Nat → List Value → World
  | _, [] => w
  | i, v :: vs => setCells (w.setCell (a.add i) v) a (i + 1) vs
def plainCell : Value → Bool
  | .agg _ => false
  | .tuple _ => false
  | _ => true
def plainCells : List Value → Bool
  | [] => true
  | v :: vs => cond (plainCell v) (plainCells vs) false

def vstore (P : Program) (t : TypeId) (a : Addr) (v : Value) (w : World) (K : World → Prop) : Prop :=
  match P.info? t, v with
  | some i, .agg cs => cond (Nat.beq cs.toList.length i.size) (cond (plainCells cs.toList) (writable w a i.size ∧ K (setCells w a 0 cs.toList)) False) False
  | some i, v => cond (Nat.beq i.size 1) (cond (plainCell v) (((∃ u, w.cell? a = some u) ∧ w.frozen? a = false) ∧ K (w.setCell a v)) False) False
  | none, _ => False

def vslice (size : Nat) (K : Value → Prop) : Value → Option Value → Option Value → Option Value → Prop
  | .string s, none, none, none => K (.string (s.extract 0 s.size))
  | .string s, some (.int _ l), none, none => (0 ≤ l ∧ l ≤ s.size) ∧ K (.string (s.extract l.toNat s.size))
  | .string s, none, some (.int _ h), none => (0 ≤ h ∧ h ≤ s.size) ∧ K (.string (s.extract 0 h.toNat))
  | .string s, some (.int _ l), some (.int _ h), none => (0 ≤ l ∧ l ≤ h ∧ h ≤ s.size) ∧ K (.string (s.extract l.toNat h.toNat))
  | .slice a n c, none, none, none => K (.slice a n c)
  | .slice a n c, some (.int _ l), none, none => (0 ≤ l ∧ l ≤ n) ∧ K (.slice (subA a l.toNat c size) (n - l.toNat) (c - l.toNat))
  | .slice a _ c, none, some (.int _ h), none => (0 ≤ h ∧ h ≤ c) ∧ K (.slice a h.toNat c)
  | .slice a _ c, some (.int _ l), some (.int _ h), none => (0 ≤ l ∧ l ≤ h ∧ h ≤ c) ∧ K (.slice (subA a l.toNat c size) (h.toNat - l.toNat) (c - l.toNat))
  | .slice a _ c, none, some (.int _ h), some (.int _ m) => (0 ≤ h ∧ h ≤ m ∧ m ≤ c) ∧ K (.slice a h.toNat m.toNat)
  | .slice a _ c, some (.int _ l), some (.int _ h), some (.int _ m) => (0 ≤ l ∧ l ≤ h ∧ h ≤ m ∧ m ≤ c) ∧ K (.slice (subA a l.toNat m.toNat size) (h.toNat - l.toNat) (m.toNat - l.toNat))
  | _, _, _, _ => False

/-- The call comes back with a value. -/
def Ret (P : Program) (f : Nat) (args : Array Value) (w : World) (R : Value → World → Prop) : Prop :=
  Calls P f args w fun e w' => ∃ v, e = .returned v ∧ R v w'
/-- The same, as a thing of its own. -/
inductive Called (P : Program) (f : Nat) (args : Array Value) (w : World) (R : Value → World → Prop) : Prop
  | mk (h : Ret P f args w R)
/-- A call. -/
def vcall (E : Env) (f : Nat) (args : Array Value) (w : World) (K : Value → World → Prop) : Prop :=
  match lookR f E.okf with
  | some rs => Called E.P f args w fun v w' => rs.ex fun u => v = u ∧ K u w'
  | none => False

/-- A row of the call's own, or one that has no room. -/
def OwnFull (w : World) (base : Nat) (e : TypeId) (size : Nat) (a : Option Addr) (n c m : Nat) (xs : List Value) : Prop :=
  w.ownsRow base e size (.slice a n c) n xs ∨ (0 < m ∧ c < n + m ∧ xs.length = n * size ∧ ∃ ad, a = some ad ∧ ∀ j u, xs[j]? = some u → w.cell? (ad.add j) = some u)
/-- May x be appended to s? s is a row of the call's own (from block 'base' on), 'news' is what x holds. -/
structure AppOk (w : World) (base : Nat) (e : TypeId) (size bytes : Nat) (a : Option Addr) (n c : Nat) (xs : List Value) (xa : Option Addr) (m : Nat) (news : List Value) : Prop where
  own : OwnFull w base e size a n c m xs
  len : news.length = m * size
  src : m = 0 ∨ ∃ ad, xa = some ad ∧ vcells w ad 0 news
  plain : plainCells news = true
  max : n + m ≤ maxLen
  bytes : (n + m) * bytes ≤ 140737488355328
  base : base ≤ w.heap.size
/-- What it comes to. -/
structure AppRes (w w' : World) (base : Nat) (e : TypeId) (size : Nat) (a : Option Addr) (n c : Nat) (xs : List Value) (m : Nat) (news : List Value) (a' : Option Addr) (c' : Nat) : Prop where
  own : w'.ownsRow base e size (.slice a' (n + m) c') (n + m) (xs ++ news)
  grown : w.grownBy w' (Value.slice a n c).ownBlock
  nil : a' = none ↔ a = none ∧ m = 0
/-- append(s, x..), s a row of the call's own. -/
def vappend (P : Program) (t : TypeId) (w : World) (K : Value → World → Prop) : Value → Value → Prop
  | .slice a n c, .slice xa m _ =>
    match P.underlying t with
    | some (.slice e) =>
      match P.info? e with
      | some i =>
        match i.zero with
        | some z => cond (Nat.beq z.cells.toList.length i.size) (cond (Nat.ble 1 i.size)
            (∃ (base : Nat) (xs news : List Value), AppOk w base e i.size i.bytes a n c xs xa m news ∧
              ∀ (a' : Option Addr) (c' : Nat) (w' : World), AppRes w w' base e i.size a n c xs m news a' c' → K (.slice a' (n + m) c') w') False) False
        | none => False
      | none => False
    | _ => False
  | _, _ => False

/-- A slice of bytes that holds 'bs'. -/
def BytesAt (w : World) (a : Option Addr) (n : Nat) (bs : List UInt8) : Prop :=
  bs.length = n ∧ (a = none ∧ n = 0 ∨ ∃ ad, a = some ad ∧ ad.spot = none ∧ ∀ i, i < n → w.cell? ⟨ad.block, ad.off + i, none⟩ = some (.int .u8 (bs.getD i 0).toNat))
/-- The world behind '[]byte(s)': a new block. -/
structure BytesNew (w w' : World) (s : ByteArray) (cap : Nat) : Prop where
  below : RowKit.Below w.heap.size w w'
  size : w'.heap.size = w.heap.size + 1
  cell : ∀ j, j < s.size → w'.cell? ⟨w.heap.size, j, none⟩ = some (.int .u8 (s.data.toList.getD j 0).toNat)
  cap : s.size ≤ cap

/-- '==' on structs whose fields are numbers, strings and bools. -/
def eqF (P : Program) : List Field → Nat → List Value → List Value → Option Bool
  | [], _, _, _ => some true
  | f :: fs, i, x :: xs, y :: ys => cond (cond (Nat.beq f.offset i) (f.name == "_") true) none
      (match P.underlying f.type, x, y with
        | some (.int _), .int k a, .int j b => cond (kindB k j) (match eqF P fs (i + 1) xs ys with | some c => some (and (a == b) c) | none => none) none
        | some .string, .string a, .string b => match eqF P fs (i + 1) xs ys with | some c => some (and (a == b) c) | none => none
        | some .bool, .bool a, .bool b => match eqF P fs (i + 1) xs ys with | some c => some (and (a == b) c) | none => none
        | _, _, _ => none)
  | _, _, _, _ => none
def veq (P : Program) (t : TypeId) (xs ys : Array Value) (K : Bool → Prop) : Prop :=
  match P.underlying t with
  | some (.struct fs) => cond (P.stoodInHeld t) False (cond (P.eqGuardType P.depth t) False (match eqF P fs.toList 0 xs.toList ys.toList with
    | some b => K b
    | none => False))
  | _ => False

def intOp : BinOp → Bool
  | .quo | .rem => true
  | _ => false

def vres (K : Value → World → Prop) : Next → World → Prop
  | .value v, w' => K v w'
  | .skip, w' => K undef w'
  | _, _ => False
def vgen (E : Env) (ρ : Operand → Value) (o : Oper) (w : World) (K : Value → World → Prop) : Prop := swp E.P (execOp ρ o) w (vres K)

def vop (E : Env) (ρ : Operand → Value) (o : Oper) (w : World) (K : Value → World → Prop) : Prop :=
  match o.op with
  | .load t a => match ρ a with
    | .pointer (some ad) => vload E.P t ad w fun v => K v w
    | _ => False
  | .store t a x => match ρ a with
    | .pointer (some ad) => vstore E.P t ad (ρ x) w fun w' => K undef w'
    | _ => False
  | .index t x i => match ρ x, ρ i with
    | .string s, .int _ n => match E.P.underlying t with
      | some .string => (0 ≤ n ∧ n < s.size) ∧ K (.int .u8 (bt s n)) w
      | _ => False
    | _, _ => vgen E ρ o w K
  | .indexAddr t x i => match ρ x, ρ i with
    | .slice a len _, .int _ n => match E.P.underlying t with
      | some (.slice e) => match E.P.info? e with
        | some i => ∃ ad, a = some ad ∧ (0 ≤ n ∧ n < len) ∧ K (.pointer (some (ad.add (n.toNat * i.size)))) w
        | none => False
      | _ => False
    | _, _ => vgen E ρ o w K
  | .slice t x lo hi mx => match E.P.underlying t with
    | some .string => match ρ x with
      | .string s => vslice 1 (fun v => K v w) (.string s) (lo.map ρ) (hi.map ρ) (mx.map ρ)
      | _ => False
    | some (.slice e) => match ρ x, E.P.info? e with
      | .slice a n c, some i => vslice i.size (fun v => K v w) (.slice a n c) (lo.map ρ) (hi.map ρ) (mx.map ρ)
      | _, _ => False
    | _ => vgen E ρ o w K
  | .convert src dst x => match ρ x with
    | .slice a n _ => match E.P.underlying src, E.P.underlying dst with
      | some (.slice e), some .string => match E.P.underlying e with
        | some (.int .u8) => ∃ bs : List UInt8, BytesAt w a n bs ∧ K (.string ⟨bs.toArray⟩) w
        | _ => False
      | _, _ => vgen E ρ o w K
    | .string s => match E.P.underlying src, E.P.underlying dst with
      | some .string, some (.slice e) => match E.P.underlying e with
        | some (.int .u8) => ∀ (cap : Nat) (w' : World), BytesNew w w' s cap → K (.slice (some ⟨w.heap.size, 0, none⟩) s.size cap) w'
        | _ => False
      | _, _ => vgen E ρ o w K
    | _ => vgen E ρ o w K
  | .binOp op t x y _ => match ρ x, ρ y with
    | .int k a, .int j b => cond (intOp op) (cond (kindB k j) (cond (decide (b = 0)) False
        (match op with
          | .quo => K (.int k (k.wrap (a.tdiv b))) w
          | .rem => K (.int k (a.tmod b)) w
          | _ => False)) False) (vgen E ρ o w K)
    | .string a, .string b => match op with
      | .add => a.size + b.size ≤ 9223372036854775807 ∧ K (.string (a ++ b)) w
      | _ => vgen E ρ o w K
    | .agg xs, .agg ys => match op with
      | .eql => veq E.P t xs ys fun b => K (.bool b) w
      | .neq => veq E.P t xs ys fun b => K (.bool (!b)) w
      | _ => False
    | _, _ => vgen E ρ o w K
  | .makeSlice t l c => match ρ l, ρ c with
    | .int _ l, .int _ c => match E.P.underlying t with
      | some (.slice e) => match E.P.info? e with
        | some i => match i.zero with
          | some z => (0 ≤ l ∧ l ≤ c ∧ (i.bytes : Int) * c ≤ 281474976710656 ∧ c ≤ 9223372036854775807) ∧
              K (.slice (some ⟨w.heap.size, 0, none⟩) l.toNat c.toNat) (w.alloc (.cells (madeCells z.cells (c.toNat * i.size)) e))
          | none => False
        | none => False
      | _ => False
    | _, _ => False
  | .call c => match c.callee with
    | .value f => match ρ f with
      | .func (.func g) first captured => vcall E g (first ++ c.args.map ρ ++ captured) w K
      | _ => False
    | .builtin .append => match c.args.toList, c.argTypes.toList with
      | [s, x], [t, u] => match ρ x with
        | .string _ => False
        | y => cond (Nat.beq t u) (vappend E.P t w K (ρ s) y) False
      | _, _ => False
    | _ => vgen E ρ o w K
  | _ => vgen E ρ o w K
end Go.V
