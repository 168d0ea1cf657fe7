/- Part of the proof: V7. -/
import Derived.Test.YtonenlplcidihaaDoorV6b
/-! A body's code. -/
namespace Go.V
open Go Go.RowKit

/-! ### what is read, what is written, how often a place is left -/
def tmpsOf : List Operand → List Nat
  | [] => []
  | .tmp t :: l => t :: tmpsOf l
  | _ :: l => tmpsOf l
def minus : List Nat → List Nat → List Nat
  | [], _ => []
  | t :: l, D => cond (memN t D) (minus l D) (t :: minus l D)
def rdOps : List Oper → List Nat → List Nat
  | [], _ => []
  | o :: l, D => minus (tmpsOf o.op.operands.toList) D ++ rdOps l (match o.dst with | some d => d :: D | none => D)
/-- What is surely written. -/
def df : Code → List Nat
  | .region _ ops _ => dsts ops.toList
  | .seq a b => df a ++ df b
  | _ => []
/-- What may be read before it is written. (No more than a guess hangs on it.) -/
def rd : Code → List Nat
  | .region _ ops _ => rdOps ops.toList []
  | .seq a b => rd a ++ minus (rd b) (df a)
  | .cond c a b => tmpsOf [c] ++ (rd a ++ rd b)
  | .block _ b => rd b
  | .loop b => rd b
  | .scope b => rd b
  | _ => []

/-- What is written on the ways to the end, and to each exit. -/
structure Wr where
  nrm : Option (List Nat)
  ex : List (Nat × List Nat)
def addW (l : List Nat) : List (Nat × List Nat) → List (Nat × List Nat)
  | [] => []
  | (i, m) :: r => (i, l ++ m) :: addW l r
def exAt (id : Nat) : List (Nat × List Nat) → Option (List Nat)
  | [] => none
  | (i, m) :: r => cond (Nat.beq i id) (match exAt id r with | some l => some (m ++ l) | none => some m) (exAt id r)
def exNot (id : Nat) : List (Nat × List Nat) → List (Nat × List Nat)
  | [] => []
  | (i, m) :: r => cond (Nat.beq i id) (exNot id r) ((i, m) :: exNot id r)
def orW : Option (List Nat) → Option (List Nat) → Option (List Nat)
  | some a, some b => some (a ++ b)
  | some a, none => some a
  | none, b => b
def wr : Code → Wr
  | .skip => ⟨some [], []⟩
  | .region _ ops _ => ⟨some (dsts ops.toList), []⟩
  | .seq a b => match (wr a).nrm with
    | some l => ⟨match (wr b).nrm with | some m => some (l ++ m) | none => none, (wr a).ex ++ addW l (wr b).ex⟩
    | none => ⟨none, (wr a).ex⟩
  | .cond _ a b => ⟨orW (wr a).nrm (wr b).nrm, (wr a).ex ++ (wr b).ex⟩
  | .block id b => ⟨orW (wr b).nrm (exAt id (wr b).ex), exNot id (wr b).ex⟩
  | .loop b => ⟨none, addW (match (wr b).nrm with | some l => l | none => []) (wr b).ex⟩
  | .exit id => ⟨none, [(id, [])]⟩
  | _ => ⟨none, []⟩
def lN (x : Option (List Nat)) : List Nat := match x with | some l => l | none => []

structure Cn where
  nrm : Nat
  ex : List Nat
def cntI (id : Nat) : List Nat → Nat
  | [] => 0
  | i :: l => cond (Nat.beq i id) (cntI id l + 1) (cntI id l)
def outI (id : Nat) : List Nat → List Nat
  | [] => []
  | i :: l => cond (Nat.beq i id) (outI id l) (i :: outI id l)
def nx : Code → Cn
  | .skip => ⟨1, []⟩
  | .region _ _ _ => ⟨1, []⟩
  | .seq a b => match (nx a).nrm with
    | 0 => nx a
    | k + 1 => ⟨(k + 1) * (nx b).nrm, (nx a).ex ++ (nx b).ex⟩
  | .cond _ a b => ⟨(nx a).nrm + (nx b).nrm, (nx a).ex ++ (nx b).ex⟩
  | .block id b => ⟨(nx b).nrm + cntI id (nx b).ex, outI id (nx b).ex⟩
  | .loop b => ⟨0, (nx b).ex⟩
  | .exit id => ⟨0, [id]⟩
  | _ => ⟨0, []⟩
def wt : Code → Nat
  | .region _ ops _ => ops.size
  | .seq a b => wt a + wt b
  | .cond _ a b => wt a + wt b + 2
  | .block _ b => wt b
  | .loop b => wt b + 5
  | .scope b => wt b
  | _ => 0
def joins (x y : Code) : Bool := cond (Nat.ble 2 (nx x).nrm) (Nat.ble 4 (wt y)) false

/-! ### frames at a place where ways meet -/
def killE (W : List Nat) (t : Nat) : Option (Cs × Value) → Option (Cs × Value)
  | some ([], v) => cond (memN t W) none (some ([], v))
  | _ => none
def kill (W : List Nat) : Fr → Fr
  | [] => []
  | (t, x) :: f => (t, killE W t x) :: kill W f
def jOf (W L : List Nat) : Fr → List Nat → List (Nat × Sh)
  | [], _ => []
  | (t, x) :: f, seen => cond (memN t seen) (jOf W L f seen) (match x with
    | some ([], v) => cond (cond (memN t W) (memN t L) false) ((t, Sh.of v) :: jOf W L f (t :: seen)) (jOf W L f (t :: seen))
    | _ => jOf W L f (t :: seen))
def shsOf : List (Nat × Sh) → List Sh
  | [] => []
  | (_, s) :: l => s :: shsOf l
def getAll (f : Fr) : List (Nat × Sh) → Option (List Value)
  | [] => some []
  | (t, _) :: l => match get f [] t, getAll f l with
    | some v, some vs => some (v :: vs)
    | _, _ => none
def setAll : List (Nat × Sh) → List Value → Fr → Fr
  | (t, _) :: l, v :: vs, f => (t, some ([], v)) :: setAll l vs f
  | _, _, f => f
def withAll (f : Fr) (J : List (Nat × Sh)) (K : List Value → Prop) : Prop :=
  match getAll f J with
  | some vs => cond (Sh.fitsL (shsOf J) vs) (K vs) False
  | none => False

/-- Ways meet: what follows is said once; 'same': the world does not turn on the way. -/
def vjoin (same : Bool) (J : List (Nat × Sh)) (W : List Nat) (f : Fr) (w : World) (cont : Fr → World → Prop) (body : (Fr → World → Prop) → Prop) : Prop :=
  ∀ K : List Value → World → Prop, cond same (Sh.allL (shsOf J) fun vs => cont (setAll J vs (kill W f)) w → K vs w)
    (Sh.allL (shsOf J) fun vs => ∀ w', cont (setAll J vs (kill W f)) w' → K vs w') → body fun f' w' => withAll f' J fun vs => K vs w'

/-- A loop: what holds of the slots at each round's head, and a measure. -/
def vloop (J : List (Nat × Sh)) (W : List Nat) (f : Fr) (w : World) (body : (Fr → World → Prop) → Fr → World → Prop) : Prop :=
  ∃ (I : List Value → World → Prop) (μ : List Value → World → Nat), withAll f J (fun vs => I vs w) ∧
    Sh.allL (shsOf J) fun vs => ∀ w', I vs w' → body (fun f' w'' => withAll f' J fun vs' => I vs' w'' ∧ μ vs' w'' < μ vs w') (setAll J vs (kill W f)) w'

def typeSh (P : Program) (t : TypeId) : Option Sh :=
  match P.info? t with
  | some i => match i.zero with
    | some z => some (Sh.of z)
    | none => none
  | none => none
def opSh (P : Program) (o : Oper) : Option Sh :=
  match o.op with
  | .box _ _ => some (.one .ptr)
  | .alloc _ => some (.one .ptr)
  | .fieldAddr _ _ _ => some (.one .ptr)
  | .indexAddr _ _ _ => some (.one .ptr)
  | _ => typeSh P o.type
/-- The slots of a region that are read later. -/
def jReg (P : Program) (L : List Nat) : List Oper → List Nat → List (Nat × Sh)
  | [], _ => []
  | o :: l, seen => match o.dst, o.guard with
    | none, _ => jReg P L l seen
    | some d, some _ => jReg P L l (d :: seen)
    | some d, none => cond (memN d seen) (jReg P L l seen) (cond (memN d L) (match opSh P o with
      | some s => (d, s) :: jReg P L l (d :: seen)
      | none => jReg P L l (d :: seen)) (jReg P L l (d :: seen)))
def effOps (P : Program) : List Oper → Nat
  | [] => 0
  | o :: l => cond (qk P o.op) (effOps P l) (effOps P l + 1)
def qkC (P : Program) : Code → Bool
  | .region _ ops d => cond d false (Nat.beq (effOps P ops.toList) 0)
  | .seq a b => cond (qkC P a) (qkC P b) false
  | .cond _ a b => cond (qkC P a) (qkC P b) false
  | .block _ b => qkC P b
  | .loop _ => false
  | .skip => true
  | .exit _ => true
  | .ret => true
  | _ => false
def gEff (P : Program) : List Oper → Bool
  | [] => false
  | o :: l => match o.guard with
    | none => gEff P l
    | some _ => match o.op with
      | .move _ | .assign _ | .pick .. | .binOp .. | .unOp .. | .extract .. => gEff P l
      | _ => true

/-- The slots that x surely writes and that are read later; what is known of them is their types. -/
def shOps (P : Program) : List Oper → List (Nat × Sh)
  | [] => []
  | o :: l => match o.dst, o.guard with
    | some d, none => (match opSh P o with
      | some s => (d, s) :: shOps P l
      | none => shOps P l)
    | _, _ => shOps P l
def shDf (P : Program) : Code → List (Nat × Sh)
  | .region _ ops _ => shOps P ops.toList
  | .seq a b => shDf P a ++ shDf P b
  | _ => []
def hasF (t : Nat) (f : Fr) : Bool := match look t f with
  | some ([], _) => true
  | _ => false
def jNew (L : List Nat) (f : Fr) : List (Nat × Sh) → List Nat → List (Nat × Sh)
  | [], _ => []
  | (t, s) :: l, seen => cond (memN t seen) (jNew L f l seen) (cond (memN t L) (cond (hasF t f) (jNew L f l seen) ((t, s) :: jNew L f l (t :: seen))) (jNew L f l seen))
def appJ : List (Nat × Sh) → List (Nat × Sh) → List (Nat × Sh)
  | [], m => m
  | x :: l, m => x :: appJ l m

def vret (P : Program) (f : Fr) (w : World) (K : List Value → Prop) : List ResultVar → Prop
  | [] => K []
  | .tmp t :: l => match get f [] t with
    | some v => vret P f w (fun vs => K (v :: vs)) l
    | none => False
  | .cell p t :: l => match get f [] p with
    | some (.pointer (some a)) => vload P t a w fun v => vret P f w (fun vs => K (v :: vs)) l
    | _ => False
def vresult (R : Value → Prop) : List Value → Prop
  | [v] => R v
  | vs => R (.tuple vs.toArray)
def resTmps : List ResultVar → List Nat
  | [] => []
  | .tmp t :: l => t :: resTmps l
  | .cell p _ :: l => p :: resTmps l

def knowC (c : Operand) (b : Bool) (f : Fr) : Fr :=
  match c with
  | .tmp t => (t, some ([], .bool b)) :: f
  | _ => f

def vcode (E : Env) (n : Nat) : Code → List Nat → (Fr → World → Prop) → (Nat → Fr → World → Prop) → (Fr → World → Prop) → Fr → World → Prop
  | .skip, _, kn, _, _, f, w => kn f w
  | .region _ ops false, L, kn, _, _, f, w =>
    cond (gEff E.P ops.toList)
      (vjoin (Nat.beq (effOps E.P ops.toList) 0) (jReg E.P L ops.toList []) (dsts ops.toList) f w kn fun k => vreg E n ops k ops.toList [] f w)
      (vreg E n ops (fun f' w' => kn (kill [] f') w') ops.toList [] f w)
  | .region _ ops true, L, kn, _, _, f, w =>
    cond (Region.noSelect ops) (cond (cond (gEff E.P ops.toList) true (Nat.ble 2 (effOps E.P ops.toList)))
      (vjoin (Nat.beq (effOps E.P ops.toList) 0) (jReg E.P L ops.toList []) (dsts ops.toList) f w.drew kn fun k => vany E n ops w.drew k (2 * ops.size + 8) (Array.replicate ops.size false) true [] f w.drew)
      (vany E n ops w.drew (fun f' w' => kn (kill [] f') w') (2 * ops.size + 8) (Array.replicate ops.size false) true [] f w.drew)) False
  | .seq x y, L, kn, kx, kr, f, w => match (wr x).nrm with
    | some W => cond (joins x y)
      (vjoin (qkC E.P x) (appJ (jOf W (rd y ++ L) f []) (jNew (rd y ++ L) f (shDf E.P x) [])) W f w (vcode E n y L kn kx kr) fun k => vcode E n x (rd y ++ L) k kx kr f w)
      (vcode E n x (rd y ++ L) (vcode E n y L kn kx kr) kx kr f w)
    | none => vcode E n x L (fun _ _ => False) kx kr f w
  | .cond c x y, L, kn, kx, kr, f, w => match ev f [] c with
    | some (.bool b) => cond b (vcode E n x L kn kx kr (knowC c true f) w) (vcode E n y L kn kx kr (knowC c false f) w)
    | _ => False
  | .block id x, L, kn, kx, kr, f, w => vcode E n x L kn (fun i f w => cond (Nat.beq i id) (kn f w) (kx i f w)) kr f w
  | .loop x, L, _, kx, kr, f, w => match (wr x).nrm with
    | some W => vloop (jOf W (rd x ++ L) f []) W f w fun k f' w' => vcode E n x (rd x ++ L) k kx kr f' w'
    | none => vcode E n x L (fun _ _ => False) kx kr f w
  | .exit id, _, _, kx, _, f, w => kx id f w
  | .ret, _, _, _, kr, f, w => kr f w
  | _, _, _, _, _, _, _ => False

def argFr : List Value → Nat → Fr
  | [], _ => []
  | v :: l, k => (k, some ([], v)) :: argFr l (k + 1)

/-- What a call of a function asks. -/
def vfn (E : Env) (fn : Func) (args : List Value) (w : World) (R : Value → World → Prop) : Prop :=
  match fn.body with
  | some c => vcode E (args.length + (fn.ntmps - args.length)) c (resTmps fn.results.toList)
      (fun f w => vret E.P f w (vresult fun v => R v w) fn.results.toList) (fun _ _ _ => False) (fun f w => vret E.P f w (vresult fun v => R v w) fn.results.toList) (argFr args 0) w
  | none => False

end Go.V
