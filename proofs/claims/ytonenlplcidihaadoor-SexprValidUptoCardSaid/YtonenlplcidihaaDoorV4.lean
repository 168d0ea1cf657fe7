/- Part of the proof: V4. -/
import Derived.Test.YtonenlplcidihaaDoorV3o
/-! A region: its operations one behind the other, over a frame of which only some slots are known. -/
namespace Go.V
open Go

abbrev Cs := List (Nat × Bool)
/-- What is known of the slots: a value, under the literals `cs` (each: a slot that holds that bool); the first entry of a slot counts; `none`: nothing. -/
abbrev Fr := List (Nat × Option (Cs × Value))

def beqB : Bool → Bool → Bool
  | true, true => true
  | false, false => true
  | _, _ => false
def notB : Bool → Bool
  | true => false
  | false => true
def csMem (s : Nat) (b : Bool) : Cs → Bool
  | [] => false
  | (t, c) :: l => cond (Nat.beq s t) (cond (beqB b c) true (csMem s b l)) (csMem s b l)
def csSub : Cs → Cs → Bool
  | [], _ => true
  | (s, b) :: l, m => cond (csMem s b m) (csSub l m) false
def look (t : Nat) : Fr → Option (Cs × Value)
  | [] => none
  | (s, x) :: f => cond (Nat.beq s t) x (look t f)
def get (f : Fr) (cs : Cs) (t : Nat) : Option Value :=
  match look t f with
  | some (c, v) => cond (csSub c cs) (some v) none
  | none => none
def ev (f : Fr) (cs : Cs) : Operand → Option Value
  | .tmp t => get f cs t
  | .const v => some v
  | .global g => some (.pointer (some ⟨g, 0, none⟩))
  | .func g => some (.func (.func g) #[] #[])
def rho (f : Fr) (cs : Cs) (x : Operand) : Value :=
  match ev f cs x with
  | some v => v
  | none => undef
def isSm : Option Value → Bool
  | some _ => true
  | none => false
def evAll (f : Fr) (cs : Cs) : List Operand → Bool
  | [] => true
  | x :: l => cond (isSm (ev f cs x)) (evAll f cs l) false

/-- Does a literal name the slot? -/
def mentC (d : Nat) : Cs → Bool
  | [] => false
  | (t, _) :: l => cond (Nat.beq t d) true (mentC d l)
def ment (d : Nat) : Fr → Bool
  | [] => false
  | (_, some (c, _)) :: f => cond (mentC d c) true (ment d f)
  | (_, none) :: f => ment d f

def Holds (cs : Cs) (a : Act) : Prop := ∀ p ∈ cs, a.tmps[p.1]? = some (.bool p.2)
structure Sat (n : Nat) (f : Fr) (a : Act) : Prop where
  defers : a.defers = []
  size : a.tmps.size = n
  val : ∀ t cs v, look t f = some (cs, v) → (Holds cs a → a.tmps[t]? = some v) ∧ (¬ Holds cs a → a.tmps[t]? = some undef)
def Agree (W : List Nat) (a a' : Act) : Prop := ∀ t, t ∉ W → a'.tmps[t]? = a.tmps[t]?

theorem beqB_eq {b c : Bool} (h : beqB b c = true) : b = c := by cases b <;> cases c <;> first | rfl | cases h
theorem csMem_mem {s : Nat} {b : Bool} : ∀ {l : Cs}, csMem s b l = true → (s, b) ∈ l
  | (t, c) :: l, h => by
    unfold csMem at h
    cases h1 : Nat.beq s t with
    | false => rw [h1] at h; exact List.mem_cons_of_mem _ (csMem_mem h)
    | true =>
      rw [h1] at h
      cases h2 : beqB b c with
      | false => rw [h2] at h; exact List.mem_cons_of_mem _ (csMem_mem h)
      | true => rw [Nat.eq_of_beq_eq_true h1, beqB_eq h2]; exact List.mem_cons_self
theorem csSub_mem : ∀ {c m : Cs}, csSub c m = true → ∀ p ∈ c, p ∈ m
  | [], _, _, p, hp => by cases hp
  | (s, b) :: l, m, h, p, hp => by
    unfold csSub at h
    cases h1 : csMem s b m with
    | false => rw [h1] at h; cases h
    | true =>
      rw [h1] at h
      rcases List.mem_cons.1 hp with rfl | hp
      · exact csMem_mem h1
      · exact csSub_mem h p hp
theorem Holds.sub {c m : Cs} {a : Act} (h : csSub c m = true) (hm : Holds m a) : Holds c a := fun p hp => hm p (csSub_mem h p hp)

theorem getD_of {a : Act} {t : Nat} {v : Value} (h : a.tmps[t]? = some v) : a.tmps.getD t undef = v := by
  rw [Array.getD_eq_getD_getElem?, h]; rfl

theorem get_sat {n : Nat} {f : Fr} {a : Act} {cs : Cs} {t : Nat} {v : Value} (hs : Sat n f a) (hh : Holds cs a) (h : get f cs t = some v) : a.tmps[t]? = some v := by
  unfold get at h
  cases hl : look t f with
  | none => rw [hl] at h; cases h
  | some x =>
    obtain ⟨c, u⟩ := x
    rw [hl] at h
    cases h1 : csSub c cs with
    | false => simp only [h1, cond_false] at h; cases h
    | true =>
      simp only [h1, cond_true, Option.some.injEq] at h
      subst h
      exact (hs.val t c u hl).1 (hh.sub h1)

theorem ev_sat {n : Nat} {f : Fr} {a : Act} {cs : Cs} {x : Operand} {v : Value} (hs : Sat n f a) (hh : Holds cs a) (h : ev f cs x = some v) : a.eval x = v := by
  cases x with
  | tmp t => exact getD_of (get_sat hs hh h)
  | const u => exact Option.some.inj h
  | global g => exact Option.some.inj h
  | func g => exact Option.some.inj h

theorem evAll_sat {n : Nat} {f : Fr} {a : Act} {cs : Cs} (hs : Sat n f a) (hh : Holds cs a) : ∀ {l : List Operand}, evAll f cs l = true → ∀ x ∈ l, rho f cs x = a.eval x
  | x :: l, h, y, hy => by
    unfold evAll at h
    cases hx : ev f cs x with
    | none => rw [hx] at h; cases h
    | some v =>
      rw [hx] at h
      rcases List.mem_cons.1 hy with rfl | hy
      · unfold rho; rw [hx]; exact (ev_sat hs hh hx).symm
      · exact evAll_sat hs hh h y hy

def notSelect : Op → Bool
  | .select _ _ => false
  | _ => true

theorem execOp_rho {n : Nat} {f : Fr} {a : Act} {cs : Cs} {o : Oper} (hs : Sat n f a) (hh : Holds cs a) (hn : notSelect o.op = true) (h : evAll f cs o.op.operands.toList = true) :
    execOp (rho f cs) o = execOp a.eval o :=
  execOp_congr o (fun cs b he => by rw [he] at hn; cases hn) fun x hx => evAll_sat hs hh h x (by simpa using hx)

/-! ### one step -/
def dstOf (ops : Array Oper) (j : Nat) : Option Nat :=
  match ops[j]? with
  | some o => o.dst
  | none => none
/-- The slot's new entry. -/
def push (o : Oper) (x : Option (Cs × Value)) (f : Fr) : Fr :=
  match o.dst with
  | some d => (d, x) :: f
  | none => f
/-- May the slot be written? -/
def mayPut (n : Nat) (o : Oper) (kn : Cs) (f : Fr) : Bool :=
  match o.dst with
  | some d => cond (Nat.blt d n) (cond (mentC d kn) false (notB (ment d f))) false
  | none => true

def joinV (x : Bool) : Option Value → Option Value → Option Value
  | some (.bool p), some (.bool q) => some (.bool (cond x p q))
  | some (.int k p), some (.int j q) => cond (kindB k j) (some (.int k (cond x p q))) none
  | some (.string p), some (.string q) => some (.string (cond x p q))
  | _, _ => none

/-- '&&' and '||', told by their constants. -/
def joinO (x : Bool) (a b : Operand) (p q : Option Value) : Option Value :=
  match a, b, p, q with
  | .const (.bool true), _, some (.bool true), some (.bool c) => some (.bool (or x c))
  | _, .const (.bool false), some (.bool c), some (.bool false) => some (.bool (and x c))
  | _, _, p, q => joinV x p q

def pureOf : Sem Next → Option Value
  | .pure (.value v) => some v
  | _ => none
/-- The value of an operation that neither looks at the world nor may fail, were it carried out where the literals hold. -/
def vspec (f : Fr) (kn cs : Cs) (o : Oper) : Option Value :=
  match o.op with
  | .pick (.tmp t) a b =>
    match ev f (cs ++ kn) (.tmp t) with
    | some (.bool x) => cond (csMem t true kn) (ev f (cs ++ kn) a) (cond (csMem t false kn) (ev f (cs ++ kn) b) (joinO x a b (ev f ((t, true) :: (cs ++ kn)) a) (ev f ((t, false) :: (cs ++ kn)) b)))
    | _ => none
  | op => cond (notSelect op) (cond (evAll f (cs ++ kn) op.operands.toList) (pureOf (execOp (rho f (cs ++ kn)) o)) none) none

theorem Holds.append {c d : Cs} {a : Act} (h : Holds c a) (k : Holds d a) : Holds (c ++ d) a := fun p hp => (List.mem_append.1 hp).elim (h p) (k p)
theorem Holds.cons {t : Nat} {b : Bool} {c : Cs} {a : Act} (h : a.tmps[t]? = some (.bool b)) (k : Holds c a) : Holds ((t, b) :: c) a := fun p hp => by
  rcases List.mem_cons.1 hp with rfl | hp
  · exact h
  · exact k p hp

theorem joinV_some {x : Bool} {p q : Option Value} {v : Value} (h : joinV x p q = some v) : ∃ u y, p = some u ∧ q = some y ∧ v = cond x u y := by
  unfold joinV at h
  split at h
  · cases h; cases x <;> exact ⟨_, _, rfl, rfl, rfl⟩
  · rename_i k a j b
    cases hk : kindB k j with
    | false => rw [hk] at h; cases h
    | true =>
      rw [hk] at h
      have := kindB_eq hk
      subst this
      cases h
      cases x <;> exact ⟨_, _, rfl, rfl, rfl⟩
  · cases h; cases x <;> exact ⟨_, _, rfl, rfl, rfl⟩
  · cases h

theorem joinO_some {x : Bool} {a b : Operand} {p q : Option Value} {v : Value} (h : joinO x a b p q = some v) : ∃ u y, p = some u ∧ q = some y ∧ v = cond x u y := by
  unfold joinO at h
  split at h
  · cases h; cases x <;> exact ⟨_, _, rfl, rfl, rfl⟩
  · cases h; cases x <;> exact ⟨_, _, rfl, rfl, rfl⟩
  · exact joinV_some h

theorem vspec_sound {P : Program} {n : Nat} {f : Fr} {a : Act} {kn cs : Cs} {o : Oper} {v : Value} {w : World} (hs : Sat n f a) (hk : Holds kn a) (hc : Holds cs a) (h : vspec f kn cs o = some v) :
    (execOp a.eval o).run P w = .ok (.value v) w := by
  have hh : Holds (cs ++ kn) a := hc.append hk
  unfold vspec at h
  split at h
  · rename_i t x y ho
    split at h <;> try (cases h; done)
    rename_i b hb
    have hb' : a.tmps[t]? = some (.bool b) := get_sat hs hh hb
    have he : a.eval (.tmp t) = .bool b := getD_of hb'
    have hv : v = (if b then a.eval x else a.eval y) := by
      cases h1 : csMem t true kn with
      | true =>
        rw [h1] at h
        have := hk _ (csMem_mem h1)
        rw [hb'] at this
        cases this
        exact (ev_sat hs hh h).symm
      | false =>
        cases h2 : csMem t false kn with
        | true =>
          rw [h1, h2] at h
          have := hk _ (csMem_mem h2)
          rw [hb'] at this
          cases this
          exact (ev_sat hs hh h).symm
        | false =>
          rw [h1, h2] at h
          obtain ⟨u, z, hu, hz, rfl⟩ := joinO_some h
          cases b with
          | true => exact (ev_sat hs (hh.cons hb') hu).symm
          | false => exact (ev_sat hs (hh.cons hb') hz).symm
    subst hv
    unfold execOp
    simp [ho, he, asBool]
  · cases h1 : notSelect o.op with
    | false => rw [h1] at h; cases h
    | true =>
      cases h2 : evAll f (cs ++ kn) o.op.operands.toList with
      | false => rw [h1, h2] at h; cases h
      | true =>
        rw [h1, h2] at h
        simp only [cond_true] at h
        rw [execOp_rho hs hh h1 h2] at h
        unfold pureOf at h
        split at h
        · rename_i u he
          cases h
          rw [he]; rfl
        · cases h
end Go.V
