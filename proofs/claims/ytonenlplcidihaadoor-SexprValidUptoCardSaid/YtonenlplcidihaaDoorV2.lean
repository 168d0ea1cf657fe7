/- Part of the proof: V2. -/
import Derived.Test.YtonenlplcidihaaDoorV1
/-! Values by their shapes. -/
namespace Go.V
open Go

/-- The shape of one cell. 'ptr': a pointer that is not nil. -/
inductive B | int (k : IntKind) | bool | str | ptr | slice | any
/-- The shape of a value in a slot. -/
inductive Sh | one (b : B) | agg (l : List B)
/-- The shape of a result. -/
inductive Rs | one (s : Sh) | tup (l : List Sh)

def B.of : Value → B
  | .int k _ => .int k
  | .bool _ => .bool
  | .string _ => .str
  | .pointer _ => .ptr
  | .slice _ _ _ => .slice
  | _ => .any
def B.ofL : List Value → List B
  | [] => []
  | v :: l => B.of v :: B.ofL l
def Sh.of : Value → Sh
  | .agg cs => .agg (B.ofL cs.toList)
  | v => .one (B.of v)

def B.all : B → (Value → Prop) → Prop
  | .int k, p => ∀ n : Int, p (.int k n)
  | .bool, p => ∀ b : Bool, p (.bool b)
  | .str, p => ∀ s : ByteArray, p (.string s)
  | .ptr, p => ∀ a : Addr, p (.pointer (some a))
  | .slice, p => ∀ (a : Option Addr) (n c : Nat), p (.slice a n c)
  | .any, p => ∀ v : Value, p v
def B.allL : List B → (List Value → Prop) → Prop
  | [], p => p []
  | b :: l, p => b.all fun v => B.allL l fun vs => p (v :: vs)
def Sh.all : Sh → (Value → Prop) → Prop
  | .one b, p => b.all p
  | .agg l, p => B.allL l fun vs => p (.agg vs.toArray)
def Sh.allL : List Sh → (List Value → Prop) → Prop
  | [], p => p []
  | s :: l, p => s.all fun v => Sh.allL l fun vs => p (v :: vs)

def B.ex : B → (Value → Prop) → Prop
  | .int k, p => ∃ n : Int, p (.int k n)
  | .bool, p => ∃ b : Bool, p (.bool b)
  | .str, p => ∃ s : ByteArray, p (.string s)
  | .ptr, p => ∃ a : Addr, p (.pointer (some a))
  | .slice, p => ∃ (a : Option Addr) (n c : Nat), p (.slice a n c)
  | .any, p => ∃ v : Value, p v
def B.exL : List B → (List Value → Prop) → Prop
  | [], p => p []
  | b :: l, p => b.ex fun v => B.exL l fun vs => p (v :: vs)
def Sh.ex : Sh → (Value → Prop) → Prop
  | .one b, p => b.ex p
  | .agg l, p => B.exL l fun vs => p (.agg vs.toArray)
def Sh.exL : List Sh → (List Value → Prop) → Prop
  | [], p => p []
  | s :: l, p => s.ex fun v => Sh.exL l fun vs => p (v :: vs)
def Rs.ex : Rs → (Value → Prop) → Prop
  | .one s, p => s.ex p
  | .tup l, p => Sh.exL l fun vs => p (.tuple vs.toArray)

theorem B.ex_elim : ∀ (b : B) {p : Value → Prop}, b.ex p → ∃ v, p v
  | .int _, _, ⟨_, h⟩ => ⟨_, h⟩
  | .bool, _, ⟨_, h⟩ => ⟨_, h⟩
  | .str, _, ⟨_, h⟩ => ⟨_, h⟩
  | .ptr, _, ⟨_, h⟩ => ⟨_, h⟩
  | .slice, _, ⟨_, _, _, h⟩ => ⟨_, h⟩
  | .any, _, h => h
theorem B.exL_elim : ∀ (l : List B) {p : List Value → Prop}, B.exL l p → ∃ vs, vs.length = l.length ∧ p vs
  | [], _, h => ⟨[], rfl, h⟩
  | b :: l, p, h => by
    obtain ⟨v, h⟩ := b.ex_elim h
    obtain ⟨vs, hl, h⟩ := B.exL_elim l h
    exact ⟨v :: vs, by simp [hl], h⟩
theorem Sh.ex_elim : ∀ (s : Sh) {p : Value → Prop}, s.ex p → ∃ v, p v
  | .one b, _, h => b.ex_elim h
  | .agg l, _, h => let ⟨_, _, h⟩ := B.exL_elim l h; ⟨_, h⟩
theorem Sh.exL_elim : ∀ (l : List Sh) {p : List Value → Prop}, Sh.exL l p → ∃ vs, p vs
  | [], _, h => ⟨[], h⟩
  | s :: l, p, h => by
    obtain ⟨v, h⟩ := s.ex_elim h
    obtain ⟨vs, h⟩ := Sh.exL_elim l h
    exact ⟨v :: vs, h⟩
theorem Rs.ex_elim : ∀ (s : Rs) {p : Value → Prop}, s.ex p → ∃ v, p v
  | .one s, _, h => s.ex_elim h
  | .tup l, _, h => let ⟨_, h⟩ := Sh.exL_elim l h; ⟨_, h⟩

/-- Is the value of the shape? -/
def kindB : IntKind → IntKind → Bool
  | .i8, .i8 | .i16, .i16 | .i32, .i32 | .i64, .i64 | .u8, .u8 | .u16, .u16 | .u32, .u32 | .u64, .u64 => true
  | _, _ => false
theorem kindB_eq {j k : IntKind} (h : kindB j k = true) : j = k := by cases j <;> cases k <;> first | rfl | cases h
def B.fits : B → Value → Bool
  | .int k, .int j _ => kindB k j
  | .bool, .bool _ => true
  | .str, .string _ => true
  | .ptr, .pointer (some _) => true
  | .slice, .slice _ _ _ => true
  | .any, _ => true
  | _, _ => false
def B.fitsL : List B → List Value → Bool
  | [], [] => true
  | b :: l, v :: vs => cond (b.fits v) (B.fitsL l vs) false
  | _, _ => false
def Sh.fits : Sh → Value → Bool
  | .one b, v => b.fits v
  | .agg l, .agg cs => B.fitsL l cs.toList
  | _, _ => false
def Sh.fitsL : List Sh → List Value → Bool
  | [], [] => true
  | s :: l, v :: vs => cond (s.fits v) (Sh.fitsL l vs) false
  | _, _ => false

theorem B.all_elim : ∀ (b : B) {p : Value → Prop} (v : Value), b.fits v = true → b.all p → p v
  | .int k, _, .int j n, h, ha => by have := kindB_eq h; subst this; exact ha n
  | .bool, _, .bool b, _, ha => ha b
  | .str, _, .string s, _, ha => ha s
  | .ptr, _, .pointer (some a), _, ha => ha a
  | .slice, _, .slice a n c, _, ha => ha a n c
  | .any, _, v, _, ha => ha v
theorem B.allL_elim : ∀ (l : List B) {p : List Value → Prop} (vs : List Value), B.fitsL l vs = true → B.allL l p → p vs
  | [], _, [], _, ha => ha
  | b :: l, p, v :: vs, h, ha => by
    cases hb : b.fits v with
    | false => simp [B.fitsL, hb] at h
    | true =>
      simp only [B.fitsL, hb, cond_true] at h
      exact B.allL_elim l vs h (B.all_elim b v hb ha)
theorem Sh.all_elim : ∀ (s : Sh) {p : Value → Prop} (v : Value), s.fits v = true → s.all p → p v
  | .one b, _, v, h, ha => B.all_elim b v h ha
  | .agg l, _, .agg cs, h, ha => by have := B.allL_elim l cs.toList h ha; simpa using this
theorem Sh.allL_elim : ∀ (l : List Sh) {p : List Value → Prop} (vs : List Value), Sh.fitsL l vs = true → Sh.allL l p → p vs
  | [], _, [], _, ha => ha
  | b :: l, p, v :: vs, h, ha => by
    cases hb : b.fits v with
    | false => simp [Sh.fitsL, hb] at h
    | true =>
      simp only [Sh.fitsL, hb, cond_true] at h
      exact Sh.allL_elim l vs h (Sh.all_elim b v hb ha)
end Go.V
