/- Part of the proof: SxS. -/
import Derived.Test.YtonenlplcidihaaDoorSxP1
/-! What the parsers compute, in plain Lean. -/
namespace Go.Proofs.Sx
open Go Go.V Go.Proofs

structure It where
  kind : Int
  text : ByteArray
  kids : Int
  pos : Int
instance : DecidableEq It := fun a b =>
  if h : a.kind = b.kind ∧ a.text = b.text ∧ a.kids = b.kids ∧ a.pos = b.pos then .isTrue (by cases a; cases b; simp only at h; obtain ⟨rfl, rfl, rfl, rfl⟩ := h; rfl)
  else .isFalse fun e => h (by rw [e]; exact ⟨rfl, rfl, rfl, rfl⟩)

def bs (s : ByteArray) : List UInt8 := s.data.toList
def mk (l : List UInt8) : ByteArray := ⟨l.toArray⟩
def rest (s : ByteArray) (i : Nat) : List UInt8 := (bs s).drop i

/-- A string's value and what comes behind it. -/
def strL : List UInt8 → Option (List UInt8 × List UInt8)
  | [] => none
  | [c] => if c = 34 then some ([], []) else none
  | c :: d :: t =>
    if c = 34 then (if d = 34 then (strL t).map fun x => (34 :: x.1, x.2) else some ([], d :: t))
    else if isPrint c then (strL (d :: t)).map fun x => (c :: x.1, x.2) else none
def digitsL (l : List UInt8) : Bool := !l.isEmpty && l.all isDigit
def noLead : List UInt8 → Bool
  | 48 :: _ :: _ => false
  | _ => true
def kindW (wd : List UInt8) : Int :=
  match wd with
  | [] => 0
  | c :: _ =>
    if isDigit c then
      let a := wd.takeWhile (· != 46)
      if a.length < wd.length then
        if digitsL a && noLead a && digitsL (wd.drop (a.length + 1)) then 3 else 0
      else if digitsL wd && noLead wd then 2 else 0
    else 1
def bump (out : List It) (j : Nat) : List It := out.modify j fun x => { x with kids := x.kids + 1 }

structure St where
  l : List UInt8
  out : List It
  opn : List Nat

def addI (n : Nat) (st : St) (kind : Int) (text : List UInt8) (l : List UInt8) : Except (Nat × Int) St :=
  if st.opn.length > 256 then .error (n - st.l.length, 6)
  else .ok { l := l,
             out := (match st.opn.getLast? with | some j => bump st.out j | none => st.out) ++ [⟨kind, mk text, 0, ((n - st.l.length : Nat) : Int)⟩],
             opn := if kind = 5 then st.opn ++ [st.out.length] else st.opn }
def stepL (n : Nat) (st : St) : Except (Nat × Int) St :=
  match st.l with
  | [] => .error (n, 2)
  | c :: t =>
    if isBlank c then .ok { st with l := t }
    else if c = 59 then .ok { st with l := t.dropWhile (· != 10) }
    else if c = 41 then (if st.opn = [] then .error (n - st.l.length, 2) else .ok { st with l := t, opn := st.opn.dropLast })
    else if c = 40 then addI n st 5 [] t
    else if c = 34 then
      match strL t with
      | none => .error (n - st.l.length, 2)
      | some (v, r) => addI n st 4 v r
    else if isWord c then
      (if kindW (st.l.takeWhile isWord) = 0 then .error (n - st.l.length, 2)
      else addI n st (kindW (st.l.takeWhile isWord)) (st.l.takeWhile isWord) (st.l.dropWhile isWord))
    else .error (n - st.l.length, 2)

theorem strL_lt : ∀ {l : List UInt8} {v r : List UInt8}, strL l = some (v, r) → r.length < l.length
  | [], _, _, h => by cases h
  | [c], v, r, h => by
    unfold strL at h
    split at h <;> cases h
    simp
  | c :: d :: t, v, r, h => by
    unfold strL at h
    split at h
    · split at h
      · cases h2 : strL t with
        | none => rw [h2] at h; cases h
        | some x =>
          rw [h2] at h
          obtain ⟨v', r'⟩ := x
          cases h
          have := strL_lt h2
          simp only [List.length_cons]
          omega
      · cases h; simp
    · split at h
      · cases h2 : strL (d :: t) with
        | none => rw [h2] at h; cases h
        | some x =>
          rw [h2] at h
          obtain ⟨v', r'⟩ := x
          cases h
          have := strL_lt h2
          simp only [List.length_cons] at this ⊢
          omega
      · cases h
theorem addI_l {n : Nat} {st st' : St} {k : Int} {x l : List UInt8} (h : addI n st k x l = .ok st') : st'.l = l := by
  unfold addI at h
  split at h <;> cases h
  rfl
theorem dropWhile_le (p : UInt8 → Bool) (l : List UInt8) : (l.dropWhile p).length ≤ l.length := (List.dropWhile_sublist p).length_le
theorem stepL_lt {n : Nat} {st st' : St} (h : stepL n st = .ok st') : st'.l.length < st.l.length := by
  unfold stepL at h
  split at h
  · cases h
  · rename_i c t hl
    rw [hl]
    simp only [List.length_cons]
    split at h
    · cases h; exact Nat.lt_succ_self _
    split at h
    · cases h; exact Nat.lt_succ_of_le (dropWhile_le _ _)
    split at h
    · split at h <;> cases h
      exact Nat.lt_succ_self _
    split at h
    · rw [addI_l h]; exact Nat.lt_succ_self _
    split at h
    · split at h
      · cases h
      · rename_i v r hs
        rw [addI_l h]
        have := strL_lt hs
        omega
    split at h
    · rename_i hw
      split at h
      · cases h
      · rw [addI_l h, hl, List.dropWhile_cons, if_pos hw]
        exact Nat.lt_succ_of_le (dropWhile_le _ _)
    · cases h
def parseL (n : Nat) (st : St) : Except (Nat × Int) (List It) :=
  if st.l = [] then (if st.opn = [] then .ok st.out else .error (n, 2))
  else match _h : stepL n st with
    | .error e => .error e
    | .ok st' => parseL n st'
  termination_by st.l.length
  decreasing_by exact stepL_lt _h
/-- Parse. -/
def parse (s : ByteArray) : Except (Nat × Int) (List It) := if s.size > 65536 then .error (0, 6) else parseL s.size ⟨bs s, [], []⟩

theorem parseL_nil {n : Nat} {st : St} (h : st.l = []) : parseL n st = if st.opn = [] then .ok st.out else .error (n, 2) := by
  rw [parseL, if_pos h]
theorem parseL_ok {n : Nat} {st st' : St} (h : stepL n st = .ok st') : parseL n st = parseL n st' := by
  have hne : st.l ≠ [] := fun hl => by unfold stepL at h; rw [hl] at h; cases h
  rw [parseL, if_neg hne]
  split
  · rename_i e he; rw [h] at he; cases he
  · rename_i s he; rw [h] at he; cases he; rfl
theorem parseL_err {n : Nat} {st : St} {e : Nat × Int} (hl : st.l ≠ []) (h : stepL n st = .error e) : parseL n st = .error e := by
  rw [parseL, if_neg hl]
  split
  · rename_i e' he; rw [h] at he; cases he; rfl
  · rename_i s he; rw [h] at he; cases he

/-! Bytes. -/
theorem size_bs (s : ByteArray) : s.size = (bs s).length := Array.length_toList.symm
theorem rest_len (s : ByteArray) (i : Nat) : (rest s i).length = s.size - i := by rw [rest, List.length_drop, size_bs]
theorem rest_zero (s : ByteArray) : rest s 0 = bs s := rfl
theorem rest_nil {s : ByteArray} {i : Nat} (h : s.size ≤ i) : rest s i = [] := List.drop_eq_nil_of_le (by rw [← size_bs]; exact h)
theorem bs_nil : bs { data := #[] } = [] := rfl
theorem rest_cons {s : ByteArray} {i : Nat} (h : i < s.size) : rest s i = (bs s).getD i 0 :: rest s (i + 1) := by
  have hl : i < (bs s).length := by rw [← size_bs]; exact h
  rw [rest, List.drop_eq_getElem_cons hl, rest]
  congr 1
  simp [List.getD, List.getElem?_eq_getElem hl]
theorem drop_rest (s : ByteArray) (i j : Nat) : (rest s i).drop j = rest s (i + j) := by rw [rest, rest, List.drop_drop]
theorem bt_eq (s : ByteArray) (i : Nat) : bt s (i : Int) = (((bs s).getD i 0).toNat : Int) := rfl
theorem beq_bytes (a b : ByteArray) : (a.toList == b.toList) = decide (bs a = bs b) := by
  rw [Lib.toList_data, Lib.toList_data, Bool.eq_iff_iff, beq_iff_eq, decide_eq_true_eq]
  rfl
theorem beq_empty (a : ByteArray) : (a.toList == ByteArray.toList { data := #[] }) = decide (bs a = []) := beq_bytes a _
theorem extract_bs (s : ByteArray) (i j : Nat) : bs (s.extract i j) = (rest s i).take (j - i) := by
  simp [bs, rest, ByteArray.data_extract]
theorem mk_bs (s : ByteArray) : mk (bs s) = s := by cases s; simp [mk, bs]
theorem bs_mk (l : List UInt8) : bs (mk l) = l := by simp [bs, mk]
theorem bs_inj {a b : ByteArray} (h : bs a = bs b) : a = b := by rw [← mk_bs a, ← mk_bs b, h]
theorem bs_append (a b : ByteArray) : bs (a ++ b) = bs a ++ bs b := by simp [bs]
end Go.Proofs.Sx
