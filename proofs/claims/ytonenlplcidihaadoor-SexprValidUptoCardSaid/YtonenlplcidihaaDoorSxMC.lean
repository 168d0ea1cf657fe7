/- Part of the proof: SxMC. -/
import Derived.Test.YtonenlplcidihaaDoorSxMH
/-! Texts behind one another; the text of a forest. In plain Lean. -/
namespace Go.Proofs.Sx
open Go Go.V Go.Proofs Go.RowKit
set_option maxRecDepth 100000

/-- From state to state. -/
inductive Reach (n : Nat) : St → St → Prop
  | refl (st : St) : Reach n st st
  | step {st mid st' : St} (h : stepL n st = .ok mid) (r : Reach n mid st') : Reach n st st'
theorem Reach.trans {n : Nat} {a b c : St} (h : Reach n a b) (k : Reach n b c) : Reach n a c := by
  induction h with
  | refl => exact k
  | step h _ ih => exact .step h (ih k)
theorem Reach.one {n : Nat} {a b : St} (h : stepL n a = .ok b) : Reach n a b := .step h (.refl _)
theorem Reach.parse {n : Nat} {a b : St} (h : Reach n a b) : parseL n a = parseL n b := by
  induction h with
  | refl => rfl
  | step h _ ih => rw [parseL_ok h, ih]
theorem reach_of {n : Nat} : ∀ (m : Nat) (st : St), st.l.length ≤ m → ∀ {out : List It}, parseL n st = .ok out → Reach n st ⟨[], out, []⟩ := by
  intro m
  induction m with
  | zero =>
    intro st hm out h
    have hl : st.l = [] := List.eq_nil_of_length_eq_zero (by omega)
    rw [parseL_nil hl] at h
    split at h
    · rename_i ho
      cases h
      obtain ⟨l, o, p⟩ := st
      simp only at hl ho
      subst hl; subst ho
      exact .refl _
    · cases h
  | succ m ih =>
    intro st hm out h
    by_cases hl : st.l = []
    · rw [parseL_nil hl] at h
      split at h
      · rename_i ho
        cases h
        obtain ⟨l, o, p⟩ := st
        simp only at hl ho
        subst hl; subst ho
        exact .refl _
      · cases h
    · cases hst : stepL n st with
      | error e => rw [parseL_err hl hst] at h; cases h
      | ok st' =>
        rw [parseL_ok hst] at h
        have := stepL_lt hst
        exact .step hst (ih st' (by omega) h)

/-! The steps, one by one. -/
theorem st_blank (n : Nat) (c : UInt8) (t : List UInt8) (out : List It) (opn : List Nat) (h : isBlank c = true) : stepL n ⟨c :: t, out, opn⟩ = .ok ⟨t, out, opn⟩ := by
  rw [stepL]; simp only [h, if_true]
theorem st_comment (n : Nat) (t : List UInt8) (out : List It) (opn : List Nat) : stepL n ⟨59 :: t, out, opn⟩ = .ok ⟨t.dropWhile (· != 10), out, opn⟩ := rfl
theorem st_close (n : Nat) (t : List UInt8) (out : List It) (opn : List Nat) (h : opn ≠ []) : stepL n ⟨41 :: t, out, opn⟩ = .ok ⟨t, out, opn.dropLast⟩ := by
  have : stepL n ⟨41 :: t, out, opn⟩ = if opn = [] then .error (n - (t.length + 1), 2) else .ok ⟨t, out, opn.dropLast⟩ := rfl
  rw [this, if_neg h]
theorem st_open (n : Nat) (t : List UInt8) (out : List It) (opn : List Nat) (h : opn.length ≤ 256) :
    stepL n ⟨40 :: t, out, opn⟩ = .ok ⟨t, outsOf out opn ⟨5, mk [], 0, ((n - (t.length + 1) : Nat) : Int)⟩, opn ++ [out.length]⟩ := by
  have : stepL n ⟨40 :: t, out, opn⟩ = addI n ⟨40 :: t, out, opn⟩ 5 [] t := rfl
  rw [this, addI, if_neg (by show ¬ opn.length > 256; omega)]
  rfl
theorem st_deep (n : Nat) (t : List UInt8) (out : List It) (opn : List Nat) (h : 256 < opn.length) : stepL n ⟨40 :: t, out, opn⟩ = .error (n - (t.length + 1), 6) := by
  have : stepL n ⟨40 :: t, out, opn⟩ = addI n ⟨40 :: t, out, opn⟩ 5 [] t := rfl
  rw [this, addI, if_pos h]; rfl
theorem st_str (n : Nat) (t : List UInt8) (out : List It) (opn : List Nat) {v r : List UInt8} (hs : strL t = some (v, r)) (h : opn.length ≤ 256) :
    stepL n ⟨34 :: t, out, opn⟩ = .ok ⟨r, outsOf out opn ⟨4, mk v, 0, ((n - (t.length + 1) : Nat) : Int)⟩, opn⟩ := by
  have : stepL n ⟨34 :: t, out, opn⟩ = match strL t with
      | none => .error (n - (t.length + 1), 2)
      | some (v, r) => addI n ⟨34 :: t, out, opn⟩ 4 v r := rfl
  rw [this, hs]
  show addI n ⟨34 :: t, out, opn⟩ 4 v r = _
  rw [addI, if_neg (by show ¬ opn.length > 256; omega), if_neg (by decide)]
  rfl
theorem word_facts {c : UInt8} (h : isWord c = true) : isBlank c = false ∧ c ≠ 59 ∧ c ≠ 41 ∧ c ≠ 40 ∧ c ≠ 34 := by
  refine ⟨?_, ?_, ?_, ?_, ?_⟩
  · cases hb : isBlank c with
    | false => rfl
    | true =>
      unfold isBlank at hb
      simp only [Bool.or_eq_true, beq_iff_eq] at hb
      rcases hb with ((rfl | rfl) | rfl) | rfl <;> exact absurd h (by decide)
  all_goals (rintro rfl; exact absurd h (by decide))
theorem st_word (n : Nat) (c : UInt8) (t : List UInt8) (out : List It) (opn : List Nat) (hw : isWord c = true) (hk : kindW ((c :: t).takeWhile isWord) ≠ 0) (h : opn.length ≤ 256) :
    stepL n ⟨c :: t, out, opn⟩ = .ok ⟨(c :: t).dropWhile isWord, outsOf out opn ⟨kindW ((c :: t).takeWhile isWord), mk ((c :: t).takeWhile isWord), 0, ((n - (t.length + 1) : Nat) : Int)⟩, opn⟩ := by
  obtain ⟨h0, h1, h2, h3, h4⟩ := word_facts hw
  have hk5 : kindW ((c :: t).takeWhile isWord) ≠ 5 := by
    rcases kindW_range ((c :: t).takeWhile isWord) with h | h | h | h <;> omega
  rw [stepL]
  simp only [h0, h1, h2, h3, h4, hw, hk, if_false, if_true, Bool.false_eq_true]
  rw [addI, if_neg (by show ¬ opn.length > 256; omega), if_neg hk5]
  rfl

/-! More text behind. -/
theorem strL_app {r : List UInt8} (hr : ∀ c t, r = c :: t → c ≠ 34) : ∀ {l v x : List UInt8}, strL l = some (v, x) → strL (l ++ r) = some (v, x ++ r)
  | [], _, _, h => by cases h
  | [c], v, x, h => by
    unfold strL at h
    split at h <;> cases h
    rename_i hc
    subst hc
    cases r with
    | nil => rfl
    | cons d t =>
      have hd := hr d t rfl
      show strL (34 :: d :: t) = _
      unfold strL
      rw [if_pos rfl, if_neg hd]
      rfl
  | c :: d :: t, v, x, h => by
    rw [List.cons_append, List.cons_append]
    unfold strL at h ⊢
    split at h
    · rename_i hc
      rw [if_pos hc]
      split at h
      · rename_i hd
        rw [if_pos hd]
        cases h2 : strL t with
        | none => rw [h2] at h; cases h
        | some y =>
          obtain ⟨v', x'⟩ := y
          rw [h2] at h
          cases h
          rw [strL_app hr h2]; rfl
      · rename_i hd
        rw [if_neg hd]
        cases h; rfl
    · rename_i hc
      rw [if_neg hc]
      split at h
      · rename_i hp
        rw [if_pos hp]
        cases h2 : strL (d :: t) with
        | none => rw [h2] at h; cases h
        | some y =>
          obtain ⟨v', x'⟩ := y
          rw [h2] at h
          cases h
          have := strL_app hr h2
          rw [List.cons_append] at this
          rw [this]; rfl
      · cases h
theorem drop_app {p : UInt8 → Bool} {r : List UInt8} (hr : ∀ c t, r = c :: t → p c = false) : ∀ (l : List UInt8), (l ++ r).dropWhile p = l.dropWhile p ++ r
  | [] => by
    cases r with
    | nil => rfl
    | cons c t => rw [List.nil_append, List.dropWhile_cons, hr c t rfl]; rfl
  | c :: l => by
    rw [List.cons_append, List.dropWhile_cons, List.dropWhile_cons]
    split
    · exact drop_app hr l
    · rfl
theorem take_app {p : UInt8 → Bool} {r : List UInt8} (hr : ∀ c t, r = c :: t → p c = false) : ∀ (l : List UInt8), (l ++ r).takeWhile p = l.takeWhile p
  | [] => by
    cases r with
    | nil => rfl
    | cons c t => rw [List.nil_append, List.takeWhile_cons, hr c t rfl]; rfl
  | c :: l => by
    rw [List.cons_append, List.takeWhile_cons, List.takeWhile_cons]
    split
    · rw [take_app hr l]
    · rfl
/-- A step goes on where a line feed and more stand behind. -/
theorem step_app {n : Nat} (r : List UInt8) {st st' : St} (h : stepL n st = .ok st') : stepL (n + (r.length + 1)) ⟨st.l ++ 10 :: r, st.out, st.opn⟩ = .ok ⟨st'.l ++ 10 :: r, st'.out, st'.opn⟩ := by
  have hp : ∀ m : Nat, n + (r.length + 1) - ((m + (r.length + 1))) = n - m := fun m => by omega
  obtain ⟨l, out, opn⟩ := st
  have hadd : ∀ {k : Int} {x t : List UInt8}, addI n ⟨l, out, opn⟩ k x t = .ok st' → addI (n + (r.length + 1)) ⟨l ++ 10 :: r, out, opn⟩ k x (t ++ 10 :: r) = .ok ⟨st'.l ++ 10 :: r, st'.out, st'.opn⟩ := by
    intro k x t h
    unfold addI at h ⊢
    split at h
    · cases h
    · rename_i hd
      cases h
      rw [if_neg hd]
      simp only [List.length_append, List.length_cons, hp]
  have hnw : ∀ c t, 10 :: r = c :: t → isWord c = false := fun c t e => by cases e; decide
  unfold stepL at h ⊢
  cases l with
  | nil => cases h
  | cons c t =>
    simp only [List.cons_append] at h ⊢
    split at h
    · rename_i hb; rw [if_pos hb]; cases h; rfl
    rename_i hb; rw [if_neg hb]
    split at h
    · rename_i hc
      rw [if_pos hc]
      cases h
      rw [drop_app (fun c t e => by cases e; decide)]
    rename_i hc; rw [if_neg hc]
    split at h
    · rename_i hc2
      rw [if_pos hc2]
      split at h
      · cases h
      · rename_i ho; rw [if_neg ho]; cases h; rfl
    rename_i hc2; rw [if_neg hc2]
    split at h
    · rename_i hc3; rw [if_pos hc3]; exact hadd h
    rename_i hc3; rw [if_neg hc3]
    split at h
    · rename_i hc4
      rw [if_pos hc4]
      split at h
      · cases h
      · rename_i v x hs
        rw [strL_app (fun c t e => by cases e; decide) hs]
        exact hadd h
    rename_i hc4; rw [if_neg hc4]
    split at h
    · rename_i hw
      rw [if_pos hw]
      have e1 := take_app hnw (c :: t)
      have e2 := drop_app hnw (c :: t)
      rw [List.cons_append] at e1 e2
      rw [e1, e2]
      split at h
      · cases h
      · rename_i hk; rw [if_neg hk]; exact hadd h
    · cases h
theorem reach_app {n : Nat} (r : List UInt8) {st st' : St} (h : Reach n st st') : Reach (n + (r.length + 1)) ⟨st.l ++ 10 :: r, st.out, st.opn⟩ ⟨st'.l ++ 10 :: r, st'.out, st'.opn⟩ := by
  induction h with
  | refl => exact .refl _
  | step h _ ih => exact .step (step_app r h) ih

/-! Items ahead. -/
def sh (d : Nat) (x : It) : It := { x with pos := x.pos + (d : Int) }
theorem bump_pre (pre out : List It) (j : Nat) : bump (pre ++ out) (pre.length + j) = pre ++ bump out j := by
  apply List.ext_getElem?
  intro i
  unfold bump
  rw [List.getElem?_modify]
  by_cases hi : i < pre.length
  · rw [List.getElem?_append_left hi, List.getElem?_append_left hi]
    have h : ¬ pre.length + j = i := by omega
    cases pre[i]? <;> simp [h]
  · rw [List.getElem?_append_right (by omega), List.getElem?_append_right (by omega), List.getElem?_modify]
    by_cases hj : j = i - pre.length
    · have h : pre.length + j = i := by omega
      subst hj
      cases out[i - pre.length]? <;> simp [h]
    · have h : ¬ pre.length + j = i := by omega
      simp only [h, hj]
theorem addI_mk {n : Nat} {st : St} {k : Int} {x l : List UInt8} (h : st.opn.length ≤ 256) : addI n st k x l = .ok ⟨l, outsOf st.out st.opn ⟨k, mk x, 0, ((n - st.l.length : Nat) : Int)⟩, opnOf st.out st.opn k⟩ := by
  rw [addI, if_neg (by omega)]
  rfl
theorem bump_sh (d : Nat) (out : List It) (j : Nat) : bump (out.map (sh d)) j = (bump out j).map (sh d) := by
  apply List.ext_getElem?
  intro i
  unfold bump
  rw [List.getElem?_modify, List.getElem?_map, List.getElem?_map, List.getElem?_modify]
  cases out[i]? with
  | none => simp
  | some x => by_cases h : j = i <;> simp [h, sh]
theorem outs_pre (d : Nat) (pre out : List It) (opn : List Nat) (x : It) : outsOf (pre ++ out.map (sh d)) (opn.map (pre.length + ·)) (sh d x) = pre ++ (outsOf out opn x).map (sh d) := by
  unfold outsOf
  rw [List.getLast?_map, List.map_append, ← List.append_assoc]
  cases opn.getLast? with
  | none => rfl
  | some j =>
    show bump (pre ++ out.map (sh d)) (pre.length + j) ++ [sh d x] = _
    rw [bump_pre, bump_sh]
    rfl
theorem opn_pre (d : Nat) (pre out : List It) (opn : List Nat) (k : Int) : opnOf (pre ++ out.map (sh d)) (opn.map (pre.length + ·)) k = (opnOf out opn k).map (pre.length + ·) := by
  unfold opnOf
  split
  · rw [List.map_append, List.length_append, List.length_map]; rfl
  · rfl
theorem step_pre {n : Nat} (d : Nat) (pre : List It) {st st' : St} (hn : st.l.length ≤ n) (h : stepL n st = .ok st') :
    stepL (n + d) ⟨st.l, pre ++ st.out.map (sh d), st.opn.map (pre.length + ·)⟩ = .ok ⟨st'.l, pre ++ st'.out.map (sh d), st'.opn.map (pre.length + ·)⟩ := by
  obtain ⟨l, out, opn⟩ := st
  have hadd : ∀ {k : Int} {x t : List UInt8}, addI n ⟨l, out, opn⟩ k x t = .ok st' → addI (n + d) ⟨l, pre ++ out.map (sh d), opn.map (pre.length + ·)⟩ k x t = .ok ⟨st'.l, pre ++ st'.out.map (sh d), st'.opn.map (pre.length + ·)⟩ := by
    intro k x t h
    obtain ⟨rfl, hd⟩ := addI_okA h
    have hd' : opn.length ≤ 256 := hd
    rw [addI_mk (by show (opn.map _).length ≤ 256; rw [List.length_map]; exact hd')]
    have e1 : ((n + d - l.length : Nat) : Int) = ((n - l.length : Nat) : Int) + (d : Int) := by
      have : l.length ≤ n := hn
      omega
    have e2 := outs_pre d pre out opn ⟨k, mk x, 0, ((n - l.length : Nat) : Int)⟩
    have e3 := opn_pre d pre out opn k
    simp only [e1, e3]
    rw [← e2]
    rfl
  unfold stepL at h ⊢
  cases l with
  | nil => cases h
  | cons c t =>
    simp only at h ⊢
    split at h
    · rename_i hb; rw [if_pos hb]; cases h; rfl
    rename_i hb; rw [if_neg hb]
    split at h
    · rename_i hc; rw [if_pos hc]; cases h; rfl
    rename_i hc; rw [if_neg hc]
    split at h
    · rename_i hc2
      rw [if_pos hc2]
      split at h
      · cases h
      · rename_i ho
        rw [if_neg (by rw [List.map_eq_nil_iff]; exact ho)]
        cases h
        simp only [List.map_dropLast]
    rename_i hc2; rw [if_neg hc2]
    split at h
    · rename_i hc3; rw [if_pos hc3]; exact hadd h
    rename_i hc3; rw [if_neg hc3]
    split at h
    · rename_i hc4
      rw [if_pos hc4]
      split at h
      · cases h
      · exact hadd h
    rename_i hc4; rw [if_neg hc4]
    split at h
    · rename_i hw
      rw [if_pos hw]
      split at h
      · cases h
      · rename_i hk; rw [if_neg hk]; exact hadd h
    · cases h
theorem reach_pre {n : Nat} (d : Nat) (pre : List It) {st st' : St} (hn : st.l.length ≤ n) (h : Reach n st st') :
    Reach (n + d) ⟨st.l, pre ++ st.out.map (sh d), st.opn.map (pre.length + ·)⟩ ⟨st'.l, pre ++ st'.out.map (sh d), st'.opn.map (pre.length + ·)⟩ := by
  induction h with
  | refl => exact .refl _
  | step h _ ih => exact .step (step_pre d pre hn h) (ih (Nat.le_trans (Nat.le_of_lt (stepL_lt h)) hn))

theorem strip_sh (d : Nat) (x : It) : strip (sh d x) = strip x := rfl
/-- Two texts and a line feed between them. -/
theorem parse_concat {s t : ByteArray} {a b : List It} (hs : parse s = .ok a) (ht : parse t = .ok b) (hz : s.size + 1 + t.size ≤ 65536) {u : ByteArray} (hu : bs u = bs s ++ 10 :: bs t) :
    ∃ c, parse u = .ok c ∧ c.map strip = (a ++ b).map strip := by
  have hzu : u.size = s.size + (t.size + 1) := by rw [size_bs, hu, List.length_append, List.length_cons, ← size_bs, ← size_bs]
  unfold parse at hs ht ⊢
  rw [if_neg (by omega)] at hs ht ⊢
  have r1 := reach_app (bs t) (reach_of _ _ (Nat.le_refl _) hs)
  have r2 := reach_pre (s.size + 1) a (by show (bs t).length ≤ t.size; rw [size_bs]; exact Nat.le_refl _) (reach_of _ _ (Nat.le_refl _) ht)
  simp only [List.map_nil, List.append_nil, List.nil_append] at r1 r2
  rw [hzu, hu]
  have e1 : s.size + ((bs t).length + 1) = s.size + (t.size + 1) := by rw [← size_bs]
  have e2 : t.size + (s.size + 1) = s.size + (t.size + 1) := by omega
  rw [e1] at r1
  rw [e2] at r2
  refine ⟨a ++ b.map (sh (s.size + 1)), ?_, ?_⟩
  · rw [r1.parse, (Reach.one (st_blank _ 10 _ _ _ (by decide))).parse, r2.parse, parseL_nil rfl]
    rfl
  · rw [List.map_append, List.map_append, List.map_map]
    rfl
end Go.Proofs.Sx

/-! The text of a forest is parsed. In plain Lean. -/
namespace Go.Proofs.Sx
open Go Go.V Go.Proofs Go.RowKit
set_option maxRecDepth 100000

/-- k elements more. -/
def addK (out : List It) (opn : List Nat) (k : Nat) : List It := match opn.getLast? with
  | some j => out.modify j fun x => { x with kids := x.kids + (k : Int) }
  | none => out
theorem addK_zero (out : List It) (opn : List Nat) : addK out opn 0 = out := by
  unfold addK
  split
  · rename_i j _
    apply List.ext_getElem?
    intro i
    rw [List.getElem?_modify]
    cases out[i]? with
    | none => rfl
    | some x => by_cases h : j = i <;> simp
  · rfl
theorem addK_len (out : List It) (opn : List Nat) (k : Nat) : (addK out opn k).length = out.length := by
  unfold addK
  split
  · exact List.length_modify ..
  · rfl
theorem addK_app {out : List It} {opn : List Nat} (ho : ∀ j ∈ opn, j < out.length) (k : Nat) (xs : List It) : addK (out ++ xs) opn k = addK out opn k ++ xs := by
  unfold addK
  split
  · rename_i j hj
    have hjl := ho j (List.mem_of_getLast? hj)
    apply List.ext_getElem?
    intro i
    rw [List.getElem?_modify]
    by_cases hi : i < out.length
    · rw [List.getElem?_append_left hi, List.getElem?_append_left (by rw [List.length_modify]; exact hi), List.getElem?_modify]
    · rw [List.getElem?_append_right (by omega), List.getElem?_append_right (by rw [List.length_modify]; omega), List.length_modify]
      have h : ¬ j = i := by omega
      cases xs[i - out.length]? <;> simp [h]
  · rfl
theorem addK_add (out : List It) (opn : List Nat) (k m : Nat) : addK (addK out opn k) opn m = addK out opn (k + m) := by
  unfold addK
  split
  · rename_i j _
    apply List.ext_getElem?
    intro i
    rw [List.getElem?_modify, List.getElem?_modify, List.getElem?_modify]
    cases out[i]? with
    | none => rfl
    | some x =>
      by_cases h : j = i <;> simp [h]
      rw [Int.add_assoc]
  · rfl
theorem addK_last (out : List It) (opn : List Nat) (x : It) (k : Nat) : addK (out ++ [x]) (opn ++ [out.length]) k = out ++ [{ x with kids := x.kids + (k : Int) }] := by
  unfold addK
  rw [List.getLast?_concat]
  apply List.ext_getElem?
  intro i
  rw [List.getElem?_modify]
  by_cases hi : i < out.length
  · rw [List.getElem?_append_left hi, List.getElem?_append_left hi]
    have h : ¬ out.length = i := by omega
    cases out[i]? <;> simp [h]
  · rw [List.getElem?_append_right (by omega), List.getElem?_append_right (by omega)]
    by_cases h : out.length = i
    · subst h; simp
    · have : i - out.length ≠ 0 := by omega
      obtain ⟨m, hm⟩ : ∃ m, i - out.length = m + 1 := ⟨i - out.length - 1, by omega⟩
      rw [hm]; rfl
theorem strip_bump (out : List It) (j : Nat) : (bump out j).map strip = (out.map strip).modify j fun x => { x with kids := x.kids + (1 : Nat) } := by
  apply List.ext_getElem?
  intro i
  unfold bump
  rw [List.getElem?_map, List.getElem?_modify, List.getElem?_modify, List.getElem?_map]
  cases out[i]? with
  | none => rfl
  | some x => by_cases h : j = i <;> simp [h, strip]
theorem strip_outs (out : List It) (opn : List Nat) (x : It) : (outsOf out opn x).map strip = addK (out.map strip) opn 1 ++ [strip x] := by
  unfold outsOf addK
  rw [List.map_append]
  cases opn.getLast? with
  | none => rfl
  | some j =>
    show (bump out j).map strip ++ _ = _
    rw [strip_bump]; rfl
theorem outs_len (out : List It) (opn : List Nat) (x : It) : (outsOf out opn x).length = out.length + 1 := by
  unfold outsOf
  rw [List.length_append]
  split
  · rw [bump_len]; rfl
  · rfl

/-- A text that may stand behind an item. -/
def Stop (r : List UInt8) : Prop := ∀ c t, r = c :: t → isWord c = false ∧ c ≠ 34
theorem Stop.cons {c : UInt8} {t : List UInt8} (h : isWord c = false) (h2 : c ≠ 34) : Stop (c :: t) := fun _ _ e => by cases e; exact ⟨h, h2⟩
theorem strL_esc {t : List UInt8} (ht : t.all isPrint = true) {r : List UInt8} (hr : Stop r) : strL (esc t ++ 34 :: r) = some (t, r) := by
  induction t with
  | nil =>
    cases r with
    | nil => rfl
    | cons d t' =>
      have hd := (hr d t' rfl).2
      show strL (34 :: d :: t') = _
      unfold strL
      rw [if_pos rfl, if_neg hd]
  | cons c t ih =>
    rw [List.all_cons, Bool.and_eq_true] at ht
    have ih := ih ht.2
    unfold esc
    split
    · rename_i hc
      subst hc
      show strL (34 :: 34 :: (esc t ++ 34 :: r)) = _
      unfold strL
      rw [if_pos rfl, if_pos rfl, ih]; rfl
    · rename_i hc
      rw [List.cons_append]
      obtain ⟨d, u, hd⟩ : ∃ d u, esc t ++ 34 :: r = d :: u := by
        cases he : esc t ++ 34 :: r with
        | nil => simp at he
        | cons d u => exact ⟨d, u, rfl⟩
      rw [hd] at ih ⊢
      unfold strL
      rw [if_neg hc, if_pos ht.1, ih]; rfl
theorem take_all {p : UInt8 → Bool} : ∀ {l : List UInt8}, l.all p = true → l.takeWhile p = l
  | [], _ => rfl
  | c :: l, h => by
    rw [List.all_cons, Bool.and_eq_true] at h
    rw [List.takeWhile_cons, if_pos h.1, take_all h.2]
theorem drop_all {p : UInt8 → Bool} : ∀ {l : List UInt8}, l.all p = true → l.dropWhile p = []
  | [], _ => rfl
  | c :: l, h => by
    rw [List.all_cons, Bool.and_eq_true] at h
    rw [List.dropWhile_cons, if_pos h.1, drop_all h.2]
/-- The text of a leaf is read. -/
theorem st_leaf (n : Nat) {k : Int} {t : ByteArray} (hk : okLeaf k (bs t) = true) {r : List UInt8} (hr : Stop r) (out : List It) {opn : List Nat} (hd : opn.length ≤ 256) :
    ∃ p, stepL n ⟨ltxt k (bs t) ++ r, out, opn⟩ = .ok ⟨r, outsOf out opn ⟨k, t, 0, p⟩, opn⟩ := by
  unfold okLeaf at hk
  split at hk
  · rename_i h4
    subst h4
    unfold ltxt
    rw [if_pos rfl, List.cons_append, List.append_assoc, List.singleton_append]
    exact ⟨_, by rw [st_str n _ out opn (strL_esc hk hr) hd, mk_bs]⟩
  · rename_i h4
    unfold ltxt
    rw [if_neg h4]
    split at hk
    · rename_i h123
      rw [Bool.and_eq_true, Bool.and_eq_true, decide_eq_true_eq] at hk
      obtain ⟨⟨hne, hw⟩, hkw⟩ := hk
      have hstop : ∀ c t, r = c :: t → isWord c = false := fun c t e => (hr c t e).1
      have e1 : (bs t ++ r).takeWhile isWord = bs t := by
        rw [take_app hstop, take_all hw]
      have e2 : (bs t ++ r).dropWhile isWord = r := by
        rw [drop_app hstop, drop_all hw]; rfl
      cases hb : bs t with
      | nil => rw [hb] at hne; cases hne
      | cons c u =>
        rw [hb] at e1 e2 hw hkw
        rw [List.cons_append] at e1 e2 ⊢
        rw [List.all_cons, Bool.and_eq_true] at hw
        have h9 := st_word n c (u ++ r) out opn hw.1 (by rw [e1, hkw]; omega) hd
        rw [e1, e2, hkw, ← hb, mk_bs] at h9
        exact ⟨_, h9⟩
    · cases hk

/-- The text of a forest is read. -/
theorem read_fo (n : Nat) : ∀ (f : Fo), f.goodV → ∀ (out : List It) (opn : List Nat) (r : List UInt8), Stop r → (∀ j ∈ opn, j < out.length) → opn.length + f.edep ≤ 257 →
    ∃ out', Reach n ⟨f.more.tail ++ r, out, opn⟩ ⟨r, out', opn⟩ ∧ out'.map strip = addK (out.map strip) opn f.cnt ++ f.flat
  | .nil, _, out, opn, r, _, _, _ => ⟨out, .refl _, by rw [show Fo.nil.cnt = 0 from rfl, addK_zero]; simp [Fo.flat]⟩
  | .leaf k t f, hg, out, opn, r, hr, ho, hd => by
    have hd1 : opn.length + 1 ≤ 257 := by have : 1 ≤ (Fo.leaf k t f).edep := Nat.le_max_left _ _; omega
    have hd2 : opn.length + f.edep ≤ 257 := by have : f.edep ≤ (Fo.leaf k t f).edep := Nat.le_max_right _ _; omega
    have hop : ∀ j ∈ opn, j < (out.map strip).length := fun j hj => by rw [List.length_map]; exact ho j hj
    have hop1 : ∀ j ∈ opn, j < (addK (out.map strip) opn 1).length := fun j hj => by rw [addK_len]; exact hop j hj
    have hsr : Stop (f.more ++ r) := by
      cases f with
      | nil => exact hr
      | leaf k t g => exact .cons (by decide) (by decide)
      | list c g => exact .cons (by decide) (by decide)
    obtain ⟨p, hp⟩ := st_leaf n hg.1 hsr out (opn := opn) (by omega)
    obtain ⟨o2, hr2, ho2⟩ := read_fo n f hg.2.2 (outsOf out opn ⟨k, t, 0, p⟩) opn r hr (fun j hj => by rw [outs_len]; have := ho j hj; omega) hd2
    refine ⟨o2, ?_, ?_⟩
    · have e1 : (Fo.leaf k t f).more.tail ++ r = ltxt k (bs t) ++ (f.more ++ r) := by simp [Fo.more]
      rw [e1]
      refine .step hp ?_
      cases f with
      | nil => exact hr2
      | leaf k t g => exact .step (st_blank n 32 _ _ _ (by decide)) hr2
      | list c g => exact .step (st_blank n 32 _ _ _ (by decide)) hr2
    · rw [ho2, strip_outs, addK_app hop1, addK_add, List.append_assoc]
      show addK _ _ (1 + f.cnt) ++ ([(⟨k, t, 0, 0⟩ : It)] ++ f.flat) = addK _ _ (f.cnt + 1) ++ _
      rw [Nat.add_comm 1]; rfl
  | .list c f, hg, out, opn, r, hr, ho, hd => by
    have hd1 : opn.length + (c.edep + 1) ≤ 257 := by have : c.edep + 1 ≤ (Fo.list c f).edep := Nat.le_max_left _ _; omega
    have hd2 : opn.length + f.edep ≤ 257 := by have : f.edep ≤ (Fo.list c f).edep := Nat.le_max_right _ _; omega
    have hop : ∀ j ∈ opn, j < (out.map strip).length := fun j hj => by rw [List.length_map]; exact ho j hj
    have hop1 : ∀ j ∈ opn, j < (addK (out.map strip) opn 1).length := fun j hj => by rw [addK_len]; exact hop j hj
    have e1 : (Fo.list c f).more.tail ++ r = 40 :: (c.more.tail ++ 41 :: (f.more ++ r)) := by simp [Fo.more]
    have h1 := st_open n (c.more.tail ++ 41 :: (f.more ++ r)) out opn (by omega)
    obtain ⟨o2, hr2, ho2⟩ := read_fo n c hg.1 (outsOf out opn ⟨5, mk [], 0, ((n - ((c.more.tail ++ 41 :: (f.more ++ r)).length + 1) : Nat) : Int)⟩) (opn ++ [out.length]) (41 :: (f.more ++ r)) (.cons (by decide) (by decide))
      (fun j hj => by
        rw [outs_len]
        rcases List.mem_append.1 hj with hj | hj
        · have := ho j hj; omega
        · rw [List.mem_singleton.1 hj]; omega) (by rw [List.length_append]; simp only [List.length_cons, List.length_nil]; omega)
    have h3 := st_close n (f.more ++ r) o2 (opn ++ [out.length]) (by simp)
    rw [List.dropLast_concat] at h3
    have hl2 : o2.length = out.length + 1 + c.flat.length := by
      have := congrArg List.length ho2
      rw [List.length_map, List.length_append, addK_len, List.length_map, outs_len] at this
      exact this
    obtain ⟨o4, hr4, ho4⟩ := read_fo n f hg.2 o2 opn r hr (fun j hj => by have := ho j hj; omega) hd2
    refine ⟨o4, ?_, ?_⟩
    · rw [e1]
      refine .step h1 (hr2.trans (.step h3 ?_))
      cases f with
      | nil => exact hr4
      | leaf k t g => exact .step (st_blank n 32 _ _ _ (by decide)) hr4
      | list c g => exact .step (st_blank n 32 _ _ _ (by decide)) hr4
    · have e2 : out.length = (addK (out.map strip) opn 1).length := by rw [addK_len, List.length_map]
      rw [ho4, ho2, strip_outs]
      conv => lhs; arg 1; arg 1; arg 1; arg 2; rw [e2]
      rw [addK_last, List.append_assoc, addK_app hop1, addK_add, List.append_assoc]
      show addK _ _ (1 + f.cnt) ++ ([(⟨5, mk [], 0 + (c.cnt : Int), 0⟩ : It)] ++ c.flat ++ f.flat) = addK _ _ (f.cnt + 1) ++ _
      rw [Nat.add_comm 1, Int.zero_add]
      simp [Fo.flat]

/-- The lines of a forest are read. -/
theorem read_lines (n : Nat) : ∀ (f : Fo), f.goodV → ∀ (out : List It), f.edep ≤ 257 → ∃ out', Reach n ⟨f.lines, out, []⟩ ⟨[], out', []⟩ ∧ out'.map strip = out.map strip ++ f.flat
  | .nil, _, out, _ => ⟨out, .refl _, by simp [Fo.flat]⟩
  | .leaf k t f, hg, out, hd => by
    have hd2 : f.edep ≤ 257 := Nat.le_trans (Nat.le_max_right _ _) hd
    obtain ⟨o1, hr1, ho1⟩ := read_fo n (.leaf k t .nil) ⟨hg.1, hg.2.1, trivial⟩ out [] (10 :: f.lines) (.cons (by decide) (by decide)) (fun j hj => (List.not_mem_nil hj).elim) (by show 0 + 1 ≤ 257; omega)
    obtain ⟨o2, hr2, ho2⟩ := read_lines n f hg.2.2 o1 hd2
    refine ⟨o2, ?_, ?_⟩
    · have e1 : (Fo.leaf k t .nil).more.tail ++ 10 :: f.lines = (Fo.leaf k t f).lines := by simp [Fo.more, Fo.lines]
      rw [e1] at hr1
      exact hr1.trans (.step (st_blank n 10 _ _ _ (by decide)) hr2)
    · rw [ho2, ho1]
      simp [addK, Fo.flat]
  | .list c f, hg, out, hd => by
    have hd1 : c.edep + 1 ≤ 257 := Nat.le_trans (Nat.le_max_left _ _) hd
    have hd2 : f.edep ≤ 257 := Nat.le_trans (Nat.le_max_right _ _) hd
    obtain ⟨o1, hr1, ho1⟩ := read_fo n (.list c .nil) ⟨hg.1, trivial⟩ out [] (10 :: f.lines) (.cons (by decide) (by decide)) (fun j hj => (List.not_mem_nil hj).elim) (by show 0 + max (c.edep + 1) 0 ≤ 257; omega)
    obtain ⟨o2, hr2, ho2⟩ := read_lines n f hg.2 o1 hd2
    refine ⟨o2, ?_, ?_⟩
    · have e1 : (Fo.list c .nil).more.tail ++ 10 :: f.lines = (Fo.list c f).lines := by simp [Fo.more, Fo.lines]
      rw [e1] at hr1
      exact hr1.trans (.step (st_blank n 10 _ _ _ (by decide)) hr2)
    · rw [ho2, ho1]
      simp [addK, Fo.flat]
theorem parse_lines {f : Fo} (hg : f.goodV) (hd : f.edep ≤ 257) {s : ByteArray} (hs : bs s = f.lines) (hz : s.size ≤ 65536) : ∃ out, parse s = .ok out ∧ out.map strip = f.flat := by
  obtain ⟨o, hr, ho⟩ := read_lines s.size f hg [] hd
  refine ⟨o, ?_, by simpa using ho⟩
  unfold parse
  rw [if_neg (by omega), hs, hr.parse, parseL_nil rfl]
  rfl
end Go.Proofs.Sx

/-! SexprConcat. -/
namespace Go.Proofs.Sx
open Go Go.V Go.Proofs Go.RowKit
set_option maxRecDepth 100000

theorem step_few {n : Nat} {st st' : St} (h : stepL n st = .ok st') : st'.out.length + st'.l.length ≤ st.out.length + st.l.length := by
  have hlt := stepL_lt h
  cases step_of h with
  | skip l h => show st.out.length + l.length ≤ _; have := hlt; simp only at this; omega
  | close t h ho => show st.out.length + t.length ≤ _; have := hlt; simp only at this; omega
  | opn t h hd => simp only [outs_len] at hlt ⊢; omega
  | str t v r h hs hd => simp only [outs_len] at hlt ⊢; omega
  | word c t h hw hk hd => simp only [outs_len] at hlt ⊢; omega
theorem parse_few {s : ByteArray} {out : List It} (h : parse s = .ok out) : out.length ≤ s.size := by
  unfold parse at h
  split at h
  · cases h
  obtain ⟨st, hp, -, -, rfl⟩ := parseL_inv (P := fun st => st.out.length + st.l.length ≤ s.size) (fun st st' hp hst => Nat.le_trans (step_few hst) hp) _ _ (Nat.le_refl _) (by rw [size_bs]; show 0 + (bs s).length ≤ _; omega) h
  omega

/-- A sequence's text is parsed. -/
theorem seqChain (T : TrimOk) {lA : Option Addr} {lN lC : Nat} {l : List Int} {w : World} (hl : l.length = lN) (hc : lN ≤ lC) (h : SlAt w lA (l.map fun n => .int .i64 n)) {Kf : Option Addr → Nat → Nat → ByteArray → World → Prop}
    (hk : ∀ A C a s w' B, parse s = .ok a → s.size ≤ 15972 → w'.ownsRow B 34 4 (.slice A a.length C) a.length (itcs a) → Ext w w' → Kf A a.length C s w') :
    Called Tryd.prog 14 #[.slice lA lN lC] w fun v w1 => ∃ p k k1, v = .slice p k k1 ∧ Called Tryd.prog 13 #[.slice p k k1] w1 fun v1 w2 => ∃ s, v1 = .string s ∧ Called Tryd.prog 16 #[.string s] w2 fun v2 w3 =>
      ∃ p1 k2 k3 n n1, v2 = .tuple #[.slice p1 k2 k3, .int .i64 n, .int .i64 n1] ∧ Kf p1 k2 k3 s w3 := by
  refine Called.of (c14 hl hc h) ?_
  rintro v w1 ⟨⟨f, A, C, hg, hd, hfl, rfl, ho⟩, he1⟩
  refine ⟨_, _, _, rfl, Called.of (fmtSeq hg hd hfl ho he1) ?_⟩
  rintro v w2 ⟨⟨s, rfl, hs, hsz⟩, he2⟩
  refine ⟨s, rfl, Called.of (c16 T s w2) ?_⟩
  rintro v w3 ⟨hr, he3⟩
  obtain ⟨out, hp, -⟩ := parse_lines (good_V hg) (Nat.le_trans (edep_le f) (by omega)) hs (by omega)
  rw [ParseRes, hp] at hr
  obtain ⟨A2, C2, rfl, ho2⟩ := hr
  exact ⟨_, _, _, _, _, rfl, hk _ _ _ _ _ _ hp hsz ho2 (he2.trans he3)⟩
theorem seen_strip : seen false = strip := rfl
theorem src_of {w : World} {B : Nat} {A : Option Addr} {C : Nat} {a : List It} (ho : w.ownsRow B 34 4 (.slice A a.length C) a.length (itcs a)) : a.length = 0 ∨ ∃ ad, A = some ad ∧ vcells w ad 0 (itcs a) := by
  rcases Nat.eq_zero_or_pos a.length with h | h
  · exact .inl h
  · obtain ⟨ad, hA, _, hr⟩ := (own_row ho).at (j := 0) (by rw [itcs_len]; omega)
    exact .inr ⟨ad, hA, vcells_row.2 hr⟩

theorem c6 (T : TrimOk) (s t : ByteArray) {lA mA : Option Addr} {lN lC mN mC : Nat} {l m : List Int} {w : World} (hl : l.length = lN) (hc : lN ≤ lC) (h : SlAt w lA (l.map fun n => .int .i64 n))
    (hm : m.length = mN) (hmc : mN ≤ mC) (hmm : SlAt w mA (m.map fun n => .int .i64 n)) :
    Ret Tryd.prog 6 #[.string s, .string t, .slice lA lN lC, .slice mA mN mC] w fun v w' => v = .bool true ∧ Ext w w' := by
  refine run6 _ _ _ _ _ _ _ _ _ _ fun K hK => ?_
  have yes : ∀ b, b = true → K [.bool b] w := by
    intro b hb
    refine hK b ?_
    rw [hb, cond_true]
    refine Called.of (c11 T w) ?_
    rintro v w1 ⟨rfl, he⟩
    exact ⟨_, rfl, rfl, he⟩
  -- both texts are parsed
  have both : ∀ (p2 p3 : Option Addr) (c2 c3 : Nat) (a b : List It) (s1 s2 : ByteArray) (w5 : World) (B2 B3 : Nat), parse s1 = .ok a → parse s2 = .ok b → s1.size ≤ 15972 → s2.size ≤ 15972 → w5.ownsRow B2 34 4 (.slice p2 a.length c2) a.length (itcs a) →
      w5.ownsRow B3 34 4 (.slice p3 b.length c3) b.length (itcs b) → Ext w w5 →
      (s1.size + 1 ≤ 9223372036854775807 ∧
        (s1 ++ { data := #[10] : ByteArray }).size + s2.size ≤ 9223372036854775807 ∧
          Called Tryd.prog 16 #[Value.string (s1 ++ { data := #[10] : ByteArray } ++ s2)] w5 fun (v3 : Value) (w6 : World) =>
            ∃ (p4 : Option Addr) (k8 : Nat) (k9 : Nat) (n4 : Int) (n5 : Int),
              v3 = Value.tuple #[Value.slice p4 k8 k9, Value.int IntKind.i64 n4, Value.int IntKind.i64 n5] ∧
                ∀ (K3 : List Value → World → Prop),
                  (∀ (b2 : Bool) (w7 : World), (Value.bool b2 = .bool true ∧ Ext w w7) → K3 [Value.bool b2] w7) →
                    bif n5 == 0 then
                      ∃ (k10 : Nat) (vs : List Value) (vs1 : List Value),
                        AppOk w6 k10 34 4 40 none 0 0 vs p2 a.length vs1 ∧
                          ∀ (p5 : Option Addr) (k11 : Nat) (w8 : World),
                            AppRes w6 w8 k10 34 4 none 0 0 vs a.length vs1 p5 k11 →
                              ∃ (k12 : Nat) (vs2 : List Value) (vs3 : List Value),
                                AppOk w8 k12 34 4 40 p5 (0 + a.length) k11 vs2 p3 b.length vs3 ∧
                                  ∀ (p6 : Option Addr) (k13 : Nat) (w9 : World),
                                    AppRes w8 w9 k12 34 4 p5 (0 + a.length) k11 vs2 b.length vs3 p6 k13 →
                                      Called Tryd.prog 17 #[Value.slice p4 k8 k9, Value.slice p6 (0 + a.length + b.length) k13, Value.bool false] w9 fun (v4 : Value) (w10 : World) =>
                                        ∃ (b3 : Bool), v4 = Value.bool b3 ∧ bif b3 then Called Tryd.prog 11 #[] w10 fun (v5 : Value) (w11 : World) => ∃ (b4 : Bool), v5 = Value.bool b4 ∧ K3 [Value.bool b4] w11 else K3 [Value.bool false] w10
                    else K3 [Value.bool false] w6) := by
    intro p2 p3 c2 c3 a b s1 s2 w5 B2 B3 hpa hpb hz1 hz2 hoa hob he5
    have e1 : (s1 ++ { data := #[10] : ByteArray }).size = s1.size + 1 := by rw [app_size]; rfl
    have hu : bs (s1 ++ { data := #[10] : ByteArray } ++ s2) = bs s1 ++ 10 :: bs s2 := by rw [bs_append, bs_append]; simp [bs]
    obtain ⟨c, hpc, hcs⟩ := parse_concat hpa hpb (by omega) hu
    have ha := parse_few hpa
    have hb := parse_few hpb
    have hcl := parse_few hpc
    rw [app_size, e1] at hcl
    refine ⟨by omega, by omega, Called.of (c16 T _ w5) ?_⟩
    rintro v w6 ⟨hr, he6⟩
    rw [ParseRes, hpc] at hr
    obtain ⟨A3, C3, rfl, ho3⟩ := hr
    refine ⟨_, _, _, _, _, rfl, fun K3 hK3 => cond_intro (fun _ => ?_) (fun h => absurd h (by decide))⟩
    have hnil : w6.ownsRow w6.heap.size 34 4 (.slice none 0 0) 0 [] := ⟨rfl, .inl ⟨rfl, rfl⟩⟩
    refine ⟨w6.heap.size, [], itcs a, ⟨.inl hnil, itcs_len a, src_of (own_ext hoa he6), plain_itcs a, by unfold maxLen; omega, by omega, Nat.le_refl _⟩, ?_⟩
    intro p5 k11 w8 r
    have he8 : Ext w6 w8 := r.below hnil (Ext.refl w6) (Nat.le_refl _) (Nat.le_refl _)
    have hr8 := r.own
    rw [List.nil_append] at hr8
    refine ⟨w6.heap.size, itcs a, itcs b, ⟨.inl hr8, itcs_len b, src_of (own_ext (own_ext hob he6) he8), plain_itcs b, by unfold maxLen; omega, by omega, he8.size⟩, ?_⟩
    intro p6 k13 w9 r2
    have he9 : Ext w6 w9 := r2.below hr8 he8 he8.size (Nat.le_refl _)
    have hr9 := r2.own
    have e2 : 0 + a.length + b.length = (a ++ b).length := by rw [List.length_append]; omega
    rw [← itcs_app, e2] at hr9
    rw [e2]
    refine Called.of (c17 false (own_row (own_ext ho3 he9)) (own_row hr9) (by omega)) ?_
    rintro v w10 ⟨rfl, he10⟩
    have hsame : sameItems false c (a ++ b) = true := by rw [sameItems, seen_strip, decide_eq_true_eq]; exact hcs
    refine ⟨_, rfl, ?_⟩
    rw [hsame, cond_true]
    refine Called.of (c11 T w10) ?_
    rintro v w11 ⟨rfl, he11⟩
    exact ⟨_, rfl, hK3 _ _ ⟨rfl, (((he5.trans he6).trans he9).trans he10).trans he11⟩⟩
  refine cond_dec (fun _ => yes _ rfl) (fun hs2 => ?_)
  by_cases ht : (t.size : Int) > 200
  · exact yes _ (decide_eq_true ht)
  refine hK _ ?_
  rw [decide_eq_false ht, cond_false]
  refine Called.of (c16 T s w) ?_
  rintro v w2 ⟨hr2, he2⟩
  have two : ∀ w3 (v2 : Value), ParseRes t w2.heap.size v2 w3 → Ext w2 w3 → ∃ p1 k2 k3 n2 n3, v2 = .tuple #[.slice p1 k2 k3, .int .i64 n2, .int .i64 n3] ∧
      ((∃ e, parse t = .error e) ∧ n3 ≠ 0 ∨ ∃ b, parse t = .ok b ∧ n3 = 0 ∧ k2 = b.length ∧ w3.ownsRow w2.heap.size 34 4 (.slice p1 b.length k3) b.length (itcs b)) := by
    intro w3 v2 hr he
    unfold ParseRes at hr
    cases hp : parse t with
    | error e =>
      obtain ⟨p, e⟩ := e
      rw [hp] at hr
      have hcode := parse_code hp
      exact ⟨_, _, _, _, _, hr, .inl ⟨⟨_, rfl⟩, by omega⟩⟩
    | ok b =>
      rw [hp] at hr
      obtain ⟨A, C, rfl, ho⟩ := hr
      exact ⟨_, _, _, _, _, rfl, .inr ⟨b, rfl, rfl, rfl, ho⟩⟩
  have rest : ∀ w3 (p1 : Option Addr) (k2 k3 : Nat) (n3 : Int), Ext w w3 → ((∃ e, parse t = .error e) ∧ n3 ≠ 0 ∨ ∃ b, parse t = .ok b ∧ n3 = 0 ∧ k2 = b.length ∧ w3.ownsRow w2.heap.size 34 4 (.slice p1 b.length k3) b.length (itcs b)) →
      ∀ (p2 : Option Addr) (c2 : Nat) (a : List It) (s1 : ByteArray) (w4 : World) (B2 : Nat), parse s1 = .ok a → s1.size ≤ 15972 → w4.ownsRow B2 34 4 (.slice p2 a.length c2) a.length (itcs a) → Ext w3 w4 →
      ∀ (K2 : List Value → World → Prop),
        (∀ (p3 : Option Addr) (k6 k7 : Nat) (s2 : ByteArray) (w5 : World), (∃ b B3, parse s2 = .ok b ∧ k6 = b.length ∧ s2.size ≤ 15972 ∧ w5.ownsRow B3 34 4 (.slice p3 b.length k7) b.length (itcs b) ∧ Ext w4 w5) → K2 [.slice p3 k6 k7, .string s2] w5) →
        bif n3 != 0 then
          Called Tryd.prog 14 #[.slice mA mN mC] w4 fun v6 w12 => ∃ p7 k14 k15, v6 = .slice p7 k14 k15 ∧ Called Tryd.prog 13 #[.slice p7 k14 k15] w12 fun v7 w13 => ∃ s3, v7 = .string s3 ∧
            Called Tryd.prog 16 #[.string s3] w13 fun v8 w14 => ∃ p8 k16 k17 n6 n7, v8 = .tuple #[.slice p8 k16 k17, .int .i64 n6, .int .i64 n7] ∧ K2 [.slice p8 k16 k17, .string s3] w14
        else K2 [.slice p1 k2 k3, .string t] w4 := by
    intro w3 p1 k2 k3 n3 he3 hcase p2 c2 a s1 w4 B2 hpa hz1 hoa he4 K2 hK2
    rcases hcase with ⟨-, hn⟩ | ⟨b, hpb, rfl, rfl, hob⟩
    · refine cond_intro (fun _ => ?_) (fun h => absurd (by simpa using h) hn)
      refine seqChain (Kf := fun p8 k16 k17 s3 w14 => K2 [.slice p8 k16 k17, .string s3] w14) T hm hmc (hmm.ext (he3.trans he4)) ?_
      intro A C b s3 w' B hpb hz ho he
      exact hK2 _ _ _ _ _ ⟨b, B, hpb, rfl, hz, ho, he⟩
    · refine cond_intro (fun h => absurd h (by decide)) (fun _ => hK2 _ _ _ _ _ ⟨b, _, hpb, rfl, by omega, own_ext hob he4, Ext.refl _⟩)
  have first : ∃ p k k1 n n1, v = .tuple #[.slice p k k1, .int .i64 n, .int .i64 n1] ∧
      ((∃ e, parse s = .error e) ∧ n1 ≠ 0 ∨ ∃ a, parse s = .ok a ∧ n1 = 0 ∧ k = a.length ∧ w2.ownsRow w.heap.size 34 4 (.slice p a.length k1) a.length (itcs a)) := by
    unfold ParseRes at hr2
    cases hp : parse s with
    | error e =>
      obtain ⟨p, e⟩ := e
      rw [hp] at hr2
      have hcode := parse_code hp
      exact ⟨_, _, _, _, _, hr2, .inl ⟨⟨_, rfl⟩, by omega⟩⟩
    | ok a =>
      rw [hp] at hr2
      obtain ⟨A, C, rfl, ho⟩ := hr2
      exact ⟨_, _, _, _, _, rfl, .inr ⟨a, rfl, rfl, rfl, ho⟩⟩
  obtain ⟨p, k, k1, n, n1, rfl, hca⟩ := first
  refine ⟨p, k, k1, n, n1, rfl, Called.of (c16 T t w2) ?_⟩
  rintro v w3 ⟨hr3, he3⟩
  obtain ⟨p1, k2, k3, n2, n3, rfl, hcb⟩ := two w3 v hr3 he3
  refine ⟨p1, k2, k3, n2, n3, rfl, fun K1 hK1 => ?_⟩
  have he3' := he2.trans he3
  have go : ∀ (p2 : Option Addr) (c2 : Nat) (a : List It) (s1 : ByteArray) (w4 : World) (B2 : Nat), parse s1 = .ok a → s1.size ≤ 15972 → w4.ownsRow B2 34 4 (.slice p2 a.length c2) a.length (itcs a) → Ext w3 w4 → K1 [.slice p2 a.length c2, .string s1] w4 := by
    intro p2 c2 a s1 w4 B2 hpa hz1 hoa he4
    refine hK1 _ _ _ _ _ fun K2 hK2 => ?_
    refine rest w3 p1 k2 k3 n3 he3' hcb p2 c2 a s1 w4 B2 hpa hz1 hoa he4 K2 ?_
    rintro p3 k6 k7 s2 w5 ⟨b, B3, hpb, rfl, hz2, hob, he5⟩
    exact hK2 _ _ _ _ _ (both p2 p3 c2 k7 a b s1 s2 w5 B2 B3 hpa hpb hz1 hz2 (own_ext hoa he5) hob ((he3'.trans he4).trans he5))
  rcases hca with ⟨-, hn⟩ | ⟨a, hpa, rfl, rfl, hoa⟩
  · refine cond_intro (fun _ => ?_) (fun h => absurd (by simpa using h) hn)
    refine seqChain (Kf := fun p8 k16 k17 s3 w14 => K1 [.slice p8 k16 k17, .string s3] w14) T hl hc (h.ext he3') ?_
    intro A C a s3 w' B hpa hz ho he
    exact go _ _ _ _ _ _ hpa hz ho he
  · exact cond_intro (fun h => absurd h (by decide)) (fun _ => go _ _ _ _ _ _ hpa (by omega) (own_ext hoa he3) (Ext.refl _))
end Go.Proofs.Sx

/-! Valid on the items of a forest; SexprDepth. -/
namespace Go.Proofs.Sx
open Go Go.V Go.Proofs Go.RowKit
set_option maxRecDepth 100000

theorem validGo_strip : ∀ (L : List It) (st : List Int), validGo st (L.map strip) = validGo st L
  | [], _ => rfl
  | x :: L, st => by
    rw [List.map_cons, validGo, validGo, okItem_strip, show pushK (decTop (popZ st)) (strip x) = pushK (decTop (popZ st)) x from rfl, validGo_strip L]
theorem validGo_zero (st : List Int) (L : List It) : validGo (0 :: st) L = validGo st L := by
  cases L with
  | nil => simp [validGo]
  | cons x L =>
    have : popZ (0 :: st) = popZ st := rfl
    rw [validGo, validGo, this]
theorem okItem_leaf {k : Int} {t : ByteArray} (h : okLeaf k (bs t) = true) : okItem ⟨k, t, 0, 0⟩ = true ∧ k ≠ 5 := by
  have h5 : k ≠ 5 := by
    intro e; subst e; simp [okLeaf] at h
  refine ⟨?_, h5⟩
  unfold okItem
  rw [if_neg h5]
  show (decide ((0 : Int) = 0) && okLeaf k (bs t)) = true
  rw [h]; rfl
theorem okItem_list (n : Nat) : okItem ⟨5, mk [], n, 0⟩ = true := by
  unfold okItem
  rw [if_pos rfl]
  show (decide ((0 : Int) ≤ (n : Int)) && decide (bs (mk []) = [])) = true
  rw [decide_eq_true (by omega), decide_eq_true (bs_mk [])]; rfl
theorem valid_fo : ∀ (f : Fo), f.goodV → ∀ (m : Nat) (st : List Int) (rest : List It), st.length + 1 + f.edep ≤ 257 → validGo (((m + f.cnt : Nat) : Int) :: st) (f.flat ++ rest) = validGo ((m : Int) :: st) rest
  | .nil, _, m, st, rest, _ => rfl
  | .leaf k t f, hg, m, st, rest, hd => by
    have hd1 : st.length + 1 + 1 ≤ 257 := by have : 1 ≤ (Fo.leaf k t f).edep := Nat.le_max_left _ _; omega
    have hd2 : st.length + 1 + f.edep ≤ 257 := by have : f.edep ≤ (Fo.leaf k t f).edep := Nat.le_max_right _ _; omega
    obtain ⟨ho, h5⟩ := okItem_leaf hg.1
    have hp : popZ (((m + (f.cnt + 1) : Nat) : Int) :: st) = ((m + (f.cnt + 1) : Nat) : Int) :: st := by
      unfold popZ
      rw [List.dropWhile_cons, if_neg (by simp only [beq_iff_eq]; omega)]
    show validGo (((m + (f.cnt + 1) : Nat) : Int) :: st) (⟨k, t, 0, 0⟩ :: (f.flat ++ rest)) = _
    rw [validGo, hp, if_neg (by simp only [List.length_cons]; omega), if_pos ho, pushK, if_neg h5, decTop]
    rw [show ((m + (f.cnt + 1) : Nat) : Int) - 1 = ((m + f.cnt : Nat) : Int) by omega]
    exact valid_fo f hg.2.2 m st rest hd2
  | .list c f, hg, m, st, rest, hd => by
    have hd1 : st.length + 1 + (c.edep + 1) ≤ 257 := by have : c.edep + 1 ≤ (Fo.list c f).edep := Nat.le_max_left _ _; omega
    have hd2 : st.length + 1 + f.edep ≤ 257 := by have : f.edep ≤ (Fo.list c f).edep := Nat.le_max_right _ _; omega
    have hp : popZ (((m + (f.cnt + 1) : Nat) : Int) :: st) = ((m + (f.cnt + 1) : Nat) : Int) :: st := by
      unfold popZ
      rw [List.dropWhile_cons, if_neg (by simp only [beq_iff_eq]; omega)]
    show validGo (((m + (f.cnt + 1) : Nat) : Int) :: st) (⟨5, mk [], (c.cnt : Int), 0⟩ :: (c.flat ++ f.flat ++ rest)) = _
    rw [validGo, hp, if_neg (by simp only [List.length_cons]; omega), if_pos (okItem_list _), pushK, if_pos rfl, decTop, List.append_assoc]
    rw [show ((m + (f.cnt + 1) : Nat) : Int) - 1 = ((m + f.cnt : Nat) : Int) by omega]
    have h1 := valid_fo c hg.1 0 (((m + f.cnt : Nat) : Int) :: st) (f.flat ++ rest) (by simp only [List.length_cons]; omega)
    rw [Nat.zero_add] at h1
    rw [show (⟨5, mk [], (c.cnt : Int), 0⟩ : It).kids = (c.cnt : Int) from rfl, h1]
    rw [show ((0 : Nat) : Int) = 0 from rfl, validGo_zero]
    exact valid_fo f hg.2 m st rest hd2
theorem valid_top : ∀ (f : Fo), f.goodV → ∀ (rest : List It), f.edep ≤ 257 → validGo [] (f.flat ++ rest) = validGo [] rest
  | .nil, _, rest, _ => rfl
  | .leaf k t f, hg, rest, hd => by
    obtain ⟨ho, h5⟩ := okItem_leaf hg.1
    show validGo [] (⟨k, t, 0, 0⟩ :: (f.flat ++ rest)) = _
    rw [validGo, if_neg (by decide), if_pos ho, pushK, if_neg h5]
    exact valid_top f hg.2.2 rest (Nat.le_trans (Nat.le_max_right _ _) hd)
  | .list c f, hg, rest, hd => by
    have hd1 : c.edep + 1 ≤ 257 := Nat.le_trans (Nat.le_max_left _ _) hd
    show validGo [] (⟨5, mk [], (c.cnt : Int), 0⟩ :: (c.flat ++ f.flat ++ rest)) = _
    rw [validGo, if_neg (by decide), if_pos (okItem_list _), pushK, if_pos rfl, List.append_assoc]
    have h1 := valid_fo c hg.1 0 [] (f.flat ++ rest) (by simp only [List.length_nil]; omega)
    rw [Nat.zero_add] at h1
    rw [show decTop (popZ []) = [] from rfl, show (⟨5, mk [], (c.cnt : Int), 0⟩ : It).kids = (c.cnt : Int) from rfl, h1]
    rw [show ((0 : Nat) : Int) = 0 from rfl, validGo_zero]
    exact valid_top f hg.2 rest (Nat.le_trans (Nat.le_max_right _ _) hd)
theorem valid_flat {f : Fo} (hg : f.goodV) (hd : f.edep ≤ 257) {L : List It} (hL : L.map strip = f.flat) : validGo [] L = true := by
  rw [← validGo_strip, hL, ← List.append_nil f.flat, valid_top f hg [] hd]; rfl

/-- Lists in lists. -/
def nest : Nat → Fo
  | 0 => .nil
  | k + 1 => .list (nest k) .nil
theorem nest_good : ∀ k, (nest k).goodV
  | 0 => trivial
  | k + 1 => ⟨nest_good k, trivial⟩
theorem nest_edep : ∀ k, (nest k).edep = k
  | 0 => rfl
  | k + 1 => by show max ((nest k).edep + 1) 0 = _; rw [nest_edep k]; omega
theorem nest_len : ∀ k, (nest k).flat.length = k
  | 0 => rfl
  | k + 1 => by show ((nest k).flat ++ []).length + 1 = _; rw [List.append_nil, nest_len k]
theorem nest_text : ∀ k, (nest k).more.tail = List.replicate k 40 ++ List.replicate k 41
  | 0 => rfl
  | k + 1 => by
    have e : (nest (k + 1)).more.tail = 40 :: ((nest k).more.tail ++ [41]) := by simp [nest, Fo.more]
    rw [e, nest_text k, List.replicate_succ, List.cons_append, List.append_assoc, ← List.replicate_succ']
theorem parse_nest {k : Nat} (hk : k ≤ 257) {s : ByteArray} (hs : bs s = List.replicate k 40 ++ List.replicate k 41) : ∃ out, parse s = .ok out ∧ out.map strip = (nest k).flat := by
  obtain ⟨o, hr, ho⟩ := read_fo s.size (nest k) (nest_good k) [] [] [] (fun c t e => by cases e) (fun j hj => (List.not_mem_nil hj).elim) (by rw [nest_edep]; simp only [List.length_nil]; omega)
  rw [nest_text, List.append_nil] at hr
  have hz : s.size = k + k := by rw [size_bs, hs, List.length_append, List.length_replicate, List.length_replicate]
  refine ⟨o, ?_, by simpa [addK] using ho⟩
  unfold parse
  rw [if_neg (by omega), hs, hr.parse, parseL_nil rfl]
  rfl
theorem opens (n : Nat) : ∀ (a : Nat) (out : List It) (opn : List Nat) (r : List UInt8), opn.length + a ≤ 257 → ∃ out' opn', Reach n ⟨List.replicate a 40 ++ r, out, opn⟩ ⟨r, out', opn'⟩ ∧ opn'.length = opn.length + a
  | 0, out, opn, r, _ => ⟨out, opn, .refl _, rfl⟩
  | a + 1, out, opn, r, h => by
    have h1 := st_open n (List.replicate a 40 ++ r) out opn (by omega)
    obtain ⟨o2, p2, hr, hl⟩ := opens n a (outsOf out opn ⟨5, mk [], 0, ((n - ((List.replicate a 40 ++ r).length + 1) : Nat) : Int)⟩) (opn ++ [out.length]) r (by simp only [List.length_append, List.length_cons, List.length_nil]; omega)
    refine ⟨o2, p2, ?_, by rw [hl]; simp only [List.length_append, List.length_cons, List.length_nil]; omega⟩
    rw [List.replicate_succ, List.cons_append]
    exact .step h1 hr
theorem parse_deep {k : Nat} (hk : 257 < k) (hk2 : k < 1000) {s : ByteArray} (hs : bs s = List.replicate k 40 ++ List.replicate k 41) : parse s = .error (257, 6) := by
  have hz : s.size = k + k := by rw [size_bs, hs, List.length_append, List.length_replicate, List.length_replicate]
  obtain ⟨o, p, hr, hl⟩ := opens s.size 257 [] [] (List.replicate (k - 257) 40 ++ List.replicate k 41) (by simp only [List.length_nil]; omega)
  have e : List.replicate 257 (40 : UInt8) ++ (List.replicate (k - 257) 40 ++ List.replicate k 41) = bs s := by
    rw [hs, ← List.append_assoc, List.replicate_append_replicate]
    congr 2
    omega
  rw [e] at hr
  unfold parse
  rw [if_neg (by omega), hr.parse]
  obtain ⟨m, hm⟩ : ∃ m, k - 257 = m + 1 := ⟨k - 258, by omega⟩
  rw [hm, List.replicate_succ, List.cons_append]
  have hd := st_deep s.size (List.replicate m 40 ++ List.replicate k 41) o p (by rw [hl]; simp only [List.length_nil]; omega)
  rw [parseL_err (by simp) hd]
  congr 2
  rw [List.length_append, List.length_replicate, List.length_replicate]
  omega

theorem bs_size_rep {s : ByteArray} {j : Nat} {c : UInt8} (h : bs s = List.replicate j c) : s.size = j := by rw [size_bs, h, List.length_replicate]
theorem c7 (T : TrimOk) (n : Int) (w : World) : Ret Tryd.prog 7 #[.int .i64 n] w fun v w' => v = .bool true ∧ Ext w w' := by
  refine run7 _ _ _ (Called.of (c18 n 12 (by omega) (by omega) w) ?_)
  rintro v w1 ⟨⟨m, rfl, hm⟩, rfl⟩
  have ek : IntKind.i64.wrap (IntKind.i64.wrap ((m : Int) + 256) - 4) = ((m + 252 : Nat) : Int) := by
    rw [wrap64_in (n := (m : Int) + 256) (by omega) (by omega), wrap64_in (by omega) (by omega)]; omega
  refine ⟨_, rfl, fun vals w2 => ∃ (j : Nat) (s t : ByteArray), vals = [.int .i64 j, .string s, .string t] ∧ j ≤ m + 252 ∧ bs s = List.replicate j 41 ∧ bs t = List.replicate j 40 ∧ w2 = w1, mu1 (m + 252),
    ⟨0, _, _, rfl, Nat.zero_le _, rfl, rfl, rfl⟩, ?_⟩
  rintro n2 s t w2 ⟨j, s', t', hv, hj, hs, ht, rfl⟩
  cases hv
  have hzs := bs_size_rep hs
  have hzt := bs_size_rep ht
  rw [ek]
  refine cond_dec (fun hlt => ?_) (fun hge => ?_)
  · rw [wrap_succ (by omega)]
    refine ⟨by omega, by omega, ⟨j + 1, _, _, rfl, by omega, ?_, ?_, rfl⟩, ?_⟩
    · rw [bs_append, hs, List.replicate_succ']; rfl
    · rw [bs_append, ht, List.replicate_succ']; rfl
    · simp only [mu1, Int.toNat_natCast]; omega
  · have hjk : j = m + 252 := by omega
    subst hjk
    have hu : bs (t ++ s) = List.replicate (m + 252) 40 ++ List.replicate (m + 252) 41 := by rw [bs_append, hs, ht]
    refine ⟨by omega, Called.of (c16 T _ w2) ?_⟩
    rintro v w3 ⟨hr, he3⟩
    by_cases hk : m + 252 ≤ 257
    · obtain ⟨out, hp, ho⟩ := parse_nest hk hu
      rw [ParseRes, hp] at hr
      obtain ⟨A, C, rfl, hown⟩ := hr
      have hl : out.length = m + 252 := by
        have := congrArg List.length ho
        rw [List.length_map, nest_len] at this
        exact this
      refine ⟨_, _, _, _, _, rfl, cond_dec (fun _ K hK => cond_intro (fun _ => cond_intro (fun _ => ?_) (fun h => ?_)) (fun h => absurd h (by decide))) (fun h => absurd (by omega) h)⟩
      · have hx : ∀ x ∈ out, x.text.size < 4294967281 ∧ x.kids ≤ 9223372036854775807 := by
          have hall : ∀ k, ∀ x ∈ (nest k).flat, x.text.size = 0 ∧ x.kids ≤ 1 := by
            intro k
            induction k with
            | zero => intro x hx; cases hx
            | succ k ih =>
              intro x hx
              have hx' : x ∈ (⟨5, mk [], ((nest k).cnt : Int), 0⟩ : It) :: ((nest k).flat ++ []) := hx
              rcases List.mem_cons.1 hx' with rfl | hx'
              · refine ⟨rfl, ?_⟩
                show ((nest k).cnt : Int) ≤ 1
                cases k with
                | zero => show ((0 : Nat) : Int) ≤ 1; omega
                | succ k => show ((0 + 1 : Nat) : Int) ≤ 1; omega
              · rw [List.append_nil] at hx'
                exact ih x hx'
          intro x hx
          have : strip x ∈ (nest (m + 252)).flat := by rw [← ho]; exact List.mem_map_of_mem hx
          obtain ⟨h1, h2⟩ := hall _ _ this
          have h1' : x.text.size = 0 := h1
          have h2' : x.kids ≤ 1 := h2
          omega
        refine Called.of (c19 T (by omega) hx w3 (own_row hown)) ?_
        rintro v w5 ⟨rfl, he5⟩
        have hv := valid_flat (nest_good (m + 252)) (by rw [nest_edep]; exact hk) ho
        refine ⟨_, rfl, ?_⟩
        rw [hv, cond_true]
        refine Called.of (c11 T w5) ?_
        rintro v w6 ⟨rfl, he6⟩
        exact ⟨_, rfl, hK _ _ ⟨rfl, (he3.trans he5).trans he6⟩⟩
      · have h' : ¬ (out.length : Int) = ((m + 252 : Nat) : Int) := by simpa using h
        omega
    · have hp := parse_deep (by omega) (by omega) hu
      rw [ParseRes, hp] at hr
      have hr' : v = .tuple #[.slice none 0 0, .int .i64 (257 : Nat), .int .i64 6] := hr
      subst hr'
      refine ⟨_, _, _, _, _, rfl, cond_dec (fun h => absurd h (by omega)) (fun _ K1 hK1 => cond_intro (fun _ => cond_intro (fun _ => ?_) (fun h => absurd h (by decide))) (fun h => absurd h (by decide)))⟩
      refine Called.of (c11 T w3) ?_
      rintro v w8 ⟨rfl, he8⟩
      exact ⟨_, rfl, hK1 _ _ ⟨rfl, he3.trans he8⟩⟩
end Go.Proofs.Sx

/-! end, Roots, Children. -/
namespace Go.Proofs.Sx
open Go Go.V Go.Proofs Go.RowKit
set_option maxRecDepth 100000

/-- So many items end with this list. -/
inductive Ends : Nat → List It → Prop
  | nil : Ends 0 []
  | cons {l k : Nat} {x : It} {M : List It} (hx : x.kids = (k : Int)) (h : Ends (l + k) M) : Ends (l + 1) (x :: M)
theorem Ends.le {l : Nat} {M : List It} (h : Ends l M) : l ≤ M.length := by
  induction h with
  | nil => exact Nat.le_refl _
  | cons hx h ih => simp only [List.length_cons]; omega
theorem Ends.fo : ∀ (f : Fo) {l : Nat} {M : List It}, Ends l M → Ends (l + f.cnt) (f.flat ++ M)
  | .nil, _, _, h => h
  | .leaf k t f, l, M, h => by
    have := Ends.fo f h
    exact Ends.cons (k := 0) (x := ⟨k, t, 0, 0⟩) rfl this
  | .list c f, l, M, h => by
    have h1 := Ends.fo f h
    have h2 := Ends.fo c h1
    have := Ends.cons (x := ⟨5, mk [], (c.cnt : Int), 0⟩) rfl h2
    show Ends (l + f.cnt + 1) (⟨5, mk [], (c.cnt : Int), 0⟩ :: (c.flat ++ f.flat ++ M))
    rw [List.append_assoc]
    exact this
theorem Ends.head {f : Fo} (_h0 : 0 < f.cnt) : Ends 1 (f.hd :: f.sub.flat) := by
  have h1 := Ends.fo f.sub Ends.nil
  rw [List.append_nil] at h1
  exact Ends.cons (Fo.hd_kids f) h1
def muE (E : Nat) : List Value → World → Nat
  | _ :: .int _ j :: _, _ => E - j.toNat
  | _, _ => 0

theorem c35 {A : Option Addr} {C : Nat} {L : List It} (hL : L.length < 4294967296) {f : Fo} (h0 : 0 < f.cnt) {i : Nat} (hh : Here L i f) (w : World) (hs : SlAt w A (itcs L)) :
    Ret Tryd.prog 35 #[.slice A L.length C, .int .i64 i] w fun v w' => v = .int .i64 ((i + f.hlen : Nat) : Int) ∧ w' = w := by
  have hle := hh.le h0
  have hsp := Fo.len_split h0
  have hsub := Fo.hlen_sub h0
  obtain ⟨R, hR⟩ := hh
  have hR' : (L.map strip).drop i = (f.hd :: f.sub.flat) ++ (f.next.flat ++ R) := by rw [hR, Fo.flat_split h0]; simp
  refine run35 _ _ _ _ _ _ ⟨fun vals w' => ∃ (l j : Nat) (M : List It), vals = [.int .i64 l, .int .i64 j] ∧ Ends l M ∧ (L.map strip).drop j = M ++ (f.next.flat ++ R) ∧ j + M.length = i + f.hlen ∧ w' = w, muE (i + f.hlen),
    ⟨1, i, _, rfl, Ends.head h0, hR', by rw [List.length_cons]; omega, rfl⟩, ?_⟩
  rintro n n1 w1 ⟨l, j, M, hv, hE, hd, hj, rfl⟩
  cases hv
  refine cond_dec (fun hpos => ?_) (fun hz => ?_)
  · cases hE with
    | nil => omega
    | @cons l k x M hx hE =>
      have hM := hE.le
      have hget : ∃ y, L[j]? = some y ∧ strip y = x := by
        have h1 : ((L.map strip).drop j)[0]? = some x := by rw [hd]; rfl
        rw [List.getElem?_drop, Nat.add_zero, List.getElem?_map] at h1
        cases hy : L[j]? with
        | none => rw [hy] at h1; cases h1
        | some y => rw [hy] at h1; exact ⟨y, rfl, Option.some.inj h1⟩
      obtain ⟨y, hy, hyx⟩ := hget
      have hky : y.kids = (k : Int) := by rw [← hx, ← hyx]; rfl
      obtain ⟨ad, rfl, -, -, hc2, -⟩ := sl_field hs hy
      simp only [List.length_cons] at hj
      refine ⟨ad, rfl, ⟨by omega, by have := (List.getElem?_eq_some_iff.1 hy).1; omega⟩, _, by rw [Int.toNat_natCast]; exact hc2, ?_⟩
      have e1 : IntKind.i64.wrap (((l + 1 : Nat) : Int) + IntKind.i64.wrap (y.kids - 1)) = ((l + k : Nat) : Int) := by
        rw [hky, wrap64_in (n := (k : Int) - 1) (by omega) (by omega), wrap64_in (by omega) (by omega)]; omega
      rw [e1, wrap_succ (by omega)]
      refine ⟨⟨l + k, j + 1, M, rfl, hE, ?_, by omega, rfl⟩, ?_⟩
      · rw [← List.drop_drop, hd]; rfl
      · simp only [muE, Int.toNat_natCast]; omega
  · cases hE with
    | nil =>
      have : j = i + f.hlen := by simpa using hj
      rw [this]
      exact ⟨rfl, rfl⟩
    | cons hx hE => omega

theorem flat_bd : ∀ (f : Fo), f.goodV → ∀ x ∈ f.flat, x.text.size ≤ 1048576 ∧ 0 ≤ x.kids ∧ x.kids ≤ f.flat.length
  | .nil, _, x, hx => by cases hx
  | .leaf k t f, hg, x, hx => by
    have hx' : x ∈ (⟨k, t, 0, 0⟩ : It) :: f.flat := hx
    show _ ∧ _ ∧ x.kids ≤ ((f.flat.length + 1 : Nat) : Int)
    rcases List.mem_cons.1 hx' with rfl | hx'
    · exact ⟨hg.2.1, Int.le_refl _, by show (0 : Int) ≤ _; omega⟩
    · obtain ⟨h1, h2, h3⟩ := flat_bd f hg.2.2 x hx'
      exact ⟨h1, h2, by omega⟩
  | .list c f, hg, x, hx => by
    have hx' : x ∈ (⟨5, mk [], (c.cnt : Int), 0⟩ : It) :: (c.flat ++ f.flat) := hx
    have e : (Fo.list c f).flat.length = c.flat.length + f.flat.length + 1 := by simp [Fo.flat]
    rw [e]
    rcases List.mem_cons.1 hx' with rfl | hx'
    · refine ⟨Nat.zero_le _, by show (0 : Int) ≤ (c.cnt : Int); omega, ?_⟩
      show (c.cnt : Int) ≤ _
      have := c.cnt_le
      omega
    · rcases List.mem_append.1 hx' with hx' | hx'
      · obtain ⟨h1, h2, h3⟩ := flat_bd c hg.1 x hx'
        exact ⟨h1, h2, by omega⟩
      · obtain ⟨h1, h2, h3⟩ := flat_bd f hg.2 x hx'
        exact ⟨h1, h2, by omega⟩
theorem bd_of {f : Fo} (hg : f.goodV) {L : List It} (hf : L.map strip = f.flat) (hL : L.length < 4294967296) : ∀ x ∈ L, x.text.size < 4294967281 ∧ x.kids ≤ 9223372036854775807 := by
  intro x hx
  have hm : strip x ∈ f.flat := by rw [← hf]; exact List.mem_map_of_mem hx
  obtain ⟨h1, -, h3⟩ := flat_bd f hg _ hm
  have h1' : x.text.size ≤ 1048576 := h1
  have h3' : x.kids ≤ f.flat.length := h3
  have : f.flat.length = L.length := by rw [← hf, List.length_map]
  omega
/-- Valid on a forest's items. -/
theorem v19 (T : TrimOk) {A : Option Addr} {C : Nat} {L : List It} (hL : L.length < 4294967296) {f : Fo} (hf : L.map strip = f.flat) (hg : f.goodV) (hd : f.edep ≤ 257) (w : World) (hs : SlAt w A (itcs L)) :
    Ret Tryd.prog 19 #[.slice A L.length C] w fun v w' => v = .bool true ∧ Ext w w' := by
  have := c19 (C := C) T hL (bd_of hg hf hL) w hs
  rw [valid_flat hg hd hf] at this
  exact this

theorem c20 (T : TrimOk) {A : Option Addr} {C : Nat} {L : List It} (hL : L.length < 4294967296) {f : Fo} (hf : L.map strip = f.flat) (hg : f.goodV) (hd : f.edep ≤ 257) (w : World) (hs : SlAt w A (itcs L)) :
    Ret Tryd.prog 20 #[.slice A L.length C] w fun v w' => (∃ p k, v = .slice p (starts 0 f).length k ∧ w'.ownsRow w.heap.size 3 1 (.slice p (starts 0 f).length k) (starts 0 f).length (nats (starts 0 f))) ∧ Ext w w' := by
  have hlen : L.length = f.flat.length := by rw [← hf, List.length_map]
  refine run20 _ _ _ _ _ (Called.of (v19 T hL hf hg hd w hs) ?_)
  rintro v w1 ⟨rfl, he1⟩
  refine ⟨_, rfl, ?_⟩
  refine ⟨fun vals w2 => ∃ (j : Nat) (g : Fo) (D : List Nat) (p : Option Addr) (k : Nat), vals = [.int .i64 j, .slice p D.length k] ∧ D ++ starts j g = starts 0 f ∧ w2.ownsRow w.heap.size 3 1 (.slice p D.length k) D.length (nats D) ∧
    j + g.flat.length = L.length ∧ Here L j g ∧ Ext w w2, mu1 L.length,
    ⟨0, f, [], none, 0, rfl, rfl, ⟨rfl, .inl ⟨rfl, rfl⟩⟩, by omega, ⟨[], by rw [List.drop_zero, hf, List.append_nil]⟩, he1⟩, ?_⟩
  rintro n1 p' k' k1' w2 ⟨j, g, D, p, k, hv2, hD, ho, hj, hgh, he2⟩
  cases hv2
  have hDl := congrArg List.length hD
  rw [List.length_append, starts_len, starts_len] at hDl
  have hfc := f.cnt_le
  refine cond_dec (fun hlt => ?_) (fun hge => ?_)
  · have hg0 : 0 < g.cnt := by
      rcases Nat.eq_zero_or_pos g.cnt with h | h
      · rw [cnt_zero h] at hj; simp [Fo.flat] at hj; omega
      · exact h
    have hgl := Fo.len_split hg0
    have hh1 := Fo.hlen_sub hg0
    refine ⟨_, _, _, AppOk.one ho rfl rfl (by unfold maxLen; omega) (by omega) he2.size, ?_⟩
    intro p1 k3 w3 r
    have hx := (Ext.refl w2).alloc (.cells #[Value.int IntKind.i64 (j : Int)] 3)
    have hb3 : Ext w w3 := r.below (own_ext ho hx) (he2.trans hx) (by rw [size_alloc]; have := he2.size; omega) (Nat.le_refl _)
    refine Called.of (c35 hL hg0 hgh w3 (hs.ext hb3)) ?_
    rintro v w4 ⟨rfl, rfl⟩
    have e1 : (D ++ [j]).length = D.length + 1 := by simp
    refine ⟨_, rfl, ⟨j + g.hlen, g.next, D ++ [j], p1, k3, by rw [e1], ?_, ?_, by omega, hgh.next hg0, hb3⟩, ?_⟩
    · rw [List.append_assoc, ← hD, starts_step hg0]; rfl
    · rw [e1, nats_app]; exact r.own
    · simp only [mu1, Int.toNat_natCast]; omega
  · have hg0 : g = .nil := by
      apply cnt_zero
      have := g.cnt_le
      omega
    subst hg0
    have hD' : D = starts 0 f := by rw [← hD]; simp [starts]
    rw [← hD']
    exact ⟨⟨_, _, rfl, ho⟩, he2⟩

/-- Every item is the first of a forest. -/
theorem here_at {L : List It} : ∀ (f : Fo) {j : Nat}, Here L j f → ∀ {i : Nat}, j ≤ i → i < j + f.flat.length → ∃ g : Fo, 0 < g.cnt ∧ Here L i g ∧ (f.goodV → g.goodV) ∧ g.edep ≤ f.edep ∧ g.dep ≤ f.dep
  | .nil, j, hh, i, h1, h2 => by simp [Fo.flat] at h2; omega
  | .leaf k t f, j, hh, i, h1, h2 => by
    by_cases hi : i = j
    · subst hi
      exact ⟨.leaf k t f, Nat.succ_pos _, hh, id, Nat.le_refl _, Nat.le_refl _⟩
    · have hn := hh.next (Nat.succ_pos _)
      have e : (Fo.leaf k t f).flat.length = f.flat.length + 1 := rfl
      obtain ⟨g, a, b, c, d, e2⟩ := here_at f hn (i := i) (by show j + 1 ≤ i; omega) (by show i < j + 1 + _; omega)
      exact ⟨g, a, b, fun h => c h.2.2, Nat.le_trans d (Nat.le_max_right _ _), e2⟩
  | .list c f, j, hh, i, h1, h2 => by
    by_cases hi : i = j
    · subst hi
      exact ⟨.list c f, Nat.succ_pos _, hh, id, Nat.le_refl _, Nat.le_refl _⟩
    · have e : (Fo.list c f).flat.length = c.flat.length + f.flat.length + 1 := by simp [Fo.flat]
      by_cases hi2 : i < j + 1 + c.flat.length
      · obtain ⟨g, a, b, c', d, e2⟩ := here_at c (hh.sub (Nat.succ_pos _)) (i := i) (by omega) hi2
        exact ⟨g, a, b, fun h => c' h.1, Nat.le_trans d (Nat.le_trans (Nat.le_succ _) (Nat.le_max_left _ _)), Nat.le_trans e2 (Nat.le_trans (Nat.le_succ _) (Nat.le_max_left _ _))⟩
      · have hn := hh.next (Nat.succ_pos _)
        obtain ⟨g, a, b, c', d, e2⟩ := here_at f hn (i := i) (by show j + (c.flat.length + 1) ≤ i; omega) (by show i < j + (c.flat.length + 1) + f.flat.length; omega)
        exact ⟨g, a, b, fun h => c' h.2, Nat.le_trans d (Nat.le_max_right _ _), Nat.le_trans e2 (Nat.le_max_right _ _)⟩

theorem c21 (T : TrimOk) {A : Option Addr} {C : Nat} {L : List It} (hL : L.length < 4294967296) {f : Fo} (hf : L.map strip = f.flat) (hg : f.goodV) (hd : f.edep ≤ 257) {i : Nat} {g : Fo} (hg0 : 0 < g.cnt) (hh : Here L i g) (w : World) (hs : SlAt w A (itcs L)) :
    Ret Tryd.prog 21 #[.slice A L.length C, .int .i64 i] w fun v w' =>
      (∃ p k, v = .slice p (starts (i + 1) g.sub).length k ∧ w'.ownsRow w.heap.size 3 1 (.slice p (starts (i + 1) g.sub).length k) (starts (i + 1) g.sub).length (nats (starts (i + 1) g.sub))) ∧ Ext w w' := by
  obtain ⟨y, hy, hyf⟩ := hh.get hg0
  have hle := hh.le hg0
  have hsp := Fo.len_split hg0
  have hsub := Fo.hlen_sub hg0
  have hlt : i < L.length := (List.getElem?_eq_some_iff.1 hy).1
  have hk : y.kids = (g.sub.cnt : Int) := by rw [← Fo.hd_kids, ← hyf]; rfl
  have hkle : g.sub.cnt ≤ L.length := by have := g.sub.cnt_le; omega
  refine run21 _ _ _ _ _ _ fun K hK => Called.of (v19 T hL hf hg hd w hs) ?_
  rintro v w5 ⟨rfl, he5⟩
  refine ⟨_, rfl, cond_intro (fun h => by simp only [Bool.not_true, Bool.false_or, decide_eq_true_eq] at h; omega) (fun _ => hK _ _ ?_)⟩
  rw [decide_eq_false (by omega), cond_false]
  obtain ⟨ad, rfl, -, -, hc5⟩ := sl_item (hs.ext he5) hy
  refine ⟨ad, rfl, ⟨by omega, by omega⟩, _, hc5, ?_⟩
  rw [hk]
  refine ⟨fun vals w2 => ∃ (j : Nat) (q : Fo) (D : List Nat) (p : Option Addr) (k : Nat), vals = [.int .i64 D.length, .int .i64 j, .slice p D.length k] ∧ D ++ starts j q = starts (i + 1) g.sub ∧
      w2.ownsRow w.heap.size 3 1 (.slice p D.length k) D.length (nats D) ∧ D.length + q.cnt = g.sub.cnt ∧ j + q.flat.length = i + g.hlen ∧ Here L j q ∧ Ext w w2, mu1 g.sub.cnt,
    ⟨i + 1, g.sub, [], none, 0, by rw [wrap_succ (by omega)]; rfl, rfl, ⟨rfl, .inl ⟨rfl, rfl⟩⟩, by simp, by rw [hsub]; omega, hh.sub hg0, he5⟩, ?_⟩
  rintro n n1 p' k' k1' w2 ⟨j, q, D, p, k, hv2, hD, ho, hn, hj, hgh, he2⟩
  cases hv2
  refine cond_dec (fun hlt => ?_) (fun hge => ?_)
  · have hq0 : 0 < q.cnt := by omega
    have hgl := Fo.len_split hq0
    have hgc := Fo.cnt_next hq0
    refine ⟨_, _, _, AppOk.one ho rfl rfl (by unfold maxLen; omega) (by omega) he2.size, ?_⟩
    intro p1 k3 w3 r
    have hx := (Ext.refl w2).alloc (.cells #[Value.int IntKind.i64 (j : Int)] 3)
    have hb3 : Ext w w3 := r.below (own_ext ho hx) (he2.trans hx) (by rw [size_alloc]; have := he2.size; omega) (Nat.le_refl _)
    refine Called.of (c35 hL hq0 hgh w3 (hs.ext hb3)) ?_
    rintro v w4 ⟨rfl, rfl⟩
    have e1 : (D ++ [j]).length = D.length + 1 := by simp
    rw [wrap_succ (by omega)]
    refine ⟨_, rfl, ⟨j + q.hlen, q.next, D ++ [j], p1, k3, by rw [e1], ?_, ?_, by rw [e1]; omega, by omega, hgh.next hq0, hb3⟩, ?_⟩
    · rw [List.append_assoc, ← hD, starts_step hq0]; rfl
    · rw [e1, nats_app]; exact r.own
    · simp only [mu1, Int.toNat_natCast]; omega
  · have hq0 : q = .nil := cnt_zero (by omega)
    subst hq0
    have hD' : D = starts (i + 1) g.sub := by rw [← hD]; simp [starts]
    rw [← hD']
    exact ⟨⟨_, _, rfl, ho⟩, he2⟩
end Go.Proofs.Sx

/-! Each item of a forest is a root or the child of one: counted. SexprStructure. -/
namespace Go.Proofs.Sx
open Go Go.V Go.Proofs Go.RowKit
set_option maxRecDepth 100000

/-- Each item's elements. -/
def allKids : Nat → Fo → List (List Nat)
  | _, .nil => []
  | p, .leaf _ _ r => [] :: allKids (p + 1) r
  | p, .list c r => starts (p + 1) c :: (allKids (p + 1) c ++ allKids (p + (c.flat.length + 1)) r)
theorem allKids_len : ∀ (f : Fo) (p : Nat), (allKids p f).length = f.flat.length
  | .nil, _ => rfl
  | .leaf k t f, p => by simp [allKids, Fo.flat, allKids_len f]
  | .list c f, p => by simp [allKids, Fo.flat, allKids_len c, allKids_len f]
theorem starts_bd : ∀ (f : Fo) (p : Nat), ∀ y ∈ starts p f, p ≤ y ∧ y < p + f.flat.length
  | .nil, _, y, h => by cases h
  | .leaf k t f, p, y, h => by
    have h' : y ∈ p :: starts (p + 1) f := h
    have e : (Fo.leaf k t f).flat.length = f.flat.length + 1 := rfl
    rcases List.mem_cons.1 h' with rfl | h'
    · omega
    · have := starts_bd f _ y h'; omega
  | .list c f, p, y, h => by
    have h' : y ∈ p :: starts (p + (c.flat.length + 1)) f := h
    have e : (Fo.list c f).flat.length = c.flat.length + f.flat.length + 1 := by simp [Fo.flat]
    rcases List.mem_cons.1 h' with rfl | h'
    · omega
    · have := starts_bd f _ y h'; omega
def one (p n x : Nat) : Nat := if p ≤ x ∧ x < p + n then 1 else 0
theorem count_one : ∀ (f : Fo) (p x : Nat), List.count x (starts p f) + List.count x (allKids p f).flatten = one p f.flat.length x
  | .nil, p, x => by show 0 + 0 = _; unfold one; rw [if_neg (by show ¬ (p ≤ x ∧ x < p + 0); omega)]
  | .leaf k t f, p, x => by
    have ih := count_one f (p + 1) x
    show List.count x (p :: starts (p + 1) f) + List.count x ([] ++ (allKids (p + 1) f).flatten) = one p (f.flat.length + 1) x
    rw [List.count_cons, List.nil_append]
    unfold one at ih ⊢
    by_cases hx : p = x
    · subst hx
      rw [if_neg (by omega)] at ih
      have h2 : p ≤ p ∧ p < p + (f.flat.length + 1) := by omega
      simp only [beq_self_eq_true, if_true, h2, and_self]
      omega
    · have : (p == x) = false := by simpa using hx
      rw [this]
      simp only [Bool.false_eq_true, if_false]
      split at ih <;> split <;> omega
  | .list c f, p, x => by
    have ih1 := count_one c (p + 1) x
    have ih2 := count_one f (p + (c.flat.length + 1)) x
    have e : (Fo.list c f).flat.length = c.flat.length + f.flat.length + 1 := by simp [Fo.flat]
    show List.count x (p :: starts (p + (c.flat.length + 1)) f) + List.count x (starts (p + 1) c :: (allKids (p + 1) c ++ allKids (p + (c.flat.length + 1)) f)).flatten = _
    rw [e, List.count_cons, List.flatten_cons, List.count_append, List.flatten_append, List.count_append]
    unfold one at ih1 ih2 ⊢
    by_cases hx : p = x
    · subst hx
      rw [if_neg (by omega)] at ih1 ih2
      have h2 : p ≤ p ∧ p < p + (c.flat.length + f.flat.length + 1) := by omega
      simp only [beq_self_eq_true, if_true, h2, and_self]
      omega
    · have : (p == x) = false := by simpa using hx
      rw [this]
      simp only [Bool.false_eq_true, if_false]
      split at ih1 <;> split at ih2 <;> split <;> omega
/-- The elements of the item at i. -/
theorem allKids_get {L : List It} : ∀ (f : Fo) {j : Nat}, Here L j f → ∀ {i : Nat}, i < f.flat.length → ∃ g : Fo, 0 < g.cnt ∧ Here L (j + i) g ∧ (allKids j f)[i]? = some (starts (j + i + 1) g.sub) ∧ (j + i) + g.hlen ≤ j + f.flat.length
  | .nil, j, hh, i, h => by simp [Fo.flat] at h
  | .leaf k t f, j, hh, i, h => by
    have e : (Fo.leaf k t f).flat.length = f.flat.length + 1 := rfl
    cases i with
    | zero => exact ⟨.leaf k t f, Nat.succ_pos _, hh, rfl, by show j + 0 + 1 ≤ _; omega⟩
    | succ i =>
      obtain ⟨g, a, b, c, d⟩ := allKids_get f (hh.next (Nat.succ_pos _)) (i := i) (by omega)
      have e2 : j + (Fo.leaf k t f).hlen + i = j + (i + 1) := by show j + 1 + i = _; omega
      rw [e2] at b c d
      refine ⟨g, a, b, c, ?_⟩
      have : (Fo.leaf k t f).hlen = 1 := rfl
      omega
  | .list c f, j, hh, i, h => by
    have e : (Fo.list c f).flat.length = c.flat.length + f.flat.length + 1 := by simp [Fo.flat]
    have e3 : (Fo.list c f).hlen = c.flat.length + 1 := rfl
    cases i with
    | zero => exact ⟨.list c f, Nat.succ_pos _, hh, rfl, by rw [e3]; omega⟩
    | succ i =>
      show ∃ g : Fo, _ ∧ _ ∧ (starts (j + 1) c :: (allKids (j + 1) c ++ allKids (j + (c.flat.length + 1)) f))[i + 1]? = _ ∧ _
      rw [List.getElem?_cons_succ]
      by_cases hi : i < c.flat.length
      · obtain ⟨g, a, b, d, d2⟩ := allKids_get c (hh.sub (Nat.succ_pos _)) hi
        rw [List.getElem?_append_left (by rw [allKids_len]; exact hi)]
        have e2 : j + 1 + i = j + (i + 1) := by omega
        have d' : (allKids (j + 1) c)[i]? = _ := d
        rw [e2] at b d' d2
        have hsub : (Fo.list c f).sub.flat.length = c.flat.length := rfl
        exact ⟨g, a, b, d', by omega⟩
      · rw [List.getElem?_append_right (by rw [allKids_len]; omega), allKids_len]
        obtain ⟨g, a, b, d, d2⟩ := allKids_get f (hh.next (Nat.succ_pos _)) (i := i - c.flat.length) (by omega)
        have e2 : j + (Fo.list c f).hlen + (i - c.flat.length) = j + (i + 1) := by rw [e3]; omega
        have d' : (allKids (j + (c.flat.length + 1)) f)[i - c.flat.length]? = _ := d
        rw [e2] at b d' d2
        exact ⟨g, a, b, d', by rw [e3] at d2; have : (Fo.list c f).next.flat.length = f.flat.length := rfl; omega⟩

/-- How often each index stands in a list. -/
def times (n : Nat) (S : List Nat) : List Nat := (List.range n).map fun x => List.count x S
theorem times_get {n x : Nat} (h : x < n) (S : List Nat) : (times n S)[x]? = some (List.count x S) := by
  rw [times, List.getElem?_map, List.getElem?_range h]; rfl
theorem times_set {n y : Nat} (S : List Nat) : (times n S).set y (List.count y S + 1) = times n (S ++ [y]) := by
  apply List.ext_getElem?
  intro i
  rw [List.getElem?_set]
  by_cases hi : i < n
  · rw [times_get hi, times_get hi, List.count_append, List.count_singleton]
    by_cases hy : y = i
    · subst hy
      rw [if_pos rfl, if_pos (by simpa [times] using hi)]
      simp
    · rw [if_neg hy]
      simp [hy]
  · have h1 : (times n S)[i]? = none := by rw [times, List.getElem?_map, List.getElem?_eq_none (by rw [List.length_range]; omega)]; rfl
    have h2 : (times n (S ++ [y]))[i]? = none := by rw [times, List.getElem?_map, List.getElem?_eq_none (by rw [List.length_range]; omega)]; rfl
    rw [h1, h2]
    split
    · rw [if_neg (by simpa [times] using by omega)]
    · rfl
theorem times_nil (n : Nat) : times n [] = List.replicate n 0 := by
  unfold times
  simp only [List.count_nil]
  rw [List.map_const', List.length_range]
theorem made_zero (n : Nat) : madeCells (Value.int .i64 0).cells n = (nats (times n [])).toArray := by
  rw [times_nil]
  apply Array.ext
  · simp [madeCells, nats]
  · intro i h1 h2
    simp [madeCells, nats, Value.cells, Nat.mod_one]
end Go.Proofs.Sx

/-! SexprStructure. -/
namespace Go.Proofs.Sx
open Go Go.V Go.Proofs Go.RowKit
set_option maxRecDepth 100000

def muS (N : Nat) : List Value → World → Nat
  | .int _ i :: _, _ => N - (i + 1).toNat
  | _, _ => 0
theorem size3 (n : Nat) : ((n : Int).toNat * sxE.P.types[3].size) = n := by
  rw [Int.toNat_natCast]
  exact Nat.mul_one n
/-- The state of the count. -/
structure Tally (w w3 : World) (tb n : Nat) (S : List Nat) (f : Fo) (A : Option Addr) (C : Nat) (p : Option Addr) (k : Nat) : Prop where
  blk : w3.heap[tb]? = some (.cells (nats (times n S)).toArray 3 (0, 0))
  row : w3.ownsRow w.heap.size 34 4 (.slice A f.flat.length C) f.flat.length (itcs f.flat)
  rts : w3.ownsRow (tb + 1) 3 1 (.slice p (starts 0 f).length k) (starts 0 f).length (nats (starts 0 f))
  ext : Ext w w3
theorem Tally.lt {w w3 : World} {tb n : Nat} {S : List Nat} {f : Fo} {A : Option Addr} {C : Nat} {p : Option Addr} {k : Nat} (h : Tally w w3 tb n S f A C p k) : tb < w3.heap.size := (Array.getElem?_eq_some_iff.1 h.blk).1
theorem Tally.go {w w3 w4 : World} {tb n : Nat} {S : List Nat} {f : Fo} {A : Option Addr} {C : Nat} {p : Option Addr} {k : Nat} (h : Tally w w3 tb n S f A C p k) (he : Ext w3 w4) : Tally w w4 tb n S f A C p k :=
  ⟨he.blk h.blk, own_ext h.row he, own_ext h.rts he, h.ext.trans he⟩
theorem Tally.cell {w w3 : World} {tb n : Nat} {S : List Nat} {f : Fo} {A : Option Addr} {C : Nat} {p : Option Addr} {k : Nat} (h : Tally w w3 tb n S f A C p k) {y : Nat} (hy : y < n) :
    w3.cell? ((⟨tb, 0, none⟩ : Addr).add ((y : Int).toNat * 1)) = some (.int .i64 ((List.count y S : Nat) : Int)) := by
  rw [Int.toNat_natCast, Nat.mul_one, add_eq, Nat.zero_add, blk_cell h.blk]
  simp [nats, times_get hy]
theorem Tally.bump {w w3 : World} {tb n : Nat} {S : List Nat} {f : Fo} {A : Option Addr} {C : Nat} {p : Option Addr} {k : Nat} (h : Tally w w3 tb n S f A C p k) (hw : w.heap.size ≤ tb)
    (hA : ∀ g, (Value.slice A f.flat.length C).ownBlock = some g → g < tb) (y : Nat) :
    Tally w (w3.setCell ⟨tb, y, none⟩ (.int .i64 ((List.count y S + 1 : Nat) : Int))) tb n (S ++ [y]) f A C p k where
  blk := by
    rw [blk_set_eq h.blk, ← times_set]
    simp [nats, List.map_set]
  row := own_other h.row (fun e => by have := hA tb e; omega) _
  rts := own_other h.rts (fun e => by have := (own_lt h.rts tb e).1; omega) _
  ext := Below.setCell (p := ⟨tb, y, none⟩) h.ext hw _

theorem c8 (T : TrimOk) {lA : Option Addr} {lN lC : Nat} {l : List Int} {w : World} (hl : l.length = lN) (hc : lN ≤ lC) (h : SlAt w lA (l.map fun n => .int .i64 n)) :
    Ret Tryd.prog 8 #[.slice lA lN lC] w fun v w' => v = .bool true ∧ Ext w w' := by
  refine run8 _ _ _ _ _ (Called.of (c14 hl hc h) ?_)
  rintro v w1 ⟨⟨f, A, C, hg, hd, hfl, rfl, ho⟩, he1⟩
  have hed : f.edep ≤ 257 := Nat.le_trans (edep_le f) (by omega)
  refine ⟨_, _, _, rfl, ⟨by omega, by omega, by omega, by omega⟩, ?_⟩
  rw [size3, made_zero]
  generalize htb : w1.heap.size = tb
  have htw : w.heap.size ≤ tb := by rw [← htb]; exact he1.size
  have hvb : ∀ g, (Value.slice A f.flat.length C).ownBlock = some g → g < tb := fun g hg' => by rw [← htb]; exact (own_lt ho g hg').2
  have hx1 := (Ext.refl w1).alloc (.cells (nats (times f.flat.length [])).toArray 3)
  have hb1 : (w1.alloc (.cells (nats (times f.flat.length [])).toArray 3)).heap[tb]? = some (.cells (nats (times f.flat.length [])).toArray 3 (0, 0)) := by rw [← htb]; exact heap_alloc_new w1 _
  have hsz : (w1.alloc (.cells (nats (times f.flat.length [])).toArray 3)).heap.size = tb + 1 := by rw [size_alloc, htb]
  refine Called.of (c20 T (L := f.flat) (by omega) (strip_flat f) (good_V hg) hed _ (own_row (own_ext ho hx1))) ?_
  rintro v w2 ⟨⟨p, k, rfl, hro⟩, he2⟩
  rw [hsz] at hro
  have hT2 : Tally w w2 tb f.flat.length [] f A C p k := ⟨he2.blk hb1, own_ext (own_ext ho hx1) he2, hro, he1.trans (hx1.trans he2)⟩
  refine ⟨_, _, _, rfl, fun vals w3 => ∃ t : Nat, vals = [.int .i64 ((t : Int) - 1)] ∧ t ≤ f.flat.length + 1 ∧ Tally w w3 tb f.flat.length ((starts 0 f :: allKids 0 f).take t).flatten f A C p k, muS (f.flat.length + 1),
    ⟨0, rfl, Nat.zero_le _, hT2⟩, ?_⟩
  rintro n w3 ⟨t, hv, ht, hT3⟩
  cases hv
  have hsl := starts_len f 0
  have hcl := f.cnt_le
  refine cond_dec (fun hlt => ?_) (fun hge => ?_)
  · intro K hK
    -- one list of indices
    have inner : ∀ (p2 : Option Addr) (k5 : Nat) (ks : List Nat) (w4 : World), (starts 0 f :: allKids 0 f)[t]? = some ks → (∀ y ∈ ks, (t : Int) - 1 < y ∧ y < f.flat.length) →
        w4.ownsRow (tb + 1) 3 1 (.slice p2 ks.length k5) ks.length (nats ks) → Tally w w4 tb f.flat.length ((starts 0 f :: allKids 0 f).take t).flatten f A C p k → ks.length ≤ 363 → K [.slice p2 ks.length k5] w4 := by
      intro p2 k5 ks w4 hks hky hko hT4 hkl
      have e5 : ((starts 0 f :: allKids 0 f).take (t + 1)).flatten = ((starts 0 f :: allKids 0 f).take t).flatten ++ ks := by
        rw [List.take_add_one, hks, List.flatten_append]
        show _ ++ [ks].flatten = _
        rw [List.flatten_cons, List.flatten_nil, List.append_nil]
      refine hK _ _ _ _ ?_
      refine ⟨fun vals w5 => ∃ j : Nat, vals = [.int .i64 j] ∧ j ≤ ks.length ∧ w5.ownsRow (tb + 1) 3 1 (.slice p2 ks.length k5) ks.length (nats ks) ∧ Tally w w5 tb f.flat.length (((starts 0 f :: allKids 0 f).take t).flatten ++ ks.take j) f A C p k, mu1 ks.length,
        ⟨0, rfl, Nat.zero_le _, hko, by rw [List.take_zero, List.append_nil]; exact hT4⟩, ?_⟩
      rintro n1 w5 ⟨j, hv2, hj, hko5, hT5⟩
      cases hv2
      refine cond_dec (fun hlt2 => ?_) (fun hge2 => ?_)
      · intro K1 hK1
        have hjl : j < ks.length := by omega
        obtain ⟨y, hy⟩ : ∃ y, ks[j]? = some y := ⟨_, List.getElem?_eq_getElem hjl⟩
        obtain ⟨hy1, hy2⟩ := hky y (List.mem_of_getElem? hy)
        obtain ⟨ad, rfl, hcell⟩ := nats_at hko5 hy
        have hcell' : w5.cell? (ad.add ((j : Int).toNat * 1)) = some (.int .i64 y) := by rw [Int.toNat_natCast]; exact hcell
        have main : ∀ b, b = false → K1 [.bool b] w5 := by
          intro b hb
          refine hK1 b ?_
          rw [hb, cond_false]
          have hadr : (⟨tb, 0, none⟩ : Addr).add ((y : Int).toNat * 1) = ⟨tb, y, none⟩ := by rw [Int.toNat_natCast, Nat.mul_one, add_eq, Nat.zero_add]
          have hc2 := hT5.cell hy2
          refine ⟨ad, rfl, ⟨by omega, hlt2⟩, _, hcell', _, rfl, ⟨by omega, by omega⟩, _, hc2, _, rfl, ⟨by omega, by omega⟩, ⟨⟨_, hc2⟩, by rw [hadr]; exact blk_free hT5.blk⟩, ?_⟩
          have hcnt : List.count y (((starts 0 f :: allKids 0 f).take t).flatten ++ ks.take j) ≤ 1 := by
            have h1 := count_one f 0 y
            have h2 : List.count y ((starts 0 f :: allKids 0 f)).flatten ≤ 1 := by
              rw [List.flatten_cons, List.count_append, h1]
              unfold one
              split <;> omega
            have h3 : (((starts 0 f :: allKids 0 f).take t).flatten ++ ks.take j).Sublist (starts 0 f :: allKids 0 f).flatten := by
              have h4 : (((starts 0 f :: allKids 0 f).take t).flatten ++ ks).Sublist (starts 0 f :: allKids 0 f).flatten := by
                rw [← e5]
                conv => rhs; rw [← List.take_append_drop (t + 1) (starts 0 f :: allKids 0 f), List.flatten_append]
                exact List.sublist_append_left _ _
              exact ((List.Sublist.refl _).append (List.take_sublist j ks)).trans h4
            exact Nat.le_trans (h3.count_le y) h2
          rw [hadr, wrap_succ (by omega), wrap_succ (by omega)]
          refine ⟨⟨j + 1, rfl, hjl, own_other hko5 (fun e => by have := (own_lt hko5 tb e).1; omega) _, ?_⟩, ?_⟩
          · have := hT5.bump htw hvb y
            rw [List.append_assoc] at this
            rw [List.take_add_one, hy]
            exact this
          · simp only [mu1, Int.toNat_natCast]; omega
        refine ⟨ad, rfl, ⟨by omega, hlt2⟩, _, hcell', cond_dec (fun h => absurd h (by omega)) (fun _ => ⟨ad, rfl, ⟨by omega, hlt2⟩, _, hcell', main _ (decide_eq_false (by omega))⟩)⟩
      · have e1 : IntKind.i64.wrap ((t : Int) - 1 + 1) = ((t + 1 : Nat) : Int) - 1 := by rw [wrap64_in (by omega) (by omega)]; omega
        rw [e1]
        refine ⟨⟨t + 1, rfl, by omega, ?_⟩, ?_⟩
        · rw [List.take_of_length_le (l := ks) (i := j) (by omega)] at hT5
          rw [e5]
          exact hT5
        · simp only [muS]; omega
    refine cond_dec (fun hpos => ?_) (fun hneg => ?_)
    · obtain ⟨i, rfl⟩ : ∃ i, t = i + 1 := ⟨t - 1, by omega⟩
      have ei : ((i + 1 : Nat) : Int) - 1 = (i : Int) := by omega
      have hil : i < f.flat.length := by omega
      obtain ⟨g, hg0, hhere, hget, hgl⟩ := allKids_get (L := f.flat) f (j := 0) ⟨[], by rw [List.drop_zero, strip_flat, List.append_nil]⟩ hil
      rw [Nat.zero_add] at hhere hget hgl
      obtain ⟨y, hy, hyf⟩ := hhere.get hg0
      have hky : y.kids = (g.sub.cnt : Int) := by rw [← Fo.hd_kids, ← hyf]; rfl
      have hsub := Fo.hlen_sub hg0
      rw [ei] at inner ⊢
      refine Called.of (c21 T (L := f.flat) (by omega) (strip_flat f) (good_V hg) hed hg0 hhere w3 (own_row hT3.row)) ?_
      rintro v w6 ⟨⟨p3, k7, rfl, hko⟩, he6⟩
      obtain ⟨ad, rfl, -, -, hc6⟩ := sl_item ((own_row hT3.row).ext he6) hy
      refine ⟨_, _, _, rfl, ad, rfl, ⟨by omega, by omega⟩, _, by rw [Int.toNat_natCast]; exact hc6, ?_⟩
      have hsl2 := starts_len g.sub (i + 1)
      have hscl := g.sub.cnt_le
      refine cond_intro (fun hne => ?_) (fun _ => ?_)
      · have hne' : ¬ (((starts (i + 1) g.sub).length : Nat) : Int) = y.kids := by simpa using hne
        omega
      · refine inner _ _ _ _ ?_ ?_ (own_base hko (by have := hT3.lt; omega)) (hT3.go he6) (by omega)
        · rw [List.getElem?_cons_succ]; exact hget
        · intro z hz
          have := starts_bd _ _ z hz
          omega
    · have ht0 : t = 0 := by omega
      subst ht0
      refine inner _ _ _ _ rfl ?_ hT3.rts hT3 (by omega)
      intro z hz
      have := starts_bd _ _ z hz
      omega
  · have htl : t = f.flat.length + 1 := by omega
    have hS : ((starts 0 f :: allKids 0 f).take t).flatten = starts 0 f ++ (allKids 0 f).flatten := by
      rw [List.take_of_length_le (by rw [List.length_cons, allKids_len]; omega), List.flatten_cons]
    rw [hS] at hT3
    refine ⟨fun vals w7 => ∃ x : Nat, vals = [.int .i64 x] ∧ x ≤ f.flat.length ∧ w7 = w3, mu1 f.flat.length, ⟨0, rfl, Nat.zero_le _, rfl⟩, ?_⟩
    rintro n7 w7 ⟨x, hv2, hx, rfl⟩
    cases hv2
    refine cond_dec (fun hlt2 => ?_) (fun hge2 => ?_)
    · have hxl : x < f.flat.length := by omega
      have h1 := count_one f 0 x
      have h2 : List.count x (starts 0 f ++ (allKids 0 f).flatten) = 1 := by
        rw [List.count_append, h1]; unfold one; rw [if_pos (by omega)]
      have hc7 := hT3.cell hxl
      rw [h2] at hc7
      refine ⟨_, rfl, ⟨by omega, by omega⟩, _, hc7, cond_intro (fun h => absurd h (by decide)) (fun _ => ?_)⟩
      rw [wrap_succ (by omega)]
      refine ⟨⟨x + 1, rfl, hxl, rfl⟩, ?_⟩
      simp only [mu1, Int.toNat_natCast]; omega
    · refine Called.of (c11 T w7) ?_
      rintro v w8 ⟨rfl, he8⟩
      exact ⟨_, rfl, rfl, hT3.ext.trans he8⟩
end Go.Proofs.Sx
