/- Part of the proof: SxC. -/
import Derived.Test.YtonenlplcidihaaDoorSxD
/-! Texts behind one another; the text of a forest. In plain Lean. -/
namespace Go.Proofs.Sx
open Go Go.V Go.Proofs Go.RowKit
set_option maxRecDepth 100000

/-- From state to state. -/
inductive Reach (n : Nat) : St → St → Prop
  | refl (st : St) : Reach n st st
  | step {st mid st' : St} (h : stepL n st = .ok mid) (r : Reach n mid st') : Reach n st st'
theorem Reach.trans {n : Nat} {a b c : St} (h : Reach n a b) (k : Reach n b c) : Reach n a c := by
  induction h with
  | refl => exact k
  | step h _ ih => exact .step h (ih k)
theorem Reach.one {n : Nat} {a b : St} (h : stepL n a = .ok b) : Reach n a b := .step h (.refl _)
theorem Reach.parse {n : Nat} {a b : St} (h : Reach n a b) : parseL n a = parseL n b := by
  induction h with
  | refl => rfl
  | step h _ ih => rw [parseL_ok h, ih]
theorem reach_of {n : Nat} : ∀ (m : Nat) (st : St), st.l.length ≤ m → ∀ {out : List It}, parseL n st = .ok out → Reach n st ⟨[], out, []⟩ := by
  intro m
  induction m with
  | zero =>
    intro st hm out h
    have hl : st.l = [] := List.eq_nil_of_length_eq_zero (by omega)
    rw [parseL_nil hl] at h
    split at h
    · rename_i ho
      cases h
      obtain ⟨l, o, p⟩ := st
      simp only at hl ho
      subst hl; subst ho
      exact .refl _
    · cases h
  | succ m ih =>
    intro st hm out h
    by_cases hl : st.l = []
    · rw [parseL_nil hl] at h
      split at h
      · rename_i ho
        cases h
        obtain ⟨l, o, p⟩ := st
        simp only at hl ho
        subst hl; subst ho
        exact .refl _
      · cases h
    · cases hst : stepL n st with
      | error e => rw [parseL_err hl hst] at h; cases h
      | ok st' =>
        rw [parseL_ok hst] at h
        have := stepL_lt hst
        exact .step hst (ih st' (by omega) h)

/-! The steps, one by one. -/
theorem st_blank (n : Nat) (c : UInt8) (t : List UInt8) (out : List It) (opn : List Nat) (h : isBlank c = true) : stepL n ⟨c :: t, out, opn⟩ = .ok ⟨t, out, opn⟩ := by
  rw [stepL]; simp only [h, if_true]
theorem st_comment (n : Nat) (t : List UInt8) (out : List It) (opn : List Nat) : stepL n ⟨59 :: t, out, opn⟩ = .ok ⟨t.dropWhile (· != 10), out, opn⟩ := rfl
theorem st_close (n : Nat) (t : List UInt8) (out : List It) (opn : List Nat) (h : opn ≠ []) : stepL n ⟨41 :: t, out, opn⟩ = .ok ⟨t, out, opn.dropLast⟩ := by
  have : stepL n ⟨41 :: t, out, opn⟩ = if opn = [] then .error (n - (t.length + 1), 2) else .ok ⟨t, out, opn.dropLast⟩ := rfl
  rw [this, if_neg h]
theorem st_open (n : Nat) (t : List UInt8) (out : List It) (opn : List Nat) (h : opn.length ≤ 256) :
    stepL n ⟨40 :: t, out, opn⟩ = .ok ⟨t, outsOf out opn ⟨5, mk [], 0, ((n - (t.length + 1) : Nat) : Int)⟩, opn ++ [out.length]⟩ := by
  have : stepL n ⟨40 :: t, out, opn⟩ = addI n ⟨40 :: t, out, opn⟩ 5 [] t := rfl
  rw [this, addI, if_neg (by show ¬ opn.length > 256; omega)]
  rfl
theorem st_deep (n : Nat) (t : List UInt8) (out : List It) (opn : List Nat) (h : 256 < opn.length) : stepL n ⟨40 :: t, out, opn⟩ = .error (n - (t.length + 1), 6) := by
  have : stepL n ⟨40 :: t, out, opn⟩ = addI n ⟨40 :: t, out, opn⟩ 5 [] t := rfl
  rw [this, addI, if_pos h]; rfl
theorem st_str (n : Nat) (t : List UInt8) (out : List It) (opn : List Nat) {v r : List UInt8} (hs : strL t = some (v, r)) (h : opn.length ≤ 256) :
    stepL n ⟨34 :: t, out, opn⟩ = .ok ⟨r, outsOf out opn ⟨4, mk v, 0, ((n - (t.length + 1) : Nat) : Int)⟩, opn⟩ := by
  have : stepL n ⟨34 :: t, out, opn⟩ = match strL t with
      | none => .error (n - (t.length + 1), 2)
      | some (v, r) => addI n ⟨34 :: t, out, opn⟩ 4 v r := rfl
  rw [this, hs]
  show addI n ⟨34 :: t, out, opn⟩ 4 v r = _
  rw [addI, if_neg (by show ¬ opn.length > 256; omega), if_neg (by decide)]
  rfl
theorem word_facts {c : UInt8} (h : isWord c = true) : isBlank c = false ∧ c ≠ 59 ∧ c ≠ 41 ∧ c ≠ 40 ∧ c ≠ 34 := by
  refine ⟨?_, ?_, ?_, ?_, ?_⟩
  · cases hb : isBlank c with
    | false => rfl
    | true =>
      unfold isBlank at hb
      simp only [Bool.or_eq_true, beq_iff_eq] at hb
      rcases hb with ((rfl | rfl) | rfl) | rfl <;> exact absurd h (by decide)
  all_goals (rintro rfl; exact absurd h (by decide))
theorem st_word (n : Nat) (c : UInt8) (t : List UInt8) (out : List It) (opn : List Nat) (hw : isWord c = true) (hk : kindW ((c :: t).takeWhile isWord) ≠ 0) (h : opn.length ≤ 256) :
    stepL n ⟨c :: t, out, opn⟩ = .ok ⟨(c :: t).dropWhile isWord, outsOf out opn ⟨kindW ((c :: t).takeWhile isWord), mk ((c :: t).takeWhile isWord), 0, ((n - (t.length + 1) : Nat) : Int)⟩, opn⟩ := by
  obtain ⟨h0, h1, h2, h3, h4⟩ := word_facts hw
  have hk5 : kindW ((c :: t).takeWhile isWord) ≠ 5 := by
    rcases kindW_range ((c :: t).takeWhile isWord) with h | h | h | h <;> omega
  rw [stepL]
  simp only [h0, h1, h2, h3, h4, hw, hk, if_false, if_true, Bool.false_eq_true]
  rw [addI, if_neg (by show ¬ opn.length > 256; omega), if_neg hk5]
  rfl

/-! More text behind. -/
theorem strL_app {r : List UInt8} (hr : ∀ c t, r = c :: t → c ≠ 34) : ∀ {l v x : List UInt8}, strL l = some (v, x) → strL (l ++ r) = some (v, x ++ r)
  | [], _, _, h => by cases h
  | [c], v, x, h => by
    unfold strL at h
    split at h <;> cases h
    rename_i hc
    subst hc
    cases r with
    | nil => rfl
    | cons d t =>
      have hd := hr d t rfl
      show strL (34 :: d :: t) = _
      unfold strL
      rw [if_pos rfl, if_neg hd]
      rfl
  | c :: d :: t, v, x, h => by
    rw [List.cons_append, List.cons_append]
    unfold strL at h ⊢
    split at h
    · rename_i hc
      rw [if_pos hc]
      split at h
      · rename_i hd
        rw [if_pos hd]
        cases h2 : strL t with
        | none => rw [h2] at h; cases h
        | some y =>
          obtain ⟨v', x'⟩ := y
          rw [h2] at h
          cases h
          rw [strL_app hr h2]; rfl
      · rename_i hd
        rw [if_neg hd]
        cases h; rfl
    · rename_i hc
      rw [if_neg hc]
      split at h
      · rename_i hp
        rw [if_pos hp]
        cases h2 : strL (d :: t) with
        | none => rw [h2] at h; cases h
        | some y =>
          obtain ⟨v', x'⟩ := y
          rw [h2] at h
          cases h
          have := strL_app hr h2
          rw [List.cons_append] at this
          rw [this]; rfl
      · cases h
theorem drop_app {p : UInt8 → Bool} {r : List UInt8} (hr : ∀ c t, r = c :: t → p c = false) : ∀ (l : List UInt8), (l ++ r).dropWhile p = l.dropWhile p ++ r
  | [] => by
    cases r with
    | nil => rfl
    | cons c t => rw [List.nil_append, List.dropWhile_cons, hr c t rfl]; rfl
  | c :: l => by
    rw [List.cons_append, List.dropWhile_cons, List.dropWhile_cons]
    split
    · exact drop_app hr l
    · rfl
theorem take_app {p : UInt8 → Bool} {r : List UInt8} (hr : ∀ c t, r = c :: t → p c = false) : ∀ (l : List UInt8), (l ++ r).takeWhile p = l.takeWhile p
  | [] => by
    cases r with
    | nil => rfl
    | cons c t => rw [List.nil_append, List.takeWhile_cons, hr c t rfl]; rfl
  | c :: l => by
    rw [List.cons_append, List.takeWhile_cons, List.takeWhile_cons]
    split
    · rw [take_app hr l]
    · rfl
/-- A step goes on where a line feed and more stand behind. -/
theorem step_app {n : Nat} (r : List UInt8) {st st' : St} (h : stepL n st = .ok st') : stepL (n + (r.length + 1)) ⟨st.l ++ 10 :: r, st.out, st.opn⟩ = .ok ⟨st'.l ++ 10 :: r, st'.out, st'.opn⟩ := by
  have hp : ∀ m : Nat, n + (r.length + 1) - ((m + (r.length + 1))) = n - m := fun m => by omega
  obtain ⟨l, out, opn⟩ := st
  have hadd : ∀ {k : Int} {x t : List UInt8}, addI n ⟨l, out, opn⟩ k x t = .ok st' → addI (n + (r.length + 1)) ⟨l ++ 10 :: r, out, opn⟩ k x (t ++ 10 :: r) = .ok ⟨st'.l ++ 10 :: r, st'.out, st'.opn⟩ := by
    intro k x t h
    unfold addI at h ⊢
    split at h
    · cases h
    · rename_i hd
      cases h
      rw [if_neg hd]
      simp only [List.length_append, List.length_cons, hp]
  have hnw : ∀ c t, 10 :: r = c :: t → isWord c = false := fun c t e => by cases e; decide
  unfold stepL at h ⊢
  cases l with
  | nil => cases h
  | cons c t =>
    simp only [List.cons_append] at h ⊢
    split at h
    · rename_i hb; rw [if_pos hb]; cases h; rfl
    rename_i hb; rw [if_neg hb]
    split at h
    · rename_i hc
      rw [if_pos hc]
      cases h
      rw [drop_app (fun c t e => by cases e; decide)]
    rename_i hc; rw [if_neg hc]
    split at h
    · rename_i hc2
      rw [if_pos hc2]
      split at h
      · cases h
      · rename_i ho; rw [if_neg ho]; cases h; rfl
    rename_i hc2; rw [if_neg hc2]
    split at h
    · rename_i hc3; rw [if_pos hc3]; exact hadd h
    rename_i hc3; rw [if_neg hc3]
    split at h
    · rename_i hc4
      rw [if_pos hc4]
      split at h
      · cases h
      · rename_i v x hs
        rw [strL_app (fun c t e => by cases e; decide) hs]
        exact hadd h
    rename_i hc4; rw [if_neg hc4]
    split at h
    · rename_i hw
      rw [if_pos hw]
      have e1 := take_app hnw (c :: t)
      have e2 := drop_app hnw (c :: t)
      rw [List.cons_append] at e1 e2
      rw [e1, e2]
      split at h
      · cases h
      · rename_i hk; rw [if_neg hk]; exact hadd h
    · cases h
theorem reach_app {n : Nat} (r : List UInt8) {st st' : St} (h : Reach n st st') : Reach (n + (r.length + 1)) ⟨st.l ++ 10 :: r, st.out, st.opn⟩ ⟨st'.l ++ 10 :: r, st'.out, st'.opn⟩ := by
  induction h with
  | refl => exact .refl _
  | step h _ ih => exact .step (step_app r h) ih

/-! Items ahead. -/
def sh (d : Nat) (x : It) : It := { x with pos := x.pos + (d : Int) }
theorem bump_pre (pre out : List It) (j : Nat) : bump (pre ++ out) (pre.length + j) = pre ++ bump out j := by
  apply List.ext_getElem?
  intro i
  unfold bump
  rw [List.getElem?_modify]
  by_cases hi : i < pre.length
  · rw [List.getElem?_append_left hi, List.getElem?_append_left hi]
    have h : ¬ pre.length + j = i := by omega
    cases pre[i]? <;> simp [h]
  · rw [List.getElem?_append_right (by omega), List.getElem?_append_right (by omega), List.getElem?_modify]
    by_cases hj : j = i - pre.length
    · have h : pre.length + j = i := by omega
      subst hj
      cases out[i - pre.length]? <;> simp [h]
    · have h : ¬ pre.length + j = i := by omega
      simp only [h, hj]
theorem addI_mk {n : Nat} {st : St} {k : Int} {x l : List UInt8} (h : st.opn.length ≤ 256) : addI n st k x l = .ok ⟨l, outsOf st.out st.opn ⟨k, mk x, 0, ((n - st.l.length : Nat) : Int)⟩, opnOf st.out st.opn k⟩ := by
  rw [addI, if_neg (by omega)]
  rfl
theorem bump_sh (d : Nat) (out : List It) (j : Nat) : bump (out.map (sh d)) j = (bump out j).map (sh d) := by
  apply List.ext_getElem?
  intro i
  unfold bump
  rw [List.getElem?_modify, List.getElem?_map, List.getElem?_map, List.getElem?_modify]
  cases out[i]? with
  | none => simp
  | some x => by_cases h : j = i <;> simp [h, sh]
theorem outs_pre (d : Nat) (pre out : List It) (opn : List Nat) (x : It) : outsOf (pre ++ out.map (sh d)) (opn.map (pre.length + ·)) (sh d x) = pre ++ (outsOf out opn x).map (sh d) := by
  unfold outsOf
  rw [List.getLast?_map, List.map_append, ← List.append_assoc]
  cases opn.getLast? with
  | none => rfl
  | some j =>
    show bump (pre ++ out.map (sh d)) (pre.length + j) ++ [sh d x] = _
    rw [bump_pre, bump_sh]
    rfl
theorem opn_pre (d : Nat) (pre out : List It) (opn : List Nat) (k : Int) : opnOf (pre ++ out.map (sh d)) (opn.map (pre.length + ·)) k = (opnOf out opn k).map (pre.length + ·) := by
  unfold opnOf
  split
  · rw [List.map_append, List.length_append, List.length_map]; rfl
  · rfl
theorem step_pre {n : Nat} (d : Nat) (pre : List It) {st st' : St} (hn : st.l.length ≤ n) (h : stepL n st = .ok st') :
    stepL (n + d) ⟨st.l, pre ++ st.out.map (sh d), st.opn.map (pre.length + ·)⟩ = .ok ⟨st'.l, pre ++ st'.out.map (sh d), st'.opn.map (pre.length + ·)⟩ := by
  obtain ⟨l, out, opn⟩ := st
  have hadd : ∀ {k : Int} {x t : List UInt8}, addI n ⟨l, out, opn⟩ k x t = .ok st' → addI (n + d) ⟨l, pre ++ out.map (sh d), opn.map (pre.length + ·)⟩ k x t = .ok ⟨st'.l, pre ++ st'.out.map (sh d), st'.opn.map (pre.length + ·)⟩ := by
    intro k x t h
    obtain ⟨rfl, hd⟩ := addI_okA h
    have hd' : opn.length ≤ 256 := hd
    rw [addI_mk (by show (opn.map _).length ≤ 256; rw [List.length_map]; exact hd')]
    have e1 : ((n + d - l.length : Nat) : Int) = ((n - l.length : Nat) : Int) + (d : Int) := by
      have : l.length ≤ n := hn
      omega
    have e2 := outs_pre d pre out opn ⟨k, mk x, 0, ((n - l.length : Nat) : Int)⟩
    have e3 := opn_pre d pre out opn k
    simp only [e1, e3]
    rw [← e2]
    rfl
  unfold stepL at h ⊢
  cases l with
  | nil => cases h
  | cons c t =>
    simp only at h ⊢
    split at h
    · rename_i hb; rw [if_pos hb]; cases h; rfl
    rename_i hb; rw [if_neg hb]
    split at h
    · rename_i hc; rw [if_pos hc]; cases h; rfl
    rename_i hc; rw [if_neg hc]
    split at h
    · rename_i hc2
      rw [if_pos hc2]
      split at h
      · cases h
      · rename_i ho
        rw [if_neg (by rw [List.map_eq_nil_iff]; exact ho)]
        cases h
        simp only [List.map_dropLast]
    rename_i hc2; rw [if_neg hc2]
    split at h
    · rename_i hc3; rw [if_pos hc3]; exact hadd h
    rename_i hc3; rw [if_neg hc3]
    split at h
    · rename_i hc4
      rw [if_pos hc4]
      split at h
      · cases h
      · exact hadd h
    rename_i hc4; rw [if_neg hc4]
    split at h
    · rename_i hw
      rw [if_pos hw]
      split at h
      · cases h
      · rename_i hk; rw [if_neg hk]; exact hadd h
    · cases h
theorem reach_pre {n : Nat} (d : Nat) (pre : List It) {st st' : St} (hn : st.l.length ≤ n) (h : Reach n st st') :
    Reach (n + d) ⟨st.l, pre ++ st.out.map (sh d), st.opn.map (pre.length + ·)⟩ ⟨st'.l, pre ++ st'.out.map (sh d), st'.opn.map (pre.length + ·)⟩ := by
  induction h with
  | refl => exact .refl _
  | step h _ ih => exact .step (step_pre d pre hn h) (ih (Nat.le_trans (Nat.le_of_lt (stepL_lt h)) hn))

theorem strip_sh (d : Nat) (x : It) : strip (sh d x) = strip x := rfl
/-- Two texts and a line feed between them. -/
theorem parse_concat {s t : ByteArray} {a b : List It} (hs : parse s = .ok a) (ht : parse t = .ok b) (hz : s.size + 1 + t.size ≤ 65536) {u : ByteArray} (hu : bs u = bs s ++ 10 :: bs t) :
    ∃ c, parse u = .ok c ∧ c.map strip = (a ++ b).map strip := by
  have hzu : u.size = s.size + (t.size + 1) := by rw [size_bs, hu, List.length_append, List.length_cons, ← size_bs, ← size_bs]
  unfold parse at hs ht ⊢
  rw [if_neg (by omega)] at hs ht ⊢
  have r1 := reach_app (bs t) (reach_of _ _ (Nat.le_refl _) hs)
  have r2 := reach_pre (s.size + 1) a (by show (bs t).length ≤ t.size; rw [size_bs]; exact Nat.le_refl _) (reach_of _ _ (Nat.le_refl _) ht)
  simp only [List.map_nil, List.append_nil, List.nil_append] at r1 r2
  rw [hzu, hu]
  have e1 : s.size + ((bs t).length + 1) = s.size + (t.size + 1) := by rw [← size_bs]
  have e2 : t.size + (s.size + 1) = s.size + (t.size + 1) := by omega
  rw [e1] at r1
  rw [e2] at r2
  refine ⟨a ++ b.map (sh (s.size + 1)), ?_, ?_⟩
  · rw [r1.parse, (Reach.one (st_blank _ 10 _ _ _ (by decide))).parse, r2.parse, parseL_nil rfl]
    rfl
  · rw [List.map_append, List.map_append, List.map_map]
    rfl
end Go.Proofs.Sx
