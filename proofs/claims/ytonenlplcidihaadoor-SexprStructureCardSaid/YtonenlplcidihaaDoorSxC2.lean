/- Part of the proof: SxC2. -/
import Derived.Test.YtonenlplcidihaaDoorSxC
/-! The text of a forest is parsed. In plain Lean. -/
namespace Go.Proofs.Sx
open Go Go.V Go.Proofs Go.RowKit
set_option maxRecDepth 100000

/-- How deep lists may stand around: as it is counted by the parsers. -/
def Fo.edep : Fo → Nat
  | .nil => 0
  | .leaf _ _ r => max 1 r.edep
  | .list c r => max (c.edep + 1) r.edep
theorem edep_le (f : Fo) : f.edep ≤ f.dep + 1 := by
  induction f with
  | nil => exact Nat.zero_le _
  | leaf k t r ih => simp only [Fo.edep, Fo.dep]; omega
  | list c r ih1 ih2 => simp only [Fo.edep, Fo.dep]; omega

/-- k elements more. -/
def addK (out : List It) (opn : List Nat) (k : Nat) : List It := match opn.getLast? with
  | some j => out.modify j fun x => { x with kids := x.kids + (k : Int) }
  | none => out
theorem addK_zero (out : List It) (opn : List Nat) : addK out opn 0 = out := by
  unfold addK
  split
  · rename_i j _
    apply List.ext_getElem?
    intro i
    rw [List.getElem?_modify]
    cases out[i]? with
    | none => rfl
    | some x => by_cases h : j = i <;> simp
  · rfl
theorem addK_len (out : List It) (opn : List Nat) (k : Nat) : (addK out opn k).length = out.length := by
  unfold addK
  split
  · exact List.length_modify ..
  · rfl
theorem addK_app {out : List It} {opn : List Nat} (ho : ∀ j ∈ opn, j < out.length) (k : Nat) (xs : List It) : addK (out ++ xs) opn k = addK out opn k ++ xs := by
  unfold addK
  split
  · rename_i j hj
    have hjl := ho j (List.mem_of_getLast? hj)
    apply List.ext_getElem?
    intro i
    rw [List.getElem?_modify]
    by_cases hi : i < out.length
    · rw [List.getElem?_append_left hi, List.getElem?_append_left (by rw [List.length_modify]; exact hi), List.getElem?_modify]
    · rw [List.getElem?_append_right (by omega), List.getElem?_append_right (by rw [List.length_modify]; omega), List.length_modify]
      have h : ¬ j = i := by omega
      cases xs[i - out.length]? <;> simp [h]
  · rfl
theorem addK_add (out : List It) (opn : List Nat) (k m : Nat) : addK (addK out opn k) opn m = addK out opn (k + m) := by
  unfold addK
  split
  · rename_i j _
    apply List.ext_getElem?
    intro i
    rw [List.getElem?_modify, List.getElem?_modify, List.getElem?_modify]
    cases out[i]? with
    | none => rfl
    | some x =>
      by_cases h : j = i <;> simp [h]
      rw [Int.add_assoc]
  · rfl
theorem addK_last (out : List It) (opn : List Nat) (x : It) (k : Nat) : addK (out ++ [x]) (opn ++ [out.length]) k = out ++ [{ x with kids := x.kids + (k : Int) }] := by
  unfold addK
  rw [List.getLast?_concat]
  apply List.ext_getElem?
  intro i
  rw [List.getElem?_modify]
  by_cases hi : i < out.length
  · rw [List.getElem?_append_left hi, List.getElem?_append_left hi]
    have h : ¬ out.length = i := by omega
    cases out[i]? <;> simp [h]
  · rw [List.getElem?_append_right (by omega), List.getElem?_append_right (by omega)]
    by_cases h : out.length = i
    · subst h; simp
    · have : i - out.length ≠ 0 := by omega
      obtain ⟨m, hm⟩ : ∃ m, i - out.length = m + 1 := ⟨i - out.length - 1, by omega⟩
      rw [hm]; rfl
theorem strip_bump (out : List It) (j : Nat) : (bump out j).map strip = (out.map strip).modify j fun x => { x with kids := x.kids + (1 : Nat) } := by
  apply List.ext_getElem?
  intro i
  unfold bump
  rw [List.getElem?_map, List.getElem?_modify, List.getElem?_modify, List.getElem?_map]
  cases out[i]? with
  | none => rfl
  | some x => by_cases h : j = i <;> simp [h, strip]
theorem strip_outs (out : List It) (opn : List Nat) (x : It) : (outsOf out opn x).map strip = addK (out.map strip) opn 1 ++ [strip x] := by
  unfold outsOf addK
  rw [List.map_append]
  cases opn.getLast? with
  | none => rfl
  | some j =>
    show (bump out j).map strip ++ _ = _
    rw [strip_bump]; rfl
theorem outs_len (out : List It) (opn : List Nat) (x : It) : (outsOf out opn x).length = out.length + 1 := by
  unfold outsOf
  rw [List.length_append]
  split
  · rw [bump_len]; rfl
  · rfl

/-- A text that may stand behind an item. -/
def Stop (r : List UInt8) : Prop := ∀ c t, r = c :: t → isWord c = false ∧ c ≠ 34
theorem Stop.cons {c : UInt8} {t : List UInt8} (h : isWord c = false) (h2 : c ≠ 34) : Stop (c :: t) := fun _ _ e => by cases e; exact ⟨h, h2⟩
theorem strL_esc {t : List UInt8} (ht : t.all isPrint = true) {r : List UInt8} (hr : Stop r) : strL (esc t ++ 34 :: r) = some (t, r) := by
  induction t with
  | nil =>
    cases r with
    | nil => rfl
    | cons d t' =>
      have hd := (hr d t' rfl).2
      show strL (34 :: d :: t') = _
      unfold strL
      rw [if_pos rfl, if_neg hd]
  | cons c t ih =>
    rw [List.all_cons, Bool.and_eq_true] at ht
    have ih := ih ht.2
    unfold esc
    split
    · rename_i hc
      subst hc
      show strL (34 :: 34 :: (esc t ++ 34 :: r)) = _
      unfold strL
      rw [if_pos rfl, if_pos rfl, ih]; rfl
    · rename_i hc
      rw [List.cons_append]
      obtain ⟨d, u, hd⟩ : ∃ d u, esc t ++ 34 :: r = d :: u := by
        cases he : esc t ++ 34 :: r with
        | nil => simp at he
        | cons d u => exact ⟨d, u, rfl⟩
      rw [hd] at ih ⊢
      unfold strL
      rw [if_neg hc, if_pos ht.1, ih]; rfl
theorem take_all {p : UInt8 → Bool} : ∀ {l : List UInt8}, l.all p = true → l.takeWhile p = l
  | [], _ => rfl
  | c :: l, h => by
    rw [List.all_cons, Bool.and_eq_true] at h
    rw [List.takeWhile_cons, if_pos h.1, take_all h.2]
theorem drop_all {p : UInt8 → Bool} : ∀ {l : List UInt8}, l.all p = true → l.dropWhile p = []
  | [], _ => rfl
  | c :: l, h => by
    rw [List.all_cons, Bool.and_eq_true] at h
    rw [List.dropWhile_cons, if_pos h.1, drop_all h.2]
/-- The text of a leaf is read. -/
theorem st_leaf (n : Nat) {k : Int} {t : ByteArray} (hk : okLeaf k (bs t) = true) {r : List UInt8} (hr : Stop r) (out : List It) {opn : List Nat} (hd : opn.length ≤ 256) :
    ∃ p, stepL n ⟨ltxt k (bs t) ++ r, out, opn⟩ = .ok ⟨r, outsOf out opn ⟨k, t, 0, p⟩, opn⟩ := by
  unfold okLeaf at hk
  split at hk
  · rename_i h4
    subst h4
    unfold ltxt
    rw [if_pos rfl, List.cons_append, List.append_assoc, List.singleton_append]
    exact ⟨_, by rw [st_str n _ out opn (strL_esc hk hr) hd, mk_bs]⟩
  · rename_i h4
    unfold ltxt
    rw [if_neg h4]
    split at hk
    · rename_i h123
      rw [Bool.and_eq_true, Bool.and_eq_true, decide_eq_true_eq] at hk
      obtain ⟨⟨hne, hw⟩, hkw⟩ := hk
      have hstop : ∀ c t, r = c :: t → isWord c = false := fun c t e => (hr c t e).1
      have e1 : (bs t ++ r).takeWhile isWord = bs t := by
        rw [take_app hstop, take_all hw]
      have e2 : (bs t ++ r).dropWhile isWord = r := by
        rw [drop_app hstop, drop_all hw]; rfl
      cases hb : bs t with
      | nil => rw [hb] at hne; cases hne
      | cons c u =>
        rw [hb] at e1 e2 hw hkw
        rw [List.cons_append] at e1 e2 ⊢
        rw [List.all_cons, Bool.and_eq_true] at hw
        have h9 := st_word n c (u ++ r) out opn hw.1 (by rw [e1, hkw]; omega) hd
        rw [e1, e2, hkw, ← hb, mk_bs] at h9
        exact ⟨_, h9⟩
    · cases hk

/-- The text of a forest is read. -/
theorem read_fo (n : Nat) : ∀ (f : Fo), f.good → ∀ (out : List It) (opn : List Nat) (r : List UInt8), Stop r → (∀ j ∈ opn, j < out.length) → opn.length + f.edep ≤ 257 →
    ∃ out', Reach n ⟨f.more.tail ++ r, out, opn⟩ ⟨r, out', opn⟩ ∧ out'.map strip = addK (out.map strip) opn f.cnt ++ f.flat
  | .nil, _, out, opn, r, _, _, _ => ⟨out, .refl _, by rw [show Fo.nil.cnt = 0 from rfl, addK_zero]; simp [Fo.flat]⟩
  | .leaf k t f, hg, out, opn, r, hr, ho, hd => by
    have hd1 : opn.length + 1 ≤ 257 := by have : 1 ≤ (Fo.leaf k t f).edep := Nat.le_max_left _ _; omega
    have hd2 : opn.length + f.edep ≤ 257 := by have : f.edep ≤ (Fo.leaf k t f).edep := Nat.le_max_right _ _; omega
    have hop : ∀ j ∈ opn, j < (out.map strip).length := fun j hj => by rw [List.length_map]; exact ho j hj
    have hop1 : ∀ j ∈ opn, j < (addK (out.map strip) opn 1).length := fun j hj => by rw [addK_len]; exact hop j hj
    have hsr : Stop (f.more ++ r) := by
      cases f with
      | nil => exact hr
      | leaf k t g => exact .cons (by decide) (by decide)
      | list c g => exact .cons (by decide) (by decide)
    obtain ⟨p, hp⟩ := st_leaf n hg.1 hsr out (opn := opn) (by omega)
    obtain ⟨o2, hr2, ho2⟩ := read_fo n f hg.2.2 (outsOf out opn ⟨k, t, 0, p⟩) opn r hr (fun j hj => by rw [outs_len]; have := ho j hj; omega) hd2
    refine ⟨o2, ?_, ?_⟩
    · have e1 : (Fo.leaf k t f).more.tail ++ r = ltxt k (bs t) ++ (f.more ++ r) := by simp [Fo.more]
      rw [e1]
      refine .step hp ?_
      cases f with
      | nil => exact hr2
      | leaf k t g => exact .step (st_blank n 32 _ _ _ (by decide)) hr2
      | list c g => exact .step (st_blank n 32 _ _ _ (by decide)) hr2
    · rw [ho2, strip_outs, addK_app hop1, addK_add, List.append_assoc]
      show addK _ _ (1 + f.cnt) ++ ([(⟨k, t, 0, 0⟩ : It)] ++ f.flat) = addK _ _ (f.cnt + 1) ++ _
      rw [Nat.add_comm 1]; rfl
  | .list c f, hg, out, opn, r, hr, ho, hd => by
    have hd1 : opn.length + (c.edep + 1) ≤ 257 := by have : c.edep + 1 ≤ (Fo.list c f).edep := Nat.le_max_left _ _; omega
    have hd2 : opn.length + f.edep ≤ 257 := by have : f.edep ≤ (Fo.list c f).edep := Nat.le_max_right _ _; omega
    have hop : ∀ j ∈ opn, j < (out.map strip).length := fun j hj => by rw [List.length_map]; exact ho j hj
    have hop1 : ∀ j ∈ opn, j < (addK (out.map strip) opn 1).length := fun j hj => by rw [addK_len]; exact hop j hj
    have e1 : (Fo.list c f).more.tail ++ r = 40 :: (c.more.tail ++ 41 :: (f.more ++ r)) := by simp [Fo.more]
    have h1 := st_open n (c.more.tail ++ 41 :: (f.more ++ r)) out opn (by omega)
    obtain ⟨o2, hr2, ho2⟩ := read_fo n c hg.1 (outsOf out opn ⟨5, mk [], 0, ((n - ((c.more.tail ++ 41 :: (f.more ++ r)).length + 1) : Nat) : Int)⟩) (opn ++ [out.length]) (41 :: (f.more ++ r)) (.cons (by decide) (by decide))
      (fun j hj => by
        rw [outs_len]
        rcases List.mem_append.1 hj with hj | hj
        · have := ho j hj; omega
        · rw [List.mem_singleton.1 hj]; omega) (by rw [List.length_append]; simp only [List.length_cons, List.length_nil]; omega)
    have h3 := st_close n (f.more ++ r) o2 (opn ++ [out.length]) (by simp)
    rw [List.dropLast_concat] at h3
    have hl2 : o2.length = out.length + 1 + c.flat.length := by
      have := congrArg List.length ho2
      rw [List.length_map, List.length_append, addK_len, List.length_map, outs_len] at this
      exact this
    obtain ⟨o4, hr4, ho4⟩ := read_fo n f hg.2 o2 opn r hr (fun j hj => by have := ho j hj; omega) hd2
    refine ⟨o4, ?_, ?_⟩
    · rw [e1]
      refine .step h1 (hr2.trans (.step h3 ?_))
      cases f with
      | nil => exact hr4
      | leaf k t g => exact .step (st_blank n 32 _ _ _ (by decide)) hr4
      | list c g => exact .step (st_blank n 32 _ _ _ (by decide)) hr4
    · have e2 : out.length = (addK (out.map strip) opn 1).length := by rw [addK_len, List.length_map]
      rw [ho4, ho2, strip_outs]
      conv => lhs; arg 1; arg 1; arg 1; arg 2; rw [e2]
      rw [addK_last, List.append_assoc, addK_app hop1, addK_add, List.append_assoc]
      show addK _ _ (1 + f.cnt) ++ ([(⟨5, mk [], 0 + (c.cnt : Int), 0⟩ : It)] ++ c.flat ++ f.flat) = addK _ _ (f.cnt + 1) ++ _
      rw [Nat.add_comm 1, Int.zero_add]
      simp [Fo.flat]

/-- The lines of a forest are read. -/
theorem read_lines (n : Nat) : ∀ (f : Fo), f.good → ∀ (out : List It), f.edep ≤ 257 → ∃ out', Reach n ⟨f.lines, out, []⟩ ⟨[], out', []⟩ ∧ out'.map strip = out.map strip ++ f.flat
  | .nil, _, out, _ => ⟨out, .refl _, by simp [Fo.flat]⟩
  | .leaf k t f, hg, out, hd => by
    have hd2 : f.edep ≤ 257 := Nat.le_trans (Nat.le_max_right _ _) hd
    obtain ⟨o1, hr1, ho1⟩ := read_fo n (.leaf k t .nil) ⟨hg.1, hg.2.1, trivial⟩ out [] (10 :: f.lines) (.cons (by decide) (by decide)) (fun j hj => (List.not_mem_nil hj).elim) (by show 0 + 1 ≤ 257; omega)
    obtain ⟨o2, hr2, ho2⟩ := read_lines n f hg.2.2 o1 hd2
    refine ⟨o2, ?_, ?_⟩
    · have e1 : (Fo.leaf k t .nil).more.tail ++ 10 :: f.lines = (Fo.leaf k t f).lines := by simp [Fo.more, Fo.lines]
      rw [e1] at hr1
      exact hr1.trans (.step (st_blank n 10 _ _ _ (by decide)) hr2)
    · rw [ho2, ho1]
      simp [addK, Fo.flat]
  | .list c f, hg, out, hd => by
    have hd1 : c.edep + 1 ≤ 257 := Nat.le_trans (Nat.le_max_left _ _) hd
    have hd2 : f.edep ≤ 257 := Nat.le_trans (Nat.le_max_right _ _) hd
    obtain ⟨o1, hr1, ho1⟩ := read_fo n (.list c .nil) ⟨hg.1, trivial⟩ out [] (10 :: f.lines) (.cons (by decide) (by decide)) (fun j hj => (List.not_mem_nil hj).elim) (by show 0 + max (c.edep + 1) 0 ≤ 257; omega)
    obtain ⟨o2, hr2, ho2⟩ := read_lines n f hg.2 o1 hd2
    refine ⟨o2, ?_, ?_⟩
    · have e1 : (Fo.list c .nil).more.tail ++ 10 :: f.lines = (Fo.list c f).lines := by simp [Fo.more, Fo.lines]
      rw [e1] at hr1
      exact hr1.trans (.step (st_blank n 10 _ _ _ (by decide)) hr2)
    · rw [ho2, ho1]
      simp [addK, Fo.flat]
theorem parse_lines {f : Fo} (hg : f.good) (hd : f.edep ≤ 257) {s : ByteArray} (hs : bs s = f.lines) (hz : s.size ≤ 65536) : ∃ out, parse s = .ok out ∧ out.map strip = f.flat := by
  obtain ⟨o, hr, ho⟩ := read_lines s.size f hg [] hd
  refine ⟨o, ?_, by simpa using ho⟩
  unfold parse
  rw [if_neg (by omega), hs, hr.parse, parseL_nil rfl]
  rfl
end Go.Proofs.Sx
