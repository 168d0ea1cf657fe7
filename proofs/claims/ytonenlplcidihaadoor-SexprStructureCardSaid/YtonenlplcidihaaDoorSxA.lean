/- Part of the proof: SxA. -/
import Derived.Test.YtonenlplcidihaaDoorSxH4
/-! Where the items stand that are parsed. -/
namespace Go.Proofs.Sx
open Go Go.V Go.Proofs Go.RowKit
set_option maxRecDepth 100000

/-- What holds at the start and through each step holds at the end. -/
theorem parseL_inv {n : Nat} {P : St → Prop} (hs : ∀ st st', P st → stepL n st = .ok st' → P st') : ∀ (m : Nat) (st : St), st.l.length ≤ m → P st → ∀ {out : List It}, parseL n st = .ok out → ∃ st', P st' ∧ st'.l = [] ∧ st'.opn = [] ∧ st'.out = out := by
  intro m
  induction m with
  | zero =>
    intro st hm hp out h
    have hl : st.l = [] := List.eq_nil_of_length_eq_zero (by omega)
    rw [parseL_nil hl] at h
    split at h
    · rename_i ho; cases h; exact ⟨st, hp, hl, ho, rfl⟩
    · cases h
  | succ m ih =>
    intro st hm hp out h
    by_cases hl : st.l = []
    · rw [parseL_nil hl] at h
      split at h
      · rename_i ho; cases h; exact ⟨st, hp, hl, ho, rfl⟩
      · cases h
    · cases hst : stepL n st with
      | error e => rw [parseL_err hl hst] at h; cases h
      | ok st' =>
        rw [parseL_ok hst] at h
        have := stepL_lt hst
        exact ih st' (by omega) (hs st st' hp hst) h
theorem addI_okA {n : Nat} {st st' : St} {k : Int} {x l : List UInt8} (h : addI n st k x l = .ok st') :
    st' = ⟨l, outsOf st.out st.opn ⟨k, mk x, 0, ((n - st.l.length : Nat) : Int)⟩, opnOf st.out st.opn k⟩ ∧ st.opn.length ≤ 256 := by
  unfold addI at h
  split at h
  · cases h
  · rename_i hlt
    cases h
    exact ⟨rfl, by omega⟩
/-- How a step goes on. -/
inductive Step (n : Nat) (st : St) : St → Prop
  | skip (l : List UInt8) (h : l <:+ st.l) : Step n st { st with l := l }
  | close (t : List UInt8) (h : st.l = 41 :: t) (ho : st.opn ≠ []) : Step n st { st with l := t, opn := st.opn.dropLast }
  | opn (t : List UInt8) (h : st.l = 40 :: t) (hd : st.opn.length ≤ 256) : Step n st ⟨t, outsOf st.out st.opn ⟨5, mk [], 0, ((n - st.l.length : Nat) : Int)⟩, st.opn ++ [st.out.length]⟩
  | str (t v r : List UInt8) (h : st.l = 34 :: t) (hs : strL t = some (v, r)) (hd : st.opn.length ≤ 256) : Step n st ⟨r, outsOf st.out st.opn ⟨4, mk v, 0, ((n - st.l.length : Nat) : Int)⟩, st.opn⟩
  | word (c : UInt8) (t : List UInt8) (h : st.l = c :: t) (hw : isWord c = true) (hk : kindW (st.l.takeWhile isWord) ≠ 0) (hd : st.opn.length ≤ 256) :
      Step n st ⟨st.l.dropWhile isWord, outsOf st.out st.opn ⟨kindW (st.l.takeWhile isWord), mk (st.l.takeWhile isWord), 0, ((n - st.l.length : Nat) : Int)⟩, st.opn⟩
theorem kindW_range (l : List UInt8) : kindW l = 0 ∨ kindW l = 1 ∨ kindW l = 2 ∨ kindW l = 3 := by
  unfold kindW
  split
  · exact .inl rfl
  · split
    · simp only
      split
      · split
        · exact .inr (.inr (.inr rfl))
        · exact .inl rfl
      · split
        · exact .inr (.inr (.inl rfl))
        · exact .inl rfl
    · exact .inr (.inl rfl)
theorem step_of {n : Nat} {st st' : St} (h : stepL n st = .ok st') : Step n st st' := by
  unfold stepL at h
  split at h
  · cases h
  rename_i c t hl
  split at h
  · cases h; exact .skip t (by rw [hl]; exact List.suffix_cons _ _)
  split at h
  · cases h; exact .skip _ (by rw [hl]; exact (List.dropWhile_suffix _).trans (List.suffix_cons _ _))
  split at h
  · rename_i hc
    split at h
    · cases h
    · rename_i ho
      cases h
      exact .close t (by rw [hl, hc]) ho
  split at h
  · rename_i hc
    obtain ⟨rfl, hd⟩ := addI_okA h
    exact .opn t (by rw [hl, hc]) hd
  split at h
  · rename_i hc
    split at h
    · cases h
    · rename_i v r hs
      obtain ⟨rfl, hd⟩ := addI_okA h
      exact .str t v r (by rw [hl, hc]) hs hd
  split at h
  · rename_i hw
    split at h
    · cases h
    · rename_i hk
      obtain ⟨rfl, hd⟩ := addI_okA h
      have h5 : kindW (st.l.takeWhile isWord) ≠ 5 := by
        rcases kindW_range (st.l.takeWhile isWord) with h | h | h | h <;> omega
      have := Step.word (n := n) c t hl hw hk hd
      unfold opnOf
      rw [if_neg h5]
      exact this
  · cases h
theorem strL_suffix {l v r : List UInt8} (h : strL l = some (v, r)) : r <:+ l := by
  obtain ⟨m, rfl⟩ := strL_drop h
  exact List.drop_suffix _ _
theorem Step.suffix {n : Nat} {st st' : St} (h : Step n st st') : st'.l <:+ st.l := by
  cases h with
  | skip l h => exact h
  | close t h ho => rw [h]; exact List.suffix_cons _ _
  | opn t h hd => rw [h]; exact List.suffix_cons _ _
  | str t v r h hs hd => rw [h]; exact (strL_suffix hs).trans (List.suffix_cons _ _)
  | word c t h hw hk hd => exact List.dropWhile_suffix _
/-- Items, but for how many elements they have. -/
theorem outs_cases {out : List It} {opn : List Nat} {x y : It} (h : y ∈ outsOf out opn x) : y = x ∨ ∃ z ∈ out, y.kind = z.kind ∧ y.text = z.text ∧ y.pos = z.pos := by
  unfold outsOf at h
  rcases List.mem_append.1 h with h | h
  · right
    split at h
    · rename_i j _
      obtain ⟨i, hi⟩ := List.getElem?_of_mem h
      rw [bump, List.getElem?_modify] at hi
      split at hi
      · cases ho : out[i]? with
        | none => rw [ho] at hi; cases hi
        | some z => rw [ho] at hi; cases hi; exact ⟨z, List.mem_of_getElem? ho, rfl, rfl, rfl⟩
      · exact ⟨y, List.mem_of_getElem? (by simpa using hi), rfl, rfl, rfl⟩
    · exact ⟨y, h, rfl, rfl, rfl⟩
  · exact .inl (List.mem_singleton.1 h)
theorem map_bump {α : Type} (f : It → α) (hf : ∀ x : It, f { x with kids := x.kids + 1 } = f x) (l : List It) (j : Nat) : (bump l j).map f = l.map f := by
  apply List.ext_getElem?
  intro i
  rw [List.getElem?_map, List.getElem?_map, bump, List.getElem?_modify]
  cases l[i]? with
  | none => simp
  | some x => by_cases h : j = i <;> simp [h, hf]
theorem map_outs {α : Type} (f : It → α) (hf : ∀ x : It, f { x with kids := x.kids + 1 } = f x) (out : List It) (opn : List Nat) (x : It) : (outsOf out opn x).map f = out.map f ++ [f x] := by
  unfold outsOf
  rw [List.map_append]
  split
  · rw [map_bump f hf]; rfl
  · rfl

/-- An item stands where it says. -/
def PosOk (s : ByteArray) (x : It) : Prop := ∃ q : Nat, x.pos = (q : Int) ∧ q < s.size ∧ (x.kind = 5 → (bs s).getD q 0 = 40) ∧ (x.kind = 4 → (bs s).getD q 0 = 34) ∧
  (x.kind ≠ 5 → x.kind ≠ 4 → bs x.text ≠ [] ∧ bs x.text <+: rest s q)
theorem PosOk.like {s : ByteArray} {x y : It} (h : PosOk s x) (h1 : y.kind = x.kind) (h2 : y.text = x.text) (h3 : y.pos = x.pos) : PosOk s y := by
  unfold PosOk
  rw [h1, h2, h3]
  exact h
theorem suffix_rest {s : ByteArray} {l : List UInt8} (h : l <:+ bs s) : l = rest s (s.size - l.length) := by
  rw [rest, size_bs]
  exact List.suffix_iff_eq_drop.1 h
theorem parse_pos {s : ByteArray} {out : List It} (h : parse s = .ok out) : (∀ x ∈ out, PosOk s x) ∧ (out.map It.pos).Pairwise (· < ·) := by
  unfold parse at h
  split at h
  · cases h
  have step0 : ∀ st st', (fun st : St => st.l <:+ bs s ∧ (∀ x ∈ st.out, PosOk s x ∧ x.pos < ((s.size - st.l.length : Nat) : Int)) ∧ (st.out.map It.pos).Pairwise (· < ·)) st → stepL s.size st = .ok st' → (fun st : St => st.l <:+ bs s ∧ (∀ x ∈ st.out, PosOk s x ∧ x.pos < ((s.size - st.l.length : Nat) : Int)) ∧ (st.out.map It.pos).Pairwise (· < ·)) st' := by
    rintro st st' ⟨hsuf, hp, hw⟩ hst
    have hlt := stepL_lt hst
    have hstep := step_of hst
    have hsuf' := hstep.suffix.trans hsuf
    have hlen := hsuf.length_le
    rw [← size_bs] at hlen
    refine ⟨hsuf', ?_⟩
    have old : ∀ z ∈ st.out, PosOk s z ∧ z.pos < ((s.size - st'.l.length : Nat) : Int) := fun z hz => ⟨(hp z hz).1, by have := (hp z hz).2; omega⟩
    -- an item is put behind
    have put : ∀ (x : It) (o : List Nat), st'.out = outsOf st.out o x → x.pos = ((s.size - st.l.length : Nat) : Int) → PosOk s x →
        (∀ y ∈ st'.out, PosOk s y ∧ y.pos < ((s.size - st'.l.length : Nat) : Int)) ∧ (st'.out.map It.pos).Pairwise (· < ·) := by
      intro x o ho hx hx2
      rw [ho]
      refine ⟨fun y hy => ?_, ?_⟩
      · rcases outs_cases hy with rfl | ⟨z, hz, h1, h2, h3⟩
        · exact ⟨hx2, by rw [hx]; omega⟩
        · have := old z hz
          exact ⟨this.1.like h1 h2 h3, by rw [h3]; exact this.2⟩
      · rw [map_outs It.pos (fun _ => rfl), List.pairwise_append]
        refine ⟨hw, List.pairwise_singleton _ _, fun a ha b hb => ?_⟩
        obtain ⟨z, hz, rfl⟩ := List.mem_map.1 ha
        rw [List.mem_singleton.1 hb, hx]
        exact (hp z hz).2
    have hr := suffix_rest hsuf
    have get : ∀ c t, st.l = c :: t → s.size - st.l.length < s.size ∧ (bs s).getD (s.size - st.l.length) 0 = c := by
      intro c t hl
      have h0 : 0 < st.l.length := by rw [hl]; simp
      have h1 : s.size - st.l.length < s.size := by omega
      refine ⟨h1, ?_⟩
      have h2 := rest_cons h1
      rw [← hr, hl] at h2
      rw [hl]
      exact (List.cons.inj h2).1.symm
    cases hstep with
    | skip l h => exact ⟨old, hw⟩
    | close t h ho => exact ⟨old, hw⟩
    | opn t h hd =>
      obtain ⟨h1, h2⟩ := get _ _ h
      exact put _ _ rfl rfl ⟨_, rfl, h1, fun _ => h2, fun e => absurd e (by show (5 : Int) ≠ 4; omega), fun e => absurd rfl e⟩
    | str t v r h hs hd =>
      obtain ⟨h1, h2⟩ := get _ _ h
      exact put _ _ rfl rfl ⟨_, rfl, h1, fun e => absurd e (by show (4 : Int) ≠ 5; omega), fun _ => h2, fun _ e => absurd rfl e⟩
    | word c t h hw' hk hd =>
      obtain ⟨h1, h2⟩ := get _ _ h
      have hkr := kindW_range (st.l.takeWhile isWord)
      refine put _ _ rfl rfl ⟨_, rfl, h1, fun e => ?_, fun e => ?_, fun _ _ => ?_⟩
      · have e' : kindW (st.l.takeWhile isWord) = 5 := e
        omega
      · have e' : kindW (st.l.takeWhile isWord) = 4 := e
        omega
      · show bs (mk _) ≠ [] ∧ bs (mk _) <+: _
        rw [bs_mk, ← hr]
        refine ⟨?_, List.takeWhile_prefix _⟩
        rw [h, List.takeWhile_cons, if_pos hw']
        simp
  obtain ⟨st, ⟨-, hp, hw⟩, -, -, rfl⟩ := parseL_inv step0 _ _ (Nat.le_refl _) ⟨List.suffix_refl _, fun x hx => by simp at hx, List.Pairwise.nil⟩ h
  exact ⟨fun x hx => (hp x hx).1, hw⟩
end Go.Proofs.Sx
