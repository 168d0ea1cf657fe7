/- Part of the proof: SxP4. -/
import Derived.Test.YtonenlplcidihaaDoorSxP3
import Derived.Test.YtonenlplcidihaaDoorV10
/-! The reader. -/
namespace Go.Proofs.Sx
open Go Go.V Go.Proofs Go.RowKit
set_option maxRecDepth 100000

def itc (x : It) : List Value := [.int .i64 x.kind, .string x.text, .int .i64 x.kids, .int .i64 x.pos]
def itcs (l : List It) : List Value := l.flatMap itc
def nats (l : List Nat) : List Value := l.map fun (n : Nat) => Value.int .i64 (n : Int)
theorem itcs_len (l : List It) : (itcs l).length = l.length * 4 := by
  induction l with
  | nil => rfl
  | cons x l ih => rw [itcs, List.flatMap_cons, List.length_append]; rw [show (List.flatMap itc l).length = l.length * 4 from ih]; simp only [itc, List.length_cons, List.length_nil]; omega
theorem nats_len (l : List Nat) : (nats l).length = l.length := by simp [nats]
theorem itcs_app (a b : List It) : itcs (a ++ b) = itcs a ++ itcs b := by simp [itcs]
theorem itcs_get {l : List It} : ∀ {i : Nat} {x : It}, l[i]? = some x → ∀ j v, (itc x)[j]? = some v → (itcs l)[i * 4 + j]? = some v := by
  induction l with
  | nil => intro i x h; simp at h
  | cons y l ih =>
    intro i x h j v hv
    have e : itcs (y :: l) = itc y ++ itcs l := by simp [itcs]
    have h4 : (itc y).length = 4 := rfl
    rw [e]
    cases i with
    | zero =>
      simp only [List.getElem?_cons_zero, Option.some.injEq] at h
      subst h
      have hj : j < 4 := by have := (List.getElem?_eq_some_iff.1 hv).1; rwa [h4] at this
      rw [Nat.zero_mul, Nat.zero_add, List.getElem?_append_left (by rw [h4]; exact hj)]
      exact hv
    | succ i =>
      have := ih (by simpa using h) j v hv
      rw [List.getElem?_append_right (by rw [h4]; omega), h4, show (i + 1) * 4 + j - 4 = i * 4 + j by omega]
      exact this
theorem itcs_bump {l : List It} : ∀ {i : Nat} {x : It}, l[i]? = some x → (itcs l).set (i * 4 + 2) (.int .i64 (x.kids + 1)) = itcs (bump l i) := by
  induction l with
  | nil => intro i x h; simp at h
  | cons y l ih =>
    intro i x h
    have e : ∀ z m, itcs (z :: m) = itc z ++ itcs m := fun z m => by simp [itcs]
    cases i with
    | zero =>
      simp only [List.getElem?_cons_zero, Option.some.injEq] at h
      subst h
      simp [bump, e, itc]
    | succ i =>
      have := ih (i := i) (by simpa using h)
      rw [e, show bump (y :: l) (i + 1) = y :: bump l i by simp [bump], e, ← this]
      rw [List.set_append_right _ _ (by show 4 ≤ _; omega)]
      rw [show (itc y).length = 4 from rfl, show (i + 1) * 4 + 2 - 4 = i * 4 + 2 by omega]
theorem bump_len (l : List It) (i : Nat) : (bump l i).length = l.length := by simp [bump]

/-- A reader at block rb. -/
structure RdB (B rb : Nat) (src : ByteArray) (at' : Nat) (outs : List It) (opn : List Nat) (oA : Option Addr) (oC : Nat) (pA : Option Addr) (pC : Nat) (w : World) : Prop where
  base : B ≤ rb
  blk : w.heap[rb]? = some (.cells #[.string src, .int .i64 at', .slice oA outs.length oC, .slice pA opn.length pC] 55 (0, 0))
  out : w.ownsRow B 34 4 (.slice oA outs.length oC) outs.length (itcs outs)
  opens : w.ownsRow B 3 1 (.slice pA opn.length pC) opn.length (nats opn)
  small : src.size ≤ 65536
  le : at' ≤ src.size
  few : outs.length ≤ at'
  kids : ∀ x ∈ outs, 0 ≤ x.kids ∧ x.kids ≤ 65536
  mem : ∀ j ∈ opn, j < outs.length
  deep : opn.length ≤ outs.length
def Rd (B rb : Nat) (src : ByteArray) (at' : Nat) (st : St) (w : World) : Prop :=
  st.l = rest src at' ∧ ∃ oA oC pA pC, RdB B rb src at' st.out st.opn oA oC pA pC w

theorem RdB.lt {B rb : Nat} {src : ByteArray} {at' : Nat} {outs : List It} {opn : List Nat} {oA : Option Addr} {oC : Nat} {pA : Option Addr} {pC : Nat} {w : World} (h : RdB B rb src at' outs opn oA oC pA pC w) : rb < w.heap.size :=
  (Array.getElem?_eq_some_iff.1 h.blk).1
theorem RdB.ext {B rb : Nat} {src : ByteArray} {at' : Nat} {outs : List It} {opn : List Nat} {oA : Option Addr} {oC : Nat} {pA : Option Addr} {pC : Nat} {w w' : World} (h : RdB B rb src at' outs opn oA oC pA pC w) (he : Ext w w') :
    RdB B rb src at' outs opn oA oC pA pC w' :=
  { h with blk := he.blk h.blk, out := own_ext h.out he, opens := own_ext h.opens he }
theorem RdB.c0 {B rb : Nat} {src : ByteArray} {at' : Nat} {outs : List It} {opn : List Nat} {oA : Option Addr} {oC : Nat} {pA : Option Addr} {pC : Nat} {w : World} (h : RdB B rb src at' outs opn oA oC pA pC w) :
    w.cell? ⟨rb, 0, none⟩ = some (.string src) := blk_cell h.blk
theorem RdB.c1 {B rb : Nat} {src : ByteArray} {at' : Nat} {outs : List It} {opn : List Nat} {oA : Option Addr} {oC : Nat} {pA : Option Addr} {pC : Nat} {w : World} (h : RdB B rb src at' outs opn oA oC pA pC w) :
    w.cell? ((⟨rb, 0, none⟩ : Addr).add 1) = some (.int .i64 at') := blk_cell h.blk
theorem RdB.c2 {B rb : Nat} {src : ByteArray} {at' : Nat} {outs : List It} {opn : List Nat} {oA : Option Addr} {oC : Nat} {pA : Option Addr} {pC : Nat} {w : World} (h : RdB B rb src at' outs opn oA oC pA pC w) :
    w.cell? ((⟨rb, 0, none⟩ : Addr).add 2) = some (.slice oA outs.length oC) := blk_cell h.blk
theorem RdB.c3 {B rb : Nat} {src : ByteArray} {at' : Nat} {outs : List It} {opn : List Nat} {oA : Option Addr} {oC : Nat} {pA : Option Addr} {pC : Nat} {w : World} (h : RdB B rb src at' outs opn oA oC pA pC w) :
    w.cell? ((⟨rb, 0, none⟩ : Addr).add 3) = some (.slice pA opn.length pC) := blk_cell h.blk
theorem RdB.fr {B rb : Nat} {src : ByteArray} {at' : Nat} {outs : List It} {opn : List Nat} {oA : Option Addr} {oC : Nat} {pA : Option Addr} {pC : Nat} {w : World} (h : RdB B rb src at' outs opn oA oC pA pC w) (i : Nat) :
    w.frozen? ((⟨rb, 0, none⟩ : Addr).add i) = false := by rw [add_eq]; exact blk_free h.blk
/-- The reader goes on. -/
theorem RdB.go {B rb : Nat} {src : ByteArray} {at' : Nat} {outs : List It} {opn : List Nat} {oA : Option Addr} {oC : Nat} {pA : Option Addr} {pC : Nat} {w : World} (h : RdB B rb src at' outs opn oA oC pA pC w)
    {k : Nat} (h1 : at' ≤ k) (h2 : k ≤ src.size) : RdB B rb src k outs opn oA oC pA pC (w.setCell ((⟨rb, 0, none⟩ : Addr).add 1) (.int .i64 k)) :=
  { h with
    blk := blk_set_eq h.blk _
    out := own_other h.out (own_ne h.out h.blk (by decide)) _
    opens := own_other h.opens (own_ne h.opens h.blk (by decide)) _
    le := h2
    few := Nat.le_trans h.few h1 }
/-- What is below stays. -/
theorem RdB.below {B rb : Nat} {src : ByteArray} {at' : Nat} {outs : List It} {opn : List Nat} {oA : Option Addr} {oC : Nat} {pA : Option Addr} {pC : Nat} {w w0 : World} (h : RdB B rb src at' outs opn oA oC pA pC w) (hb : Below B w0 w) (i : Nat) (v : Value) :
    Below B w0 (w.setCell ((⟨rb, 0, none⟩ : Addr).add i) v) := by
  rw [add_eq]; exact Below.setCell (p := ⟨rb, _, none⟩) hb h.base v
theorem Rd.ext {B rb : Nat} {src : ByteArray} {at' : Nat} {st : St} {w w' : World} (h : Rd B rb src at' st w) (he : Ext w w') : Rd B rb src at' st w' := by
  obtain ⟨hl, oA, oC, pA, pC, h⟩ := h
  exact ⟨hl, oA, oC, pA, pC, h.ext he⟩
theorem below_ext {B : Nat} {w0 w w' : World} (h : Below B w0 w) (hb : B ≤ w.heap.size) (he : Ext w w') : Below B w0 w' := h.trans (Below.mono he hb)
theorem Rd.base_le {B rb : Nat} {src : ByteArray} {at' : Nat} {st : St} {w : World} (h : Rd B rb src at' st w) : B ≤ w.heap.size := by
  obtain ⟨hl, oA, oC, pA, pC, h⟩ := h
  exact Nat.le_trans h.base (Nat.le_of_lt h.lt)

def mu3 (rb N : Nat) (w : World) : Nat := match w.cell? ⟨rb, 1, none⟩ with | some (.int _ n) => N - n.toNat | _ => 0
theorem mu3_of {rb N : Nat} {w : World} {k : IntKind} {n : Nat} (h : w.cell? ((⟨rb, 0, none⟩ : Addr).add 1) = some (.int k n)) : mu3 rb N w = N - n := by
  unfold mu3
  rw [show w.cell? ⟨rb, 1, none⟩ = some (.int k n) from h]
  simp

/-- A word is read. -/
theorem c48 {B rb : Nat} {src : ByteArray} {at' : Nat} {outs : List It} {opn : List Nat} {oA : Option Addr} {oC : Nat} {pA : Option Addr} {pC : Nat} {w : World} (h : RdB B rb src at' outs opn oA oC pA pC w) :
    Ret Tryd.prog 48 #[.pointer (some ⟨rb, 0, none⟩)] w fun v w' => (∃ t : ByteArray, v = .string t ∧ bs t = (rest src at').takeWhile isWord) ∧
      RdB B rb src (at' + ((rest src at').takeWhile isWord).length) outs opn oA oC pA pC w' ∧ Below B w w' := by
  refine run48 _ _ _ ⟨_, h.c1, fun vals w' => vals = [] ∧ ∃ k, at' ≤ k ∧ RdB B rb src k outs opn oA oC pA pC w' ∧ Below B w w' ∧
    (rest src at').takeWhile isWord = (rest src at').take (k - at') ++ (rest src k).takeWhile isWord, fun _ w' => mu3 rb src.size w', ⟨rfl, at', Nat.le_refl _, h, Below.refl _ _, by simp⟩, ?_⟩
  rintro w1 ⟨-, k, hk, h1, hb, hw⟩
  have hsm := h.small
  have hkl := h1.le
  have h1d : RdB B rb src k outs opn oA oC pA pC w1.drew := h1.ext ((Ext.refl _).drew)
  intro K hK
  have stop : ∀ w2, RdB B rb src k outs opn oA oC pA pC w2 → Below B w w2 → (rest src k).takeWhile isWord = [] → K [Value.bool false] w2 := by
    intro w2 h2 hb2 h3
    refine hK _ _ ⟨src, (h2.ext ((Ext.refl _).drew)).c0, _, (h2.ext ((Ext.refl _).drew)).c1, ⟨by omega, by omega, by omega⟩, ⟨_, rfl, ?_⟩, ?_, hb2.drew⟩
    · rw [extract_bs, Int.toNat_natCast, Int.toNat_natCast, hw, h3, List.append_nil]
    · have : at' + ((rest src at').takeWhile isWord).length = k := by
        rw [hw, h3, List.append_nil, List.length_take, rest_len]; omega
      rw [this]
      exact h2.ext ((Ext.refl _).drew)
  refine ⟨_, h1d.c1, _, h1d.c0, cond_dec (fun hlt => ?_) (fun hlt => ?_)⟩
  · have hlt' : k < src.size := by omega
    refine ⟨_, h1d.c0, _, h1d.c1, ⟨by omega, hlt⟩, ?_⟩
    rw [bt_eq]
    refine Called.of (c51 _ _) ?_
    rintro v w2 ⟨rfl, rfl⟩
    refine ⟨_, rfl, ?_⟩
    cases hc : isWord ((bs src).getD k 0) with
    | false =>
      refine stop _ h1d hb.drew ?_
      rw [rest_cons hlt', List.takeWhile_cons, hc]
      rfl
    | true =>
      refine hK _ _ ⟨_, h1d.c1, ⟨⟨_, h1d.c1⟩, h1d.fr 1⟩, ?_⟩
      rw [wrap_succ (by omega)]
      refine ⟨⟨rfl, k + 1, by omega, h1d.go (by omega) hlt', h1d.below hb.drew _ _, ?_⟩, ?_⟩
      · rw [hw, rest_cons hlt', List.takeWhile_cons, hc, if_pos rfl, show k + 1 - at' = (k - at') + 1 by omega, List.take_add_one, List.append_assoc]
        congr 1
        have : (rest src at')[k - at']? = some ((bs src).getD k 0) := by
          have h5 := rest_cons hlt'
          have h6 : rest src k = (rest src at').drop (k - at') := by rw [drop_rest]; congr 1; omega
          rw [h6] at h5
          have h7 : ((rest src at').drop (k - at'))[0]? = some ((bs src).getD k 0) := by rw [h5]; rfl
          simpa using h7
        rw [this]; rfl
      · show mu3 rb _ _ < mu3 rb _ _
        rw [mu3_of h1.c1, mu3_of (h1d.go (k := k + 1) (by omega) hlt').c1]; omega
  · exact stop _ h1d hb.drew (by rw [rest_nil (by omega)]; rfl)

/-- Blanks and comments are skipped. -/
theorem c32 {B rb : Nat} {src : ByteArray} {at' : Nat} {outs : List It} {opn : List Nat} {oA : Option Addr} {oC : Nat} {pA : Option Addr} {pC : Nat} {w : World} (h : RdB B rb src at' outs opn oA oC pA pC w) :
    Ret Tryd.prog 32 #[.pointer (some ⟨rb, 0, none⟩)] w fun v w' => v = .tuple #[] ∧ ∃ k, at' ≤ k ∧ RdB B rb src k outs opn oA oC pA pC w' ∧ Below B w w' ∧
      parseL src.size ⟨rest src at', outs, opn⟩ = parseL src.size ⟨rest src k, outs, opn⟩ ∧ (k < src.size → isBlank ((bs src).getD k 0) = false ∧ (bs src).getD k 0 ≠ 59) := by
  refine run32 _ _ _ ⟨fun vals w' => vals = [] ∧ ∃ k, at' ≤ k ∧ RdB B rb src k outs opn oA oC pA pC w' ∧ Below B w w' ∧
    parseL src.size ⟨rest src at', outs, opn⟩ = parseL src.size ⟨rest src k, outs, opn⟩, fun _ w' => mu3 rb src.size w', ⟨rfl, at', Nat.le_refl _, h, Below.refl _ _, rfl⟩, ?_⟩
  rintro w1 ⟨-, k, hk, h1, hb, hp⟩
  have hsm := h.small
  have hkl := h1.le
  have hd : ∀ {w2 k}, RdB B rb src k outs opn oA oC pA pC w2 → RdB B rb src k outs opn oA oC pA pC w2.drew := fun h2 => h2.ext ((Ext.refl _).drew)
  refine ⟨_, (hd h1).c1, _, (hd h1).c0, cond_dec (fun hlt => ?_) (fun hlt => ⟨rfl, k, hk, hd h1, hb.drew, hp, fun h3 => absurd h3 (by omega)⟩)⟩
  have hlt' : k < src.size := by omega
  refine ⟨_, (hd (hd h1)).c0, _, (hd (hd h1)).c1, ⟨by omega, hlt⟩, ?_⟩
  rw [bt_eq]
  refine Called.of (c45 _ _) ?_
  rintro v w2 ⟨rfl, rfl⟩
  refine ⟨_, rfl, cond_intro (fun hbl => ?_) (fun hbl => ?_)⟩
  · refine ⟨_, (hd (hd h1)).c1, ⟨⟨_, (hd (hd h1)).c1⟩, (hd (hd h1)).fr 1⟩, ?_⟩
    rw [wrap_succ (by omega)]
    refine ⟨⟨rfl, k + 1, by omega, (hd (hd h1)).go (by omega) hlt', (hd (hd h1)).below hb.drew.drew _ _, ?_⟩, ?_⟩
    · rw [hp]
      refine parseL_ok ?_
      rw [stepL, rest_cons hlt']
      simp only [hbl, if_true]
    · show mu3 rb _ _ < mu3 rb _ _
      rw [mu3_of h1.c1, mu3_of ((hd (hd h1)).go (k := k + 1) (by omega) hlt').c1]; omega
  · rw [show ((((bs src).getD k 0).toNat : Int) == 59) = ((bs src).getD k 0 == 59) from u8_beq _ 59 (by omega)]
    refine cond_intro (fun h59 => ?_) (fun h59 => ⟨rfl, k, hk, hd (hd h1), hb.drew.drew, hp, fun _ => ⟨hbl, by simpa using h59⟩⟩)
    have h59' : (bs src).getD k 0 = 59 := by simpa using h59
    refine ⟨fun vals w' => vals = [] ∧ ∃ j, k ≤ j ∧ RdB B rb src j outs opn oA oC pA pC w' ∧ Below B w w' ∧ (rest src k).dropWhile (· != 10) = (rest src j).dropWhile (· != 10), fun _ w' => mu3 rb src.size w',
      ⟨rfl, k, Nat.le_refl _, hd (hd h1), hb.drew.drew, rfl⟩, ?_⟩
    rintro w3 ⟨-, j, hj, h3, hb3, hp3⟩
    have hjl := h3.le
    intro K hK
    have stop : (rest src j).dropWhile (· != 10) = rest src j → K [Value.bool false] w3.drew := by
      intro h4
      have hjk : k < j := by
        rcases Nat.lt_or_ge k j with h5 | h5
        · exact h5
        · have : j = k := by omega
          subst this
          rw [rest_cons hlt', h59', List.dropWhile_cons] at h4
          simp only [show ((59 : UInt8) != 10) = true from by decide, if_true] at h4
          have h6 := congrArg List.length h4
          have h7 := dropWhile_le (· != 10) (rest src (j + 1))
          simp only [List.length_cons] at h6
          omega
      refine hK _ ⟨⟨rfl, j, by omega, hd h3, hb3.drew, ?_⟩, ?_⟩
      · rw [hp]
        refine parseL_ok ?_
        have e1 : (rest src (k + 1)).dropWhile (· != 10) = rest src j := by
          rw [← h4, ← hp3, rest_cons hlt', h59', List.dropWhile_cons]
          simp
        rw [stepL, rest_cons hlt']
        simp only [h59', if_true, e1]
        rfl
      · show mu3 rb _ _ < mu3 rb _ _
        rw [mu3_of h1.c1, mu3_of (hd h3).c1]; omega
    refine ⟨_, (hd h3).c1, _, (hd h3).c0, cond_dec (fun hl => ?_) (fun hl => stop (by rw [rest_nil (by omega)]; rfl))⟩
    have hl' : j < src.size := by omega
    refine ⟨_, (hd h3).c0, _, (hd h3).c1, ⟨by omega, hl⟩, ?_⟩
    rw [bt_eq, show ((((bs src).getD j 0).toNat : Int) != 10) = ((bs src).getD j 0 != 10) by rw [bne, bne, show ((((bs src).getD j 0).toNat : Int) == 10) = ((bs src).getD j 0 == 10) from u8_beq _ 10 (by omega)]]
    cases h10 : (bs src).getD j 0 != 10 with
    | false =>
      refine stop ?_
      rw [rest_cons hl', List.dropWhile_cons, h10]
      rfl
    | true =>
      refine hK _ ⟨_, (hd h3).c1, ⟨⟨_, (hd h3).c1⟩, (hd h3).fr 1⟩, ?_⟩
      rw [wrap_succ (by omega)]
      refine ⟨⟨rfl, j + 1, by omega, (hd h3).go (by omega) hl', (hd h3).below hb3.drew _ _, ?_⟩, ?_⟩
      · rw [hp3, rest_cons hl', List.dropWhile_cons, h10, if_pos rfl]
      · show mu3 rb _ _ < mu3 rb _ _
        rw [mu3_of h3.c1, mu3_of ((hd h3).go (k := j + 1) (by omega) hl').c1]; omega
end Go.Proofs.Sx
