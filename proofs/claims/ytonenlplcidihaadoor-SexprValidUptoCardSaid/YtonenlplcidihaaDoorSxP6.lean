/- Part of the proof: SxP6. -/
import Derived.Test.YtonenlplcidihaaDoorSxP5
/-! An item; the whole text. -/
namespace Go.Proofs.Sx
open Go Go.V Go.Proofs Go.RowKit
set_option maxRecDepth 100000

def Item (B rb : Nat) (src : ByteArray) (k : Nat) (outs : List It) (opn : List Nat) (v : Value) (w' : World) : Prop :=
  ∃ n : Int, v = .int .i64 n ∧ (n ≠ 0 ∧ stepL src.size ⟨rest src k, outs, opn⟩ = .error (k, n) ∨
    n = 0 ∧ ∃ k' outs' opn' oA oC pA pC, k < k' ∧ stepL src.size ⟨rest src k, outs, opn⟩ = .ok ⟨rest src k', outs', opn'⟩ ∧ KidsLt outs' ∧ RdB B rb src k' outs' opn' oA oC pA pC w')

theorem addI_big {n : Nat} {st : St} {kind : Int} {text l : List UInt8} (h : st.opn.length > 256) : addI n st kind text l = .error (n - st.l.length, 6) := by rw [addI, if_pos h]
theorem addI_ok {n : Nat} {st : St} {kind : Int} {text l : List UInt8} (h : ¬ st.opn.length > 256) :
    addI n st kind text l = .ok ⟨l, outsOf st.out st.opn ⟨kind, mk text, 0, ((n - st.l.length : Nat) : Int)⟩, opnOf st.out st.opn kind⟩ := by
  rw [addI, if_neg h]; rfl
theorem pos_eq {src : ByteArray} {k : Nat} (h : k ≤ src.size) : src.size - (rest src k).length = k := by rw [rest_len]; omega

/-- What the last call answers is what the step says. -/
theorem add_item {B rb : Nat} {src : ByteArray} {k k' : Nat} {outs : List It} {opn : List Nat} {oA : Option Addr} {oC : Nat} {pA : Option Addr} {pC : Nat} {w0 w : World}
    (h : RdB B rb src k' outs opn oA oC pA pC w) (hb : Below B w0 w) (hk : k < k') (hsz : k ≤ src.size) (hf : outs.length ≤ k) (hkl : KidsLt outs) (kind : Int) (text : ByteArray)
    (hs : stepL src.size ⟨rest src k, outs, opn⟩ = addI src.size ⟨rest src k, outs, opn⟩ kind (bs text) (rest src k')) :
    Called Tryd.prog 46 #[.pointer (some ⟨rb, 0, none⟩), .int .i64 kind, .string text, .int .i64 k] w fun v w' => ∃ n : Int, v = .int .i64 n ∧ (Item B rb src k outs opn (.int .i64 n) w' ∧ Below B w0 w') := by
  refine Called.of (c46 h hkl (by omega) kind text k) ?_
  rintro v w' ⟨hb', ⟨hbig, rfl⟩ | ⟨hsm, rfl, oA', oC', pA', pC', h'⟩⟩
  · refine ⟨6, rfl, ⟨6, rfl, .inl ⟨by decide, ?_⟩⟩, hb.trans hb'⟩
    rw [hs, addI_big hbig]
    show Except.error (src.size - (rest src k).length, _) = _
    rw [pos_eq hsz]
  · refine ⟨0, rfl, ⟨0, rfl, .inr ⟨rfl, k', _, _, oA', oC', pA', pC', hk, ?_, kidsLt_outsOf hkl rfl, h'⟩⟩, hb.trans hb'⟩
    rw [hs, addI_ok hsm]
    show Except.ok (⟨_, outsOf outs opn ⟨kind, mk (bs text), 0, ((src.size - (rest src k).length : Nat) : Int)⟩, _⟩ : St) = _
    rw [pos_eq hsz, mk_bs]

theorem strL_drop : ∀ {l : List UInt8} {v r : List UInt8}, strL l = some (v, r) → ∃ m, r = l.drop m
  | [], _, _, h => by cases h
  | [c], v, r, h => by
    unfold strL at h
    split at h <;> cases h
    exact ⟨1, rfl⟩
  | c :: d :: t, v, r, h => by
    unfold strL at h
    split at h
    · split at h
      · cases h2 : strL t with
        | none => rw [h2] at h; cases h
        | some x =>
          rw [h2] at h
          obtain ⟨v', r'⟩ := x
          cases h
          obtain ⟨m, hm⟩ := strL_drop h2
          exact ⟨m + 2, hm⟩
      · cases h; exact ⟨1, rfl⟩
    · split at h
      · cases h2 : strL (d :: t) with
        | none => rw [h2] at h; cases h
        | some x =>
          rw [h2] at h
          obtain ⟨v', r'⟩ := x
          cases h
          obtain ⟨m, hm⟩ := strL_drop h2
          exact ⟨m + 1, hm⟩
      · cases h
theorem drop_rest_end (s : ByteArray) (j : Nat) : rest s (s.size - (s.size - j)) = rest s j := by
  by_cases h : j ≤ s.size
  · congr 1; omega
  · rw [rest_nil (by omega : s.size ≤ j), rest_nil (by omega)]
theorem dropWhile_drop (p : UInt8 → Bool) (l : List UInt8) : l.drop (l.takeWhile p).length = l.dropWhile p := by
  induction l with
  | nil => rfl
  | cons c l ih =>
    rw [List.takeWhile_cons, List.dropWhile_cons]
    split
    · simpa using ih
    · rfl

theorem c33 (T : TrimOk) {B rb : Nat} {src : ByteArray} {k : Nat} {outs : List It} {opn : List Nat} {oA : Option Addr} {oC : Nat} {pA : Option Addr} {pC : Nat} {w : World}
    (h : RdB B rb src k outs opn oA oC pA pC w) (hlt : k < src.size) (hkl : KidsLt outs) (hbl : isBlank ((bs src).getD k 0) = false) (h59 : (bs src).getD k 0 ≠ 59) :
    Ret Tryd.prog 33 #[.pointer (some ⟨rb, 0, none⟩)] w fun v w' => Item B rb src k outs opn v w' ∧ Below B w w' := by
  have hsm := h.small
  have hf := h.few
  have hBw : B ≤ w.heap.size := Nat.le_trans h.base (Nat.le_of_lt h.lt)
  have hc := rest_cons hlt
  have h59' : ((bs src).getD k 0 == 59) = false := by simpa using h59
  have e : ∀ m : Nat, m < 256 → ((((bs src).getD k 0).toNat : Int) == (m : Int)) = ((bs src).getD k 0 == UInt8.ofNat m) := fun m hm => u8_beq _ m hm
  refine run33 _ _ _ ⟨_, h.c1, _, h.c0, ⟨by omega, by omega⟩, ?_⟩
  rw [bt_eq, show ((((bs src).getD k 0).toNat : Int) == 40) = ((bs src).getD k 0 == 40) from e 40 (by omega), show ((((bs src).getD k 0).toNat : Int) == 41) = ((bs src).getD k 0 == 41) from e 41 (by omega),
    show ((((bs src).getD k 0).toNat : Int) == 34) = ((bs src).getD k 0 == 34) from e 34 (by omega)]
  refine cond_intro (fun h40 => ?_) (fun h40 => cond_intro (fun h41 => ?_) (fun h41 => cond_intro (fun h34 => ?_) (fun h34 => ?_)))
  · have h40' : (bs src).getD k 0 = 40 := by simpa using h40
    refine ⟨_, h.c1, ⟨⟨_, h.c1⟩, h.fr 1⟩, ?_⟩
    rw [wrap_succ (by omega)]
    refine add_item (h.go (k := k + 1) (by omega) hlt) (h.below (Below.refl _ _) _ _) (by omega) (by omega) hf hkl 5 _ ?_
    rw [stepL, hc, h40']
    rfl
  · have h41' : (bs src).getD k 0 = 41 := by simpa using h41
    have hs : stepL src.size ⟨rest src k, outs, opn⟩ = (if opn = [] then .error (src.size - (rest src k).length, 2) else .ok ⟨rest src (k + 1), outs, opn.dropLast⟩) := by
      rw [stepL, hc, h41']
      rfl
    rw [pos_eq (Nat.le_of_lt hlt)] at hs
    refine ⟨_, _, _, h.c3, cond_intro (fun h0 => ?_) (fun h0 => ?_)⟩
    · have hn : opn = [] := by
        rw [beq_iff_eq] at h0
        exact List.eq_nil_of_length_eq_zero (by omega)
      refine ⟨⟨2, rfl, .inl ⟨by decide, ?_⟩⟩, Below.refl _ _⟩
      rw [hs, if_pos hn]
    · have hn : opn ≠ [] := fun hn => by rw [hn] at h0; exact absurd h0 (by decide)
      have hl0 : 0 < opn.length := List.length_pos_iff.2 hn
      have hdp := h.deep
      have hg := h.go (k := k + 1) (by omega) hlt
      have hgd := hg.ext ((Ext.refl _).drew)
      refine ⟨_, h.c1, ⟨⟨_, h.c1⟩, h.fr 1⟩, ?_⟩
      rw [wrap_succ (by omega)]
      refine ⟨_, _, _, hgd.c3, _, _, _, hgd.c3, ?_⟩
      rw [wrap_pred (by omega) hl0]
      have hcap := own_cap h.opens
      refine ⟨⟨by omega, by omega⟩, ⟨⟨_, hgd.c3⟩, hgd.fr 3⟩, ⟨0, rfl, .inr ⟨rfl, k + 1, outs, opn.dropLast, oA, oC, pA, pC, by omega, ?_, hkl, ?_⟩⟩, hgd.below (h.below (Below.refl _ _) _ _).drew _ _⟩
      · rw [hs, if_neg hn]
      · rw [Int.toNat_natCast]
        have hdl : opn.dropLast.length = opn.length - 1 := List.length_dropLast
        exact
        { base := hgd.base
          blk := by
            rw [hdl]
            exact blk_set_eq (j := 3) hgd.blk _
          out := own_other hgd.out (own_ne hgd.out hgd.blk (by decide)) _
          opens := by
            have h1 := own_cut hgd.opens (m := opn.length - 1) (by omega)
            have h2 : (nats opn).take ((opn.length - 1) * 1) = nats opn.dropLast := by
              rw [Nat.mul_one, nats, nats, ← List.map_take, List.dropLast_eq_take]
            rw [h2] at h1
            rw [hdl]
            exact own_other h1 (own_ne h1 hgd.blk (by decide)) _
          small := hsm
          le := hgd.le
          few := hgd.few
          kids := hgd.kids
          mem := fun j hj => h.mem j (List.dropLast_subset _ hj)
          deep := by rw [hdl]; omega }
  · have h34' : (bs src).getD k 0 = 34 := by simpa using h34
    have hs : stepL src.size ⟨rest src k, outs, opn⟩ = (match strL (rest src (k + 1)) with
        | none => .error (src.size - (rest src k).length, 2)
        | some (v, r) => addI src.size ⟨rest src k, outs, opn⟩ 4 v r) := by
      rw [stepL, hc, h34']
      rfl
    rw [pos_eq (Nat.le_of_lt hlt)] at hs
    refine Called.of (c47 h hlt) ?_
    rintro v w2 ⟨hb2, hm⟩
    cases hst : strL (rest src (k + 1)) with
    | none =>
      rw [hst] at hm hs
      obtain ⟨t, rfl⟩ := hm
      exact ⟨_, _, rfl, ⟨2, rfl, .inl ⟨by decide, hs⟩⟩, hb2⟩
    | some p =>
      obtain ⟨x, r⟩ := p
      rw [hst] at hm hs
      obtain ⟨t, rfl, ht, h2⟩ := hm
      have hlt2 := strL_lt hst
      rw [rest_len] at hlt2
      have hr : rest src (src.size - r.length) = r := by
        have : ∃ m, r = (rest src (k + 1)).drop m := strL_drop hst
        obtain ⟨m, hm⟩ := this
        rw [hm, drop_rest, rest_len, drop_rest_end]
      refine ⟨_, _, rfl, add_item h2 hb2 (by omega) (by omega) hf hkl 4 t ?_⟩
      rw [hs, ht, hr]
  · have hs : stepL src.size ⟨rest src k, outs, opn⟩ = (if kindW ((rest src k).takeWhile isWord) = 0 then .error (src.size - (rest src k).length, 2)
        else addI src.size ⟨rest src k, outs, opn⟩ (kindW ((rest src k).takeWhile isWord)) ((rest src k).takeWhile isWord) ((rest src k).dropWhile isWord)) := by
      have g1 : (bs src).getD k 0 ≠ 41 := by simpa using h41
      have g2 : (bs src).getD k 0 ≠ 40 := by simpa using h40
      have g3 : (bs src).getD k 0 ≠ 34 := by simpa using h34
      rw [stepL, hc]
      simp only [hbl, Bool.false_eq_true, if_false, h59, g1, g2, g3]
      by_cases hw : isWord ((bs src).getD k 0) = true
      · rw [if_pos hw]
      · rw [if_neg hw, List.takeWhile_cons, if_neg hw]
        rfl
    rw [pos_eq (Nat.le_of_lt hlt)] at hs
    refine Called.of (c48 h) ?_
    rintro v w4 ⟨⟨t, rfl, ht⟩, h4, hb4⟩
    have htl : ((rest src k).takeWhile isWord).length ≤ (rest src k).length := (List.takeWhile_prefix _).length_le
    rw [rest_len] at htl
    refine ⟨_, rfl, Called.of (c49 T t ?_ w4) ?_⟩
    · rw [size_bs, ht]; omega
    rintro v w5 ⟨rfl, he5⟩
    rw [ht]
    have hb5 : Below B w w5 := below_ext hb4 (Nat.le_trans hBw hb4.size) he5
    refine ⟨_, rfl, cond_intro (fun h0 => ⟨⟨2, rfl, .inl ⟨by decide, ?_⟩⟩, hb5⟩) (fun h0 => ?_)⟩
    · rw [hs, if_pos (by simpa using h0)]
    · have h0' : kindW ((rest src k).takeWhile isWord) ≠ 0 := by simpa using h0
      have hne : (rest src k).takeWhile isWord ≠ [] := fun hn => by rw [hn] at h0'; exact h0' rfl
      have hpos := List.length_pos_iff.2 hne
      refine add_item (h4.ext he5) hb5 (by omega) (by omega) hf hkl _ t ?_
      rw [hs, if_neg h0', ht]
      congr 1
      rw [← drop_rest, dropWhile_drop]

/-- What Parse hands back. -/
def ParseRes (src : ByteArray) (N : Nat) (v : Value) (w' : World) : Prop :=
  match parse src with
  | .error (p, e) => v = .tuple #[.slice none 0 0, .int .i64 p, .int .i64 e]
  | .ok outs => ∃ A C, v = .tuple #[.slice A outs.length C, .int .i64 0, .int .i64 0] ∧ w'.ownsRow N 34 4 (.slice A outs.length C) outs.length (itcs outs)
theorem parse_big {s : ByteArray} (h : s.size > 65536) : parse s = .error (0, 6) := if_pos h
theorem parse_small {s : ByteArray} (h : ¬ s.size > 65536) : parse s = parseL s.size ⟨rest s 0, [], []⟩ := if_neg h

theorem c16 (T : TrimOk) (src : ByteArray) (w : World) : Ret Tryd.prog 16 #[.string src] w fun v w' => ParseRes src w.heap.size v w' ∧ Ext w w' := by
  refine run16 _ _ _ (cond_dec (fun hbig => ⟨?_, Ext.refl _⟩) (fun hbig => ?_))
  · rw [ParseRes, parse_big (by omega)]; rfl
  have hp0 := parse_small (s := src) (by omega)
  have h0 : RdB w.heap.size w.heap.size src 0 [] [] none 0 none 0 (w.alloc (Obj.cells #[Value.string src, Value.int IntKind.i64 0, Value.slice none 0 0, Value.slice none 0 0] 55)) :=
    { base := Nat.le_refl _
      blk := heap_alloc_new w _
      out := World.ownsRow_nil _ _ _ _
      opens := World.ownsRow_nil _ _ _ _
      small := by omega
      le := Nat.zero_le _
      few := Nat.le_refl _
      kids := fun x hx => by cases hx
      mem := fun x hx => by cases hx
      deep := Nat.le_refl _ }
  have hb0 : Ext w (w.alloc (Obj.cells #[Value.string src, Value.int IntKind.i64 0, Value.slice none 0 0, Value.slice none 0 0] 55)) := (Ext.refl w).alloc _
  refine Called.of (c32 h0) ?_
  rintro v w1 ⟨rfl, k1, hk1, h1, hb1, hp1, hc1⟩
  refine ⟨rfl, fun vals w' => vals = [] ∧ ∃ k outs opn oA oC pA pC, RdB w.heap.size w.heap.size src k outs opn oA oC pA pC w' ∧ KidsLt outs ∧ Ext w w' ∧
    parse src = parseL src.size ⟨rest src k, outs, opn⟩ ∧ (k < src.size → isBlank ((bs src).getD k 0) = false ∧ (bs src).getD k 0 ≠ 59), fun _ w' => mu3 w.heap.size src.size w', ⟨rfl, k1, [], [], _, _, _, _, h1, (fun x hx => by cases hx), Below.trans hb0 hb1, hp0.trans hp1, hc1⟩, ?_⟩
  rintro w2 ⟨-, k, outs, opn, oA, oC, pA, pC, h2, hkl, hb2, hp2, hc2⟩
  have hkle := h2.le
  refine ⟨_, h2.c1, cond_dec (fun hlt => ?_) (fun hlt => ?_)⟩
  · have hlt' : k < src.size := by omega
    obtain ⟨hbl, h59⟩ := hc2 hlt'
    refine ⟨_, h2.c1, Called.of (c33 T h2 hlt' hkl hbl h59) ?_⟩
    rintro v w3 ⟨⟨n, rfl, hn⟩, hb3⟩
    refine ⟨n, rfl, ?_⟩
    rcases hn with ⟨hne, hs⟩ | ⟨rfl, k', outs', opn', oA', oC', pA', pC', hk', hs, hkl', h3⟩
    · refine cond_intro (fun _ => ⟨?_, Below.trans hb2 hb3⟩) (fun h => absurd (by simpa using h) hne)
      have : parse src = .error (k, n) := by
        rw [hp2]
        exact parseL_err (by rw [rest_cons hlt']; simp) hs
      rw [ParseRes, this]
    · refine cond_intro (fun h => absurd h (by decide)) (fun _ => ?_)
      refine Called.of (c32 h3) ?_
      rintro v w4 ⟨rfl, k4, hk4, h4, hb4, hp4, hc4⟩
      refine ⟨rfl, ⟨rfl, k4, outs', opn', _, _, _, _, h4, hkl', Below.trans (Below.trans hb2 hb3) hb4, (hp2.trans (parseL_ok hs)).trans hp4, hc4⟩, ?_⟩
      have hk4l := h4.le
      show mu3 _ _ _ < mu3 _ _ _
      rw [mu3_of h2.c1, mu3_of h4.c1]; omega
  · have hn : rest src k = [] := rest_nil (by omega)
    rw [parseL_nil hn] at hp2
    refine ⟨_, _, _, h2.c3, cond_dec (fun hpos => ⟨?_, hb2⟩) (fun hpos => ⟨_, _, _, h2.c2, ?_, hb2⟩)⟩
    · have hne : opn ≠ [] := fun hn => by rw [hn] at hpos; exact absurd hpos (by decide)
      rw [if_neg hne] at hp2
      rw [ParseRes, hp2]
    · have hne : opn = [] := List.eq_nil_of_length_eq_zero (by omega)
      rw [if_pos hne] at hp2
      rw [ParseRes, hp2]
      exact ⟨oA, oC, rfl, h2.out⟩
end Go.Proofs.Sx
