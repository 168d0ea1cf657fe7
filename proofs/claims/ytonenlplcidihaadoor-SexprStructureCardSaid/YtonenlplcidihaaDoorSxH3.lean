/- Part of the proof: SxH3. -/
import Derived.Test.YtonenlplcidihaaDoorSxH2
/-! Items are written by the reference. -/
namespace Go.Proofs.Sx
open Go Go.V Go.Proofs Go.RowKit
set_option maxRecDepth 100000

def esc : List UInt8 → List UInt8
  | [] => []
  | c :: t => if c = 34 then 34 :: 34 :: esc t else c :: esc t
def ltxt (k : Int) (t : List UInt8) : List UInt8 := if k = 4 then 34 :: (esc t ++ [34]) else t
namespace Fo
/-- The items' texts, each behind a space. -/
def more : Fo → List UInt8
  | nil => []
  | leaf k t r => 32 :: (ltxt k (bs t) ++ r.more)
  | list c r => 32 :: ((40 :: (c.more.tail ++ [41])) ++ r.more)
/-- The first item's text. -/
def htxt : Fo → List UInt8
  | nil => []
  | leaf k t _ => ltxt k (bs t)
  | list c _ => 40 :: (c.more.tail ++ [41])
/-- The items' texts, each a line. -/
def lines : Fo → List UInt8
  | nil => []
  | leaf k t r => ltxt k (bs t) ++ 10 :: r.lines
  | list c r => (40 :: (c.more.tail ++ [41])) ++ 10 :: r.lines
theorem more_step {f : Fo} (h : 0 < f.cnt) : f.more = 32 :: (f.htxt ++ f.next.more) := by
  cases f with
  | nil => simp [cnt] at h
  | leaf k t r => rfl
  | list c r => rfl
theorem lines_step {f : Fo} (h : 0 < f.cnt) : f.lines = f.htxt ++ 10 :: f.next.lines := by
  cases f with
  | nil => simp [cnt] at h
  | leaf k t r => rfl
  | list c r => rfl
end Fo
theorem esc_len (l : List UInt8) : (esc l).length ≤ 2 * l.length := by
  induction l with
  | nil => simp [esc]
  | cons c t ih =>
    unfold esc
    split <;> simp only [List.length_cons] <;> omega
theorem ltxt_len (k : Int) (t : List UInt8) : (ltxt k t).length ≤ 2 * t.length + 2 := by
  unfold ltxt
  split
  · have := esc_len t; simp only [List.length_cons, List.length_append, List.length_nil]; omega
  · omega
theorem more_len : ∀ {f : Fo}, f.good → f.more.length ≤ 44 * f.flat.length
  | .nil, _ => Nat.le_refl _
  | .leaf k t r, h => by
    have h1 := ltxt_len k (bs t)
    have h2 := more_len h.2.2
    have h3 := h.2.1
    rw [size_bs] at h3
    simp only [Fo.more, Fo.flat, List.length_cons, List.length_append]
    omega
  | .list c r, h => by
    have h1 := more_len h.1
    have h2 := more_len h.2
    simp only [Fo.more, Fo.flat, List.length_cons, List.length_append, List.length_tail, List.length_nil]
    omega
theorem htxt_len {f : Fo} (h : f.good) : f.htxt.length ≤ 44 * f.flat.length := by
  rcases Nat.eq_zero_or_pos f.cnt with h0 | h0
  · rw [cnt_zero h0]; exact Nat.zero_le _
  · have := more_len h
    rw [Fo.more_step h0, List.length_cons, List.length_append] at this
    omega
theorem lines_len : ∀ {f : Fo}, f.good → f.lines.length ≤ 44 * f.flat.length
  | .nil, _ => Nat.le_refl _
  | .leaf k t r, h => by
    have h1 := ltxt_len k (bs t)
    have h2 := lines_len h.2.2
    have h3 := h.2.1
    rw [size_bs] at h3
    simp only [Fo.lines, Fo.flat, List.length_cons, List.length_append]
    omega
  | .list c r, h => by
    have h1 := more_len h.1
    have h2 := lines_len h.2
    simp only [Fo.lines, Fo.flat, List.length_cons, List.length_append, List.length_tail, List.length_nil]
    omega
theorem bs_lit (l : List UInt8) : bs { data := l.toArray } = l := bs_mk l
theorem extract_one {s : ByteArray} {j : Nat} (h : j < s.size) : bs (s.extract j (j + 1)) = [(bs s).getD j 0] := by
  rw [extract_bs, rest_cons h, show j + 1 - j = 1 by omega]; rfl
theorem nats_at {w : World} {B n : Nat} {p : Option Addr} {k : Nat} {l : List Nat} (ho : w.ownsRow B 3 1 (.slice p n k) n (nats l)) {j x : Nat} (hj : l[j]? = some x) :
    ∃ ad, p = some ad ∧ w.cell? (ad.add (j * 1)) = some (.int .i64 x) := by
  have hl := (List.getElem?_eq_some_iff.1 hj).1
  obtain ⟨ad, hA, -, hr⟩ := (own_row ho).at (j := j) (by rw [nats_len]; exact hl)
  exact ⟨ad, hA, by rw [Nat.mul_one]; exact hr j _ (by rw [nats, List.getElem?_map, hj]; rfl)⟩

theorem c28 {A : Option Addr} {C : Nat} {L : List It} (hL : L.length < 4294967296) : ∀ (m : Nat) (f : Fo), f.flat.length ≤ m → f.good → 0 < f.cnt → f.dep ≤ 256 → ∀ (i : Nat), Here L i f → ∀ (w : World), SlAt w A (itcs L) →
    Ret Tryd.prog 28 #[.slice A L.length C, .int .i64 i] w fun v w' => (∃ s, v = .string s ∧ bs s = f.htxt) ∧ Ext w w' := by
  intro m
  induction m with
  | zero => intro f hf _ h0; have := f.cnt_le; omega
  | succ m ih =>
    intro f hf hg h0 hd i hh w hs
    obtain ⟨y, hy, hyf⟩ := hh.get h0
    have hle := hh.le h0
    have hsp := Fo.len_split h0
    have hsub := Fo.hlen_sub h0
    have hlt : i < L.length := (List.getElem?_eq_some_iff.1 hy).1
    have hts : y.text.size ≤ 20 := by have := Fo.hd_size hg; rw [← hyf] at this; exact this
    obtain ⟨ad, rfl, hsp2, hv, -⟩ := sl_item hs hy
    have hb0 : (w.alloc (.cells #[.int .i64 0, .string { data := #[] }, .int .i64 0, .int .i64 0] 34)).heap[w.heap.size]? = some (.cells #[.int .i64 0, .string { data := #[] }, .int .i64 0, .int .i64 0] 34 (0, 0)) := heap_alloc_new w _
    have he0 := (Ext.refl w).alloc (.cells #[.int .i64 0, .string { data := #[] }, .int .i64 0, .int .i64 0] 34)
    have hb := set4_blk hb0 (.int .i64 y.kind) (.string y.text) (.int .i64 y.kids) (.int .i64 y.pos)
    have he := set4_below he0 (Nat.le_refl _) (.int .i64 y.kind) (.string y.text) (.int .i64 y.kids) (.int .i64 y.pos)
    refine run28 _ _ _ _ _ _ ⟨ad, rfl, ⟨by omega, by omega⟩, y.kind, y.text, y.kids, y.pos, hv, writable4 hb0, _, blk_cell (j := 0) hb, ?_⟩
    refine cond_intro (fun h4 => ?_) (fun h4 => cond_intro (fun h5 => ?_) (fun h5 => ?_))
    · -- a string
      have h4' : y.kind = 4 := by simpa using h4
      have hx : f.htxt = 34 :: (esc (bs y.text) ++ [34]) := by
        cases f with
        | nil => simp [Fo.cnt] at h0
        | leaf k t r =>
          have e1 : y.kind = k := congrArg It.kind hyf
          have e2 : y.text = t := congrArg It.text hyf
          rw [Fo.htxt, ltxt, if_pos (by omega), e2]
        | list c r =>
          have e1 : y.kind = 5 := congrArg It.kind hyf
          omega
      have hel := esc_len (bs y.text)
      rw [← size_bs] at hel
      refine ⟨fun vals w1 => ∃ (j : Nat) (s1 : ByteArray), vals = [.int .i64 j, .string s1] ∧ j ≤ y.text.size ∧ bs s1 ++ esc (rest y.text j) = esc (bs y.text) ∧
          w1 = setCells (w.alloc (.cells #[.int .i64 0, .string { data := #[] }, .int .i64 0, .int .i64 0] 34)) ⟨w.heap.size, 0, none⟩ 0 [.int .i64 y.kind, .string y.text, .int .i64 y.kids, .int .i64 y.pos], mu1 y.text.size,
        ⟨0, _, rfl, Nat.zero_le _, rfl, rfl⟩, ?_⟩
      rintro n4 s1 w1 ⟨j, s1', hv2, hj, hs1, rfl⟩
      cases hv2
      have hl1 := congrArg List.length hs1
      rw [List.length_append, ← size_bs] at hl1
      refine ⟨_, blk_cell (j := 1) hb, cond_dec (fun hlt2 => ?_) (fun hge => ?_)⟩
      · have hl' : j < y.text.size := by omega
        have e1 := extract_one hl'
        have z1 : (y.text.extract j (j + 1)).size = 1 := by rw [size_bs, e1]; rfl
        refine ⟨_, blk_cell (j := 1) hb, ?_⟩
        rw [wrap_succ (by omega), Int.toNat_natCast, Int.toNat_natCast]
        refine ⟨⟨by omega, by omega, by omega⟩, by omega, _, blk_cell (j := 1) hb, ⟨by omega, hlt2⟩, ?_⟩
        rw [bt_eq, show ((((bs y.text).getD j 0).toNat : Int) == 34) = ((bs y.text).getD j 0 == 34) from u8_beq _ 34 (by omega)]
        rw [rest_cons hl'] at hs1
        refine cond_intro (fun hq => ?_) (fun hq => ?_)
        · have hq' : (bs y.text).getD j 0 = 34 := by simpa using hq
          refine ⟨?_, ⟨j + 1, _, rfl, hl', ?_, rfl⟩, ?_⟩
          · rw [size_bs, bs_append, List.length_append, ← size_bs, ← size_bs]; omega
          · rw [bs_append, bs_append, e1, ← hs1, hq', esc, if_pos rfl]
            simp [bs]
          · simp only [mu1, Int.toNat_natCast]; omega
        · have hq' : (bs y.text).getD j 0 ≠ 34 := by simpa using hq
          refine ⟨⟨j + 1, _, rfl, hl', ?_, rfl⟩, ?_⟩
          · rw [bs_append, e1, ← hs1, esc, if_neg hq']
            simp
          · simp only [mu1, Int.toNat_natCast]; omega
      · rw [rest_nil (by omega)] at hs1
        have hs1' : bs s1 = esc (bs y.text) := by rw [← hs1]; simp [esc]
        refine ⟨by omega, ?_, ⟨_, rfl, ?_⟩, he⟩
        · rw [size_bs, bs_append, List.length_append, ← size_bs, ← size_bs]
          show 1 + s1.size + 1 ≤ _
          omega
        · rw [bs_append, bs_append, hs1', hx]; rfl
    · -- a list
      have h5' : y.kind = 5 := by simpa using h5
      have hx : f.htxt = 40 :: (f.sub.more.tail ++ [41]) := by
        cases f with
        | nil => simp [Fo.cnt] at h0
        | leaf k t r =>
          have e1 : y.kind = k := congrArg It.kind hyf
          have := hg.1
          rw [← e1, h5'] at this
          simp [okLeaf] at this
        | list c r => rfl
      have hsm := more_len (Fo.good_sub hg)
      refine Called.of (c40 hL hg h0 hd hh _ (hs.ext he)) ?_
      rintro v w2 ⟨⟨p, k, rfl, ho⟩, he2⟩
      have hsl := starts_len f.sub (i + 1)
      have hsc := f.sub.cnt_le
      refine ⟨_, _, _, rfl, fun vals w3 => ∃ (j : Nat) (g : Fo) (q : Nat) (s5 : ByteArray), vals = [.int .i64 j, .string s5] ∧ j + g.cnt = f.sub.cnt ∧ (starts (i + 1) f.sub).drop j = starts q g ∧ Here L q g ∧ g.good ∧ g.dep ≤ 256 ∧
          g.flat.length ≤ f.sub.flat.length ∧ bs s5 ++ (if j = 0 then g.more.tail else g.more) = f.sub.more.tail ∧ Ext w2 w3, mu1 f.sub.cnt,
        ⟨0, f.sub, i + 1, _, rfl, Nat.zero_add _, rfl, hh.sub h0, Fo.good_sub hg, ?_, Nat.le_refl _, rfl, Ext.refl _⟩, ?_⟩
      · rcases Nat.eq_zero_or_pos f.sub.cnt with h | h
        · rw [cnt_zero h]; exact Nat.zero_le _
        · have := Fo.dep_sub h; omega
      rintro n5 s5 w3 ⟨j, g, q, s5', hv3, hjc, hst, hgh, hgg, hgd, hgl, hs5, he3⟩
      cases hv3
      have hl5 := congrArg List.length hs5
      rw [List.length_append, ← size_bs, List.length_tail] at hl5
      rw [hsl]
      refine cond_dec (fun hlt2 => ?_) (fun hge => ?_)
      · have hg0 : 0 < g.cnt := by omega
        have hglen := Fo.len_split hg0
        have hgs := Fo.hlen_sub hg0
        have hgc := Fo.cnt_next hg0
        have hht := htxt_len hgg
        have hq : (starts (i + 1) f.sub)[j]? = some q := by
          have h1 : ((starts (i + 1) f.sub).drop j)[0]? = some q := by rw [hst, starts_step hg0]; rfl
          simpa using h1
        have hst2 : (starts (i + 1) f.sub).drop (j + 1) = starts (q + g.hlen) g.next := by
          rw [← List.drop_drop, hst, starts_step hg0]; rfl
        intro K hK
        have step : ∀ s6 : ByteArray, bs s6 ++ (g.htxt ++ g.next.more) = f.sub.more.tail → K [.string s6] w3 := by
          intro s6 hs6
          refine hK s6 ?_
          have hl6 := congrArg List.length hs6
          rw [List.length_append, ← size_bs, List.length_tail] at hl6
          obtain ⟨ad2, hA2, hc2⟩ := nats_at (own_ext ho he3) hq
          refine ⟨ad2, hA2, ⟨by omega, by omega⟩, _, by rw [Int.toNat_natCast]; exact hc2, Called.of (ih g (by omega) hgg hg0 hgd q hgh w3 (hs.ext (Ext.trans he (he2.trans he3)))) ?_⟩
          rintro v w4 ⟨⟨s7, rfl, hs7⟩, he4⟩
          have hz7 : s7.size = g.htxt.length := by rw [size_bs, hs7]
          rw [wrap_succ (by omega)]
          refine ⟨s7, rfl, by omega, ⟨j + 1, g.next, q + g.hlen, s6 ++ s7, rfl, by omega, hst2, hgh.next hg0, Fo.good_next hgg, Nat.le_trans g.dep_next hgd, by omega, ?_, he3.trans he4⟩, ?_⟩
          · rw [if_neg (Nat.succ_ne_zero _), bs_append, hs7, ← hs6, List.append_assoc]
          · simp only [mu1, Int.toNat_natCast]; omega
        rw [Fo.more_step hg0] at hs5
        refine cond_dec (fun hpos => ?_) (fun hz => ?_)
        · rw [if_neg (by omega)] at hs5
          refine ⟨by omega, step _ ?_⟩
          rw [bs_append, ← hs5]
          simp [bs]
        · rw [if_pos (by omega)] at hs5
          exact step _ hs5
      · have hg0 : g = .nil := cnt_zero (by omega)
        subst hg0
        have hs5' : bs s5 = f.sub.more.tail := by rw [← hs5]; simp [Fo.more]
        refine ⟨by omega, ?_, ⟨_, rfl, ?_⟩, Ext.trans he (he2.trans he3)⟩
        · rw [size_bs, bs_append, List.length_append, ← size_bs, ← size_bs]
          show 1 + s5.size + 1 ≤ _
          omega
        · rw [bs_append, bs_append, hs5', hx]; rfl
    · -- a word
      have h4' : y.kind ≠ 4 := by simpa using h4
      have h5' : y.kind ≠ 5 := by simpa using h5
      have hx : f.htxt = bs y.text := by
        cases f with
        | nil => simp [Fo.cnt] at h0
        | leaf k t r =>
          have e1 : y.kind = k := congrArg It.kind hyf
          have e2 : y.text = t := congrArg It.text hyf
          rw [Fo.htxt, ltxt, if_neg (by omega), e2]
        | list c r =>
          have e1 : y.kind = 5 := congrArg It.kind hyf
          omega
      exact ⟨_, blk_cell (j := 1) hb, ⟨_, rfl, hx.symm⟩, he⟩

theorem c13 {A : Option Addr} {C : Nat} {L : List It} (hL : L.length < 4294967296) {f : Fo} (hf : L.map strip = f.flat) (hg : f.good) (hd : f.dep ≤ 256) (w : World) (hs : SlAt w A (itcs L)) :
    Ret Tryd.prog 13 #[.slice A L.length C] w fun v w' => (∃ s, v = .string s ∧ bs s = f.lines) ∧ Ext w w' := by
  have hlen : L.length = f.flat.length := by rw [← hf, List.length_map]
  have hfl := lines_len hg
  refine run13 _ _ _ _ _ (Called.of (c25 hL hf hg hd w hs) ?_)
  rintro v w1 ⟨⟨p, k, rfl, ho⟩, he1⟩
  have hsl := starts_len f 0
  refine ⟨_, _, _, rfl, fun vals w2 => ∃ (j : Nat) (g : Fo) (q : Nat) (s5 : ByteArray), vals = [.int .i64 j, .string s5] ∧ j + g.cnt = f.cnt ∧ (starts 0 f).drop j = starts q g ∧ Here L q g ∧ g.good ∧ g.dep ≤ 256 ∧
      g.flat.length ≤ f.flat.length ∧ bs s5 ++ g.lines = f.lines ∧ Ext w1 w2, mu1 f.cnt,
    ⟨0, f, 0, _, rfl, Nat.zero_add _, rfl, ⟨[], by rw [List.drop_zero, hf, List.append_nil]⟩, hg, hd, Nat.le_refl _, rfl, Ext.refl _⟩, ?_⟩
  rintro n s w2 ⟨j, g, q, s5, hv, hjc, hst, hgh, hgg, hgd, hgl, hs5, he2⟩
  cases hv
  have hfc := f.cnt_le
  have hl5 := congrArg List.length hs5
  rw [List.length_append, ← size_bs] at hl5
  rw [hsl]
  refine cond_dec (fun hlt2 => ?_) (fun hge => ?_)
  · have hg0 : 0 < g.cnt := by omega
    have hglen := Fo.len_split hg0
    have hgs := Fo.hlen_sub hg0
    have hgc := Fo.cnt_next hg0
    have hht := htxt_len hgg
    have hq : (starts 0 f)[j]? = some q := by
      have h1 : ((starts 0 f).drop j)[0]? = some q := by rw [hst, starts_step hg0]; rfl
      simpa using h1
    have hst2 : (starts 0 f).drop (j + 1) = starts (q + g.hlen) g.next := by
      rw [← List.drop_drop, hst, starts_step hg0]; rfl
    obtain ⟨ad2, hA2, hc2⟩ := nats_at (own_ext ho he2) hq
    refine ⟨ad2, hA2, ⟨by omega, by omega⟩, _, by rw [Int.toNat_natCast]; exact hc2, Called.of (c28 hL _ g (Nat.le_refl _) hgg hg0 hgd q hgh w2 (hs.ext (he1.trans he2))) ?_⟩
    rintro v w4 ⟨⟨s7, rfl, hs7⟩, he4⟩
    have hz7 : s7.size = g.htxt.length := by rw [size_bs, hs7]
    have hz8 : (s7 ++ { data := #[10] } : ByteArray).size = g.htxt.length + 1 := by rw [size_bs, bs_append, List.length_append, ← size_bs, hz7]; rfl
    rw [wrap_succ (by omega)]
    refine ⟨s7, rfl, by omega, by omega, ⟨j + 1, g.next, q + g.hlen, _, rfl, by omega, hst2, hgh.next hg0, Fo.good_next hgg, Nat.le_trans g.dep_next hgd, by omega, ?_, he2.trans he4⟩, ?_⟩
    · rw [bs_append, bs_append, hs7, ← hs5, Fo.lines_step hg0]
      simp [bs]
    · simp only [mu1, Int.toNat_natCast]; omega
  · have hg0 : g = .nil := cnt_zero (by omega)
    subst hg0
    exact ⟨⟨_, rfl, by rw [← hs5]; simp [Fo.lines]⟩, he1.trans he2⟩
end Go.Proofs.Sx
