/- Part of the proof: SxH2. -/
import Derived.Test.YtonenlplcidihaaDoorSxH
/-! Forests that lie in lists. -/
namespace Go.Proofs.Sx
open Go Go.V Go.Proofs Go.RowKit
set_option maxRecDepth 100000

/-- An item without its place. -/
def strip (x : It) : It := { x with pos := 0 }
namespace Fo
def hlen : Fo → Nat
  | nil => 0
  | leaf _ _ _ => 1
  | list c _ => c.flat.length + 1
def next : Fo → Fo
  | nil => nil
  | leaf _ _ r => r
  | list _ r => r
/-- The elements of the first item. -/
def sub : Fo → Fo
  | nil => nil
  | leaf _ _ _ => nil
  | list c _ => c
def hd : Fo → It
  | nil => ⟨0, mk [], 0, 0⟩
  | leaf k t _ => ⟨k, t, 0, 0⟩
  | list c _ => ⟨5, mk [], c.cnt, 0⟩
theorem flat_split {f : Fo} (h : 0 < f.cnt) : f.flat = f.hd :: (f.sub.flat ++ f.next.flat) := by
  cases f with
  | nil => simp [cnt] at h
  | leaf k t r => rfl
  | list c r => rfl
theorem hlen_sub {f : Fo} (h : 0 < f.cnt) : f.hlen = f.sub.flat.length + 1 := by
  cases f with
  | nil => simp [cnt] at h
  | leaf k t r => rfl
  | list c r => rfl
theorem len_split {f : Fo} (h : 0 < f.cnt) : f.flat.length = f.hlen + f.next.flat.length := by
  rw [flat_split h, hlen_sub h, List.length_cons, List.length_append]; omega
theorem cnt_next {f : Fo} (h : 0 < f.cnt) : f.cnt = f.next.cnt + 1 := by
  cases f with
  | nil => simp [cnt] at h
  | leaf k t r => rfl
  | list c r => rfl
theorem good_next {f : Fo} (h : f.good) : f.next.good := by
  cases f with
  | nil => exact h
  | leaf k t r => exact h.2.2
  | list c r => exact h.2
theorem good_sub {f : Fo} (h : f.good) : f.sub.good := by
  cases f with
  | nil => exact h
  | leaf k t r => trivial
  | list c r => exact h.1
theorem dep_next (f : Fo) : f.next.dep ≤ f.dep := by
  cases f with
  | nil => exact Nat.le_refl _
  | leaf k t r => exact Nat.le_refl _
  | list c r => exact Nat.le_max_right _ _
theorem dep_sub {f : Fo} (h : 0 < f.sub.cnt) : f.sub.dep + 1 ≤ f.dep := by
  cases f with
  | nil => simp [sub, cnt] at h
  | leaf k t r => simp [sub, cnt] at h
  | list c r => exact Nat.le_max_left _ _
theorem hd_kids (f : Fo) : f.hd.kids = (f.sub.cnt : Int) := by cases f <;> rfl
theorem hd_ok {f : Fo} (h : f.good) (h0 : 0 < f.cnt) : okItem f.hd = true := by
  cases f with
  | nil => simp [cnt] at h0
  | leaf k t r =>
    have h1 : k ≠ 5 := by
      intro e; subst e; have := h.1; simp [okLeaf] at this
    unfold okItem
    rw [if_neg (show (hd (leaf k t r)).kind ≠ 5 from h1)]
    show (decide ((0 : Int) = 0) && okLeaf k (bs t)) = true
    rw [h.1]; rfl
  | list c r =>
    unfold okItem
    rw [if_pos (show (hd (list c r)).kind = 5 from rfl)]
    show (decide ((0 : Int) ≤ (c.cnt : Int)) && decide (bs (mk []) = [])) = true
    rw [decide_eq_true (by omega), decide_eq_true (bs_mk [])]; rfl
theorem hd_size {f : Fo} (h : f.good) : f.hd.text.size ≤ 20 := by
  cases f with
  | nil => exact Nat.zero_le _
  | leaf k t r => exact h.2.1
  | list c r => exact Nat.zero_le _
end Fo

/-- A forest lies in a list from i on. -/
def Here (L : List It) (i : Nat) (f : Fo) : Prop := ∃ R, (L.map strip).drop i = f.flat ++ R
theorem Here.next {L : List It} {i : Nat} {f : Fo} (h : Here L i f) (h0 : 0 < f.cnt) : Here L (i + f.hlen) f.next := by
  obtain ⟨R, hR⟩ := h
  refine ⟨R, ?_⟩
  rw [← List.drop_drop, hR, Fo.flat_split h0, Fo.hlen_sub h0]
  rw [List.cons_append, List.drop_succ_cons, List.append_assoc, List.drop_left]
theorem Here.sub {L : List It} {i : Nat} {f : Fo} (h : Here L i f) (h0 : 0 < f.cnt) : Here L (i + 1) f.sub := by
  obtain ⟨R, hR⟩ := h
  refine ⟨f.next.flat ++ R, ?_⟩
  rw [← List.drop_drop, hR, Fo.flat_split h0]
  rw [List.cons_append, List.drop_succ_cons, List.append_assoc]; rfl
theorem Here.get {L : List It} {i : Nat} {f : Fo} (h : Here L i f) (h0 : 0 < f.cnt) : ∃ y, L[i]? = some y ∧ strip y = f.hd := by
  obtain ⟨R, hR⟩ := h
  have h1 : ((L.map strip).drop i)[0]? = some f.hd := by rw [hR, Fo.flat_split h0]; rfl
  rw [List.getElem?_drop, Nat.add_zero, List.getElem?_map] at h1
  cases hy : L[i]? with
  | none => rw [hy] at h1; cases h1
  | some y => rw [hy] at h1; exact ⟨y, rfl, Option.some.inj h1⟩
theorem Here.le {L : List It} {i : Nat} {f : Fo} (h : Here L i f) (h0 : 0 < f.cnt) : i + f.flat.length ≤ L.length := by
  obtain ⟨y, hy, _⟩ := h.get h0
  have hi := (List.getElem?_eq_some_iff.1 hy).1
  obtain ⟨R, hR⟩ := h
  have := congrArg List.length hR
  rw [List.length_drop, List.length_map, List.length_append] at this
  omega
theorem okItem_strip (y : It) : okItem (strip y) = okItem y := rfl

/-- An item of a slice is read. -/
theorem sl_item {w : World} {A : Option Addr} {L : List It} (h : SlAt w A (itcs L)) {i : Nat} {y : It} (hy : L[i]? = some y) :
    ∃ ad, A = some ad ∧ ad.spot = none ∧ vcells w (ad.add (i * 4)) 0 (itc y) ∧ w.cell? ((ad.add (i * 4)).add 2) = some (.int .i64 y.kids) := by
  have hi := (List.getElem?_eq_some_iff.1 hy).1
  obtain ⟨ad, hA, hs, hr⟩ := h.at (j := 0) (by rw [itcs_len]; omega)
  refine ⟨ad, hA, hs, item_cells hs hr hy, ?_⟩
  rw [add_add _ hs]
  exact hr _ _ (itcs_get hy 2 _ rfl)

theorem c39 {A : Option Addr} {C : Nat} {L : List It} (hL : L.length < 4294967296) : ∀ (m : Nat) (f : Fo), f.flat.length ≤ m → f.good → 0 < f.cnt → ∀ (depth : Nat), depth + f.dep ≤ 256 → ∀ (i : Nat), Here L i f → ∀ (w : World), SlAt w A (itcs L) →
    Ret Tryd.prog 39 #[.slice A L.length C, .int .i64 i, .int .i64 depth] w fun v w' => v = .int .i64 ((i + f.hlen : Nat) : Int) ∧ Ext w w' := by
  intro m
  induction m with
  | zero => intro f hf _ h0; have := f.cnt_le; omega
  | succ m ih =>
    intro f hf hg h0 depth hd i hh w hs
    obtain ⟨y, hy, hyf⟩ := hh.get h0
    have hle := hh.le h0
    have hsp := Fo.len_split h0
    have hsub := Fo.hlen_sub h0
    have hlt : i < L.length := (List.getElem?_eq_some_iff.1 hy).1
    have hk : y.kids = (f.sub.cnt : Int) := by rw [← Fo.hd_kids, ← hyf]; rfl
    have hkle : f.sub.cnt ≤ L.length := by have := f.sub.cnt_le; omega
    obtain ⟨ad, rfl, hsp2, hv, -⟩ := sl_item hs hy
    refine run39 _ _ _ _ _ _ _ fun K hK => ?_
    have hc0 : (decide ((i : Int) ≥ (L.length : Int)) || decide ((depth : Int) > 256)) = false := by
      rw [Bool.or_eq_false_iff, decide_eq_false_iff_not, decide_eq_false_iff_not]; omega
    refine cond_intro (fun h => by rw [hc0] at h; cases h) (fun _ => ?_)
    refine ⟨ad, rfl, ⟨by omega, by omega⟩, y.kind, y.text, y.kids, y.pos, hv, Called.of (c55 y (by have := Fo.hd_size hg; rw [← hyf] at this; have h5 : y.text.size ≤ 20 := this; omega) w) ?_⟩
    rintro v w4 ⟨rfl, he4⟩
    have hok : okItem y = true := by rw [← okItem_strip, hyf]; exact Fo.hd_ok hg h0
    refine ⟨_, rfl, cond_intro (fun h => by rw [hok] at h; cases h) (fun _ => ?_)⟩
    have hs4 := hs.ext he4
    obtain ⟨ad', e', -, -, hc4⟩ := sl_item hs4 hy
    cases e'
    refine ⟨ad, rfl, ⟨by omega, by omega⟩, _, hc4, ?_⟩
    rw [decide_eq_false (show ¬ y.kids > (L.length : Int) by omega)]
    refine hK _ _ ?_
    show ∃ I, _
    refine ⟨fun vals w2 => ∃ (n j : Nat) (g : Fo), vals = [.int .i64 n, .int .i64 j] ∧ n + g.cnt = f.sub.cnt ∧ i + 1 ≤ j ∧ j + g.flat.length = i + f.hlen ∧ Here L j g ∧ g.good ∧ g.dep ≤ f.sub.dep ∧ Ext w w2, mu1 f.sub.cnt,
      ⟨0, i + 1, f.sub, by rw [wrap_succ (by omega)]; rfl, Nat.zero_add _, Nat.le_refl _, by rw [hsub]; omega, hh.sub h0, Fo.good_sub hg, Nat.le_refl _, he4⟩, ?_⟩
    rintro n1 n2 w2 ⟨n, j, g, hv2, hn, hij, hj, hgh, hgg, hgd, he2⟩
    cases hv2
    obtain ⟨ad', e', -, -, hc2⟩ := sl_item (hs.ext he2) hy
    cases e'
    refine ⟨ad, rfl, ⟨by omega, by omega⟩, _, hc2, ?_⟩
    rw [hk]
    refine cond_dec (fun hlt2 => ?_) (fun hge => ?_)
    · have hg0 : 0 < g.cnt := by omega
      have hfs : 0 < f.sub.cnt := by omega
      have hds := Fo.dep_sub hfs
      have hgl := Fo.len_split hg0
      have hgc := Fo.cnt_next hg0
      rw [wrap_succ (by omega)]
      refine Called.of (ih g (by omega) hgg hg0 (depth + 1) (by omega) j hgh w2 (hs.ext he2)) ?_
      rintro v w3 ⟨rfl, he3⟩
      refine ⟨_, rfl, cond_dec (fun hneg => absurd hneg (by omega)) (fun _ => ?_)⟩
      rw [wrap_succ (by omega)]
      refine ⟨⟨n + 1, j + g.hlen, g.next, rfl, by omega, by omega, by omega, hgh.next hg0, Fo.good_next hgg, Nat.le_trans g.dep_next hgd, he2.trans he3⟩, ?_⟩
      simp only [mu1, Int.toNat_natCast]; omega
    · have hg0 : g.cnt = 0 := by omega
      have hgn : g = .nil := by
        cases g with
        | nil => rfl
        | leaf k t r => simp [Fo.cnt] at hg0
        | list c r => simp [Fo.cnt] at hg0
      subst hgn
      have : j = i + f.hlen := by simpa [Fo.flat] using hj
      rw [this]
      exact ⟨rfl, he2⟩
theorem cnt_zero {g : Fo} (h : g.cnt = 0) : g = .nil := by
  cases g with
  | nil => rfl
  | leaf k t r => simp [Fo.cnt] at h
  | list c r => simp [Fo.cnt] at h

/-- Where the items that stand side by side begin. -/
def starts : Nat → Fo → List Nat
  | _, .nil => []
  | p, .leaf _ _ r => p :: starts (p + 1) r
  | p, .list c r => p :: starts (p + (c.flat.length + 1)) r
theorem starts_step {f : Fo} (h : 0 < f.cnt) (p : Nat) : starts p f = p :: starts (p + f.hlen) f.next := by
  cases f with
  | nil => simp [Fo.cnt] at h
  | leaf k t r => rfl
  | list c r => rfl
theorem starts_len (f : Fo) : ∀ p, (starts p f).length = f.cnt := by
  induction f with
  | nil => exact fun _ => rfl
  | leaf k t r ih => intro p; simp [starts, Fo.cnt, ih]
  | list c r _ ih => intro p; simp [starts, Fo.cnt, ih]

theorem c23 {A : Option Addr} {C : Nat} {L : List It} (hL : L.length < 4294967296) {f : Fo} (hf : L.map strip = f.flat) (hg : f.good) (hd : f.dep ≤ 256) (w : World) (hs : SlAt w A (itcs L)) :
    Ret Tryd.prog 23 #[.slice A L.length C] w fun v w' => v = .bool true ∧ Ext w w' := by
  have hlen : L.length = f.flat.length := by rw [← hf, List.length_map]
  refine run23 _ _ _ _ _ ⟨fun vals w2 => ∃ (j : Nat) (g : Fo), vals = [.int .i64 j] ∧ j + g.flat.length = L.length ∧ Here L j g ∧ g.good ∧ g.dep ≤ 256 ∧ Ext w w2, mu1 L.length,
    ⟨0, f, rfl, by omega, ⟨[], by rw [List.drop_zero, hf, List.append_nil]⟩, hg, hd, Ext.refl _⟩, ?_⟩
  rintro n1 w2 ⟨j, g, hv2, hj, hgh, hgg, hgd, he2⟩
  cases hv2
  refine cond_dec (fun hlt => ?_) (fun hge => ⟨rfl, he2⟩)
  have hg0 : 0 < g.cnt := by
    rcases Nat.eq_zero_or_pos g.cnt with h | h
    · rw [cnt_zero h] at hj; simp [Fo.flat] at hj; omega
    · exact h
  have hgl := Fo.len_split hg0
  have hh1 := Fo.hlen_sub hg0
  refine Called.of (c39 hL _ g (Nat.le_refl _) hgg hg0 0 (by omega) j hgh w2 (hs.ext he2)) ?_
  rintro v w3 ⟨rfl, he3⟩
  refine ⟨_, rfl, cond_dec (fun h => absurd h (by omega)) (fun _ => ⟨⟨j + g.hlen, g.next, rfl, by omega, hgh.next hg0, Fo.good_next hgg, Nat.le_trans g.dep_next hgd, he2.trans he3⟩, ?_⟩)⟩
  simp only [mu1, Int.toNat_natCast]; omega

theorem plain_nats (l : List Nat) : plainCells (nats l) = true := by
  induction l with
  | nil => rfl
  | cons x l ih => exact ih
theorem nats_app (a b : List Nat) : nats (a ++ b) = nats a ++ nats b := by simp [nats]

theorem c25 {A : Option Addr} {C : Nat} {L : List It} (hL : L.length < 4294967296) {f : Fo} (hf : L.map strip = f.flat) (hg : f.good) (hd : f.dep ≤ 256) (w : World) (hs : SlAt w A (itcs L)) :
    Ret Tryd.prog 25 #[.slice A L.length C] w fun v w' => (∃ p k, v = .slice p (starts 0 f).length k ∧ w'.ownsRow w.heap.size 3 1 (.slice p (starts 0 f).length k) (starts 0 f).length (nats (starts 0 f))) ∧ Ext w w' := by
  have hlen : L.length = f.flat.length := by rw [← hf, List.length_map]
  refine run25 _ _ _ _ _ (Called.of (c23 hL hf hg hd w hs) ?_)
  rintro v w1 ⟨rfl, he1⟩
  refine ⟨_, rfl, ?_⟩
  refine ⟨fun vals w2 => ∃ (j : Nat) (g : Fo) (D : List Nat) (p : Option Addr) (k : Nat), vals = [.int .i64 j, .slice p D.length k] ∧ D ++ starts j g = starts 0 f ∧ w2.ownsRow w.heap.size 3 1 (.slice p D.length k) D.length (nats D) ∧
    j + g.flat.length = L.length ∧ Here L j g ∧ g.good ∧ g.dep ≤ 256 ∧ Ext w w2, mu1 L.length,
    ⟨0, f, [], none, 0, rfl, rfl, ⟨rfl, .inl ⟨rfl, rfl⟩⟩, by omega, ⟨[], by rw [List.drop_zero, hf, List.append_nil]⟩, hg, hd, he1⟩, ?_⟩
  rintro n1 p' k' k1' w2 ⟨j, g, D, p, k, hv2, hD, ho, hj, hgh, hgg, hgd, he2⟩
  cases hv2
  have hDl := congrArg List.length hD
  rw [List.length_append, starts_len, starts_len] at hDl
  have hfc := f.cnt_le
  refine cond_dec (fun hlt => ?_) (fun hge => ?_)
  · have hg0 : 0 < g.cnt := by
      rcases Nat.eq_zero_or_pos g.cnt with h | h
      · rw [cnt_zero h] at hj; simp [Fo.flat] at hj; omega
      · exact h
    have hgl := Fo.len_split hg0
    have hh1 := Fo.hlen_sub hg0
    refine ⟨_, _, _, AppOk.one ho rfl rfl (by unfold maxLen; omega) (by omega) he2.size, ?_⟩
    intro p1 k3 w3 r
    have hx := (Ext.refl w2).alloc (.cells #[Value.int IntKind.i64 (j : Int)] 3)
    have hb3 : Ext w w3 := r.below (own_ext ho hx) (he2.trans hx) (by rw [size_alloc]; have := he2.size; omega) (Nat.le_refl _)
    refine Called.of (c39 hL _ g (Nat.le_refl _) hgg hg0 0 (by omega) j hgh w3 (hs.ext hb3)) ?_
    rintro v w4 ⟨rfl, he4⟩
    have e1 : (D ++ [j]).length = D.length + 1 := by simp
    refine ⟨_, rfl, ⟨j + g.hlen, g.next, D ++ [j], p1, k3, by rw [e1], ?_, ?_, by omega, hgh.next hg0, Fo.good_next hgg, Nat.le_trans g.dep_next hgd, hb3.trans he4⟩, ?_⟩
    · rw [List.append_assoc, ← hD, starts_step hg0]; rfl
    · rw [e1, nats_app]; exact own_ext r.own he4
    · simp only [mu1, Int.toNat_natCast]; omega
  · have hg0 : g = .nil := by
      apply cnt_zero
      have := g.cnt_le
      omega
    subst hg0
    have hD' : D = starts 0 f := by rw [← hD]; simp [starts]
    rw [← hD']
    exact ⟨⟨_, _, rfl, ho⟩, he2⟩

theorem c40 {A : Option Addr} {C : Nat} {L : List It} (hL : L.length < 4294967296) {f : Fo} (hg : f.good) (h0 : 0 < f.cnt) (hd : f.dep ≤ 256) {i : Nat} (hh : Here L i f) (w : World) (hs : SlAt w A (itcs L)) :
    Ret Tryd.prog 40 #[.slice A L.length C, .int .i64 i] w fun v w' =>
      (∃ p k, v = .slice p (starts (i + 1) f.sub).length k ∧ w'.ownsRow w.heap.size 3 1 (.slice p (starts (i + 1) f.sub).length k) (starts (i + 1) f.sub).length (nats (starts (i + 1) f.sub))) ∧ Ext w w' := by
  obtain ⟨y, hy, hyf⟩ := hh.get h0
  have hle := hh.le h0
  have hsp := Fo.len_split h0
  have hsub := Fo.hlen_sub h0
  have hlt : i < L.length := (List.getElem?_eq_some_iff.1 hy).1
  have hk : y.kids = (f.sub.cnt : Int) := by rw [← Fo.hd_kids, ← hyf]; rfl
  have hkle : f.sub.cnt ≤ L.length := by have := f.sub.cnt_le; omega
  refine run40 _ _ _ _ _ _ ⟨fun vals w2 => ∃ (j : Nat) (g : Fo) (D : List Nat) (p : Option Addr) (k : Nat), vals = [.int .i64 D.length, .int .i64 j, .slice p D.length k] ∧ D ++ starts j g = starts (i + 1) f.sub ∧
      w2.ownsRow w.heap.size 3 1 (.slice p D.length k) D.length (nats D) ∧ D.length + g.cnt = f.sub.cnt ∧ j + g.flat.length = i + f.hlen ∧ Here L j g ∧ g.good ∧ g.dep ≤ 256 ∧ Ext w w2, mu1 f.sub.cnt,
    ⟨i + 1, f.sub, [], none, 0, by rw [wrap_succ (by omega)]; rfl, rfl, ⟨rfl, .inl ⟨rfl, rfl⟩⟩, by simp, by rw [hsub]; omega, hh.sub h0, Fo.good_sub hg, ?_, Ext.refl _⟩, ?_⟩
  · rcases Nat.eq_zero_or_pos f.sub.cnt with h | h
    · rw [cnt_zero h]; exact Nat.zero_le _
    · have := Fo.dep_sub h; omega
  rintro n n1 p' k' k1' w2 ⟨j, g, D, p, k, hv2, hD, ho, hn, hj, hgh, hgg, hgd, he2⟩
  cases hv2
  obtain ⟨ad, rfl, -, -, hc2⟩ := sl_item (hs.ext he2) hy
  refine ⟨ad, rfl, ⟨by omega, by omega⟩, _, hc2, ?_⟩
  rw [hk]
  refine cond_dec (fun hlt => ?_) (fun hge => ?_)
  · have hg0 : 0 < g.cnt := by omega
    have hgl := Fo.len_split hg0
    have hgc := Fo.cnt_next hg0
    refine ⟨_, _, _, AppOk.one ho rfl rfl (by unfold maxLen; omega) (by omega) he2.size, ?_⟩
    intro p1 k3 w3 r
    have hx := (Ext.refl w2).alloc (.cells #[Value.int IntKind.i64 (j : Int)] 3)
    have hb3 : Ext w w3 := r.below (own_ext ho hx) (he2.trans hx) (by rw [size_alloc]; have := he2.size; omega) (Nat.le_refl _)
    refine Called.of (c39 hL _ g (Nat.le_refl _) hgg hg0 0 (by omega) j hgh w3 (hs.ext hb3)) ?_
    rintro v w4 ⟨rfl, he4⟩
    have e1 : (D ++ [j]).length = D.length + 1 := by simp
    rw [wrap_succ (by omega)]
    refine ⟨_, rfl, ⟨j + g.hlen, g.next, D ++ [j], p1, k3, by rw [e1], ?_, ?_, by rw [e1]; omega, by omega, hgh.next hg0, Fo.good_next hgg, Nat.le_trans g.dep_next hgd, hb3.trans he4⟩, ?_⟩
    · rw [List.append_assoc, ← hD, starts_step hg0]; rfl
    · rw [e1, nats_app]; exact own_ext r.own he4
    · simp only [mu1, Int.toNat_natCast]; omega
  · have hg0 : g = .nil := cnt_zero (by omega)
    subst hg0
    have hD' : D = starts (i + 1) f.sub := by rw [← hD]; simp [starts]
    rw [← hD']
    exact ⟨⟨_, _, rfl, ho⟩, he2⟩
end Go.Proofs.Sx
