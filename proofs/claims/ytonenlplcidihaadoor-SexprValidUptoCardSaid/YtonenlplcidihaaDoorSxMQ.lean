/- Part of the proof: SxMQ. -/
import Derived.Test.YtonenlplcidihaaDoorSxMW
/-! Lists of items, whatever they hold: forests are unique; the reference's itemEnd and ValidItems; what Valid says. -/
namespace Go.Proofs.Sx
open Go Go.V Go.Proofs Go.RowKit
set_option maxRecDepth 100000
set_option linter.unusedVariables false

theorem leaf_ne5 {k : Int} {t : List UInt8} (h : okLeaf k t = true) : k ≠ 5 := by
  intro e; subst e; simp [okLeaf] at h
theorem fo_unique : ∀ (f g : Fo) {R S : List It}, f.goodV → g.goodV → f.flat ++ R = g.flat ++ S → f.cnt = g.cnt → f = g ∧ R = S
  | .nil, g, R, S, _, _, h, hc => by
    have hg : g = .nil := cnt_zero hc.symm
    subst hg
    exact ⟨rfl, h⟩
  | .leaf k t r, .nil, R, S, _, _, h, hc => by simp [Fo.cnt] at hc
  | .leaf k t r, .leaf k' t' r', R, S, hf, hg, h, hc => by
    have h' : (⟨k, t, 0, 0⟩ : It) :: (r.flat ++ R) = ⟨k', t', 0, 0⟩ :: (r'.flat ++ S) := h
    obtain ⟨h1, h2⟩ := List.cons.inj h'
    have e1 : k = k' := congrArg It.kind h1
    have e2 : t = t' := congrArg It.text h1
    obtain ⟨e3, e4⟩ := fo_unique r r' hf.2.2 hg.2.2 h2 (Nat.succ.inj hc)
    subst e1; subst e2; subst e3
    exact ⟨rfl, e4⟩
  | .leaf k t r, .list c' r', R, S, hf, hg, h, hc => by
    have h' : (⟨k, t, 0, 0⟩ : It) :: (r.flat ++ R) = ⟨5, mk [], (c'.cnt : Int), 0⟩ :: (c'.flat ++ r'.flat ++ S) := h
    exact absurd (congrArg It.kind (List.cons.inj h').1) (leaf_ne5 hf.1)
  | .list c r, .nil, R, S, _, _, h, hc => by simp [Fo.cnt] at hc
  | .list c r, .leaf k' t' r', R, S, hf, hg, h, hc => by
    have h' : (⟨5, mk [], (c.cnt : Int), 0⟩ : It) :: (c.flat ++ r.flat ++ R) = ⟨k', t', 0, 0⟩ :: (r'.flat ++ S) := h
    exact absurd (congrArg It.kind (List.cons.inj h').1).symm (leaf_ne5 hg.1)
  | .list c r, .list c' r', R, S, hf, hg, h, hc => by
    have h' : (⟨5, mk [], (c.cnt : Int), 0⟩ : It) :: (c.flat ++ r.flat ++ R) = ⟨5, mk [], (c'.cnt : Int), 0⟩ :: (c'.flat ++ r'.flat ++ S) := h
    obtain ⟨h1, h2⟩ := List.cons.inj h'
    have e1 : (c.cnt : Int) = (c'.cnt : Int) := congrArg It.kids h1
    rw [List.append_assoc, List.append_assoc] at h2
    obtain ⟨e2, e3⟩ := fo_unique c c' hf.1 hg.1 h2 (by omega)
    obtain ⟨e4, e5⟩ := fo_unique r r' hf.2 hg.2 e3 (Nat.succ.inj hc)
    subst e2; subst e4
    exact ⟨rfl, e5⟩
theorem fo_split : ∀ (f : Fo) {n : Nat}, n ≤ f.cnt → ∃ f1 f2 : Fo, f = f1.app f2 ∧ f1.cnt = n
  | .nil, n, h => ⟨.nil, .nil, rfl, by simp [Fo.cnt] at h; subst h; rfl⟩
  | .leaf k t r, 0, h => ⟨.nil, .leaf k t r, rfl, rfl⟩
  | .leaf k t r, n + 1, h => by
    obtain ⟨a, b, e, hn⟩ := fo_split r (n := n) (Nat.le_of_succ_le_succ h)
    exact ⟨.leaf k t a, b, by rw [e]; rfl, by show a.cnt + 1 = _; rw [hn]⟩
  | .list c r, 0, h => ⟨.nil, .list c r, rfl, rfl⟩
  | .list c r, n + 1, h => by
    obtain ⟨a, b, e, hn⟩ := fo_split r (n := n) (Nat.le_of_succ_le_succ h)
    exact ⟨.list c a, b, by rw [e]; rfl, by show a.cnt + 1 = _; rw [hn]⟩
theorem app_goodV : ∀ {f g : Fo}, (f.app g).goodV ↔ f.goodV ∧ g.goodV
  | .nil, g => ⟨fun h => ⟨trivial, h⟩, fun h => h.2⟩
  | .leaf k t r, g => ⟨fun h => ⟨⟨h.1, h.2.1, (app_goodV.1 h.2.2).1⟩, (app_goodV.1 h.2.2).2⟩, fun h => ⟨h.1.1, h.1.2.1, app_goodV.2 ⟨h.1.2.2, h.2⟩⟩⟩
  | .list c r, g => ⟨fun h => ⟨⟨h.1, (app_goodV.1 h.2).1⟩, (app_goodV.1 h.2).2⟩, fun h => ⟨h.1.1, app_goodV.2 ⟨h.1.2, h.2⟩⟩⟩
theorem app_edep : ∀ (f g : Fo), (f.app g).edep = max f.edep g.edep
  | .nil, g => by simp [Fo.app, Fo.edep]
  | .leaf k t r, g => by simp only [Fo.app, Fo.edep, app_edep r g]; omega
  | .list c r, g => by simp only [Fo.app, Fo.edep, app_edep r g]; omega
namespace Fo
/-- The first item alone. -/
def single : Fo → Fo
  | nil => nil
  | leaf k t _ => leaf k t nil
  | list c _ => list c nil
theorem single_cnt {f : Fo} (h : 0 < f.cnt) : f.single.cnt = 1 := by
  cases f with
  | nil => simp [cnt] at h
  | leaf k t r => rfl
  | list c r => rfl
theorem single_flat {f : Fo} (h : 0 < f.cnt) : f.flat = f.single.flat ++ f.next.flat := by
  cases f with
  | nil => simp [cnt] at h
  | leaf k t r => rfl
  | list c r => simp [single, flat, next]
theorem single_goodV {f : Fo} (h : f.goodV) : f.single.goodV := by
  cases f with
  | nil => exact h
  | leaf k t r => exact ⟨h.1, h.2.1, trivial⟩
  | list c r => exact ⟨h.1, trivial⟩
theorem single_edep (f : Fo) : f.single.edep ≤ f.edep := by
  cases f with
  | nil => exact Nat.le_refl _
  | leaf k t r => simp only [single, edep]; omega
  | list c r => simp only [single, edep]; omega
theorem single_hlen (f : Fo) : f.single.hlen = f.hlen := by cases f <;> rfl
theorem one_len {f : Fo} (h : f.cnt = 1) : f.hlen = f.flat.length := by
  have h0 : 0 < f.cnt := by omega
  have h1 := cnt_next h0
  have h2 : f.next = .nil := cnt_zero (by omega)
  rw [len_split h0, h2]; rfl
end Fo

/-- An item and all that belongs to it lies at i. -/
structure TreeAt (L : List It) (i d : Nat) (g : Fo) : Prop where
  one : g.cnt = 1
  here : Here L i g
  good : g.goodV
  deep : d + g.edep ≤ 257
theorem Here.lt {L : List It} {i : Nat} {f : Fo} (h : Here L i f) (h0 : 0 < f.cnt) : i < L.length := by
  obtain ⟨y, hy, _⟩ := h.get h0
  exact (List.getElem?_eq_some_iff.1 hy).1
theorem Here.app {L : List It} {i : Nat} {f g : Fo} (h : Here L i f) (k : Here L (i + f.flat.length) g) : Here L i (f.app g) := by
  obtain ⟨R, hR⟩ := h
  obtain ⟨S, hS⟩ := k
  refine ⟨S, ?_⟩
  rw [← List.drop_drop, hR, List.drop_left] at hS
  rw [hR, hS, Fo.app_flat, List.append_assoc]
theorem Here.tail {L : List It} {i : Nat} {f g : Fo} (h : Here L i (f.app g)) : Here L (i + f.flat.length) g := by
  obtain ⟨R, hR⟩ := h
  refine ⟨R, ?_⟩
  rw [← List.drop_drop, hR, Fo.app_flat, List.append_assoc, List.drop_left]
theorem Here.single {L : List It} {i : Nat} {f : Fo} (h : Here L i f) (h0 : 0 < f.cnt) : Here L i f.single := by
  obtain ⟨R, hR⟩ := h
  exact ⟨f.next.flat ++ R, by rw [hR, Fo.single_flat h0, List.append_assoc]⟩
theorem here_unique {L : List It} {i : Nat} {f g : Fo} (h : Here L i f) (k : Here L i g) (hf : f.goodV) (hg : g.goodV) (hc : f.cnt = g.cnt) : f = g := by
  obtain ⟨R, hR⟩ := h
  obtain ⟨S, hS⟩ := k
  exact (fo_unique f g hf hg (by rw [← hR, ← hS]) hc).1
/-- What remains of the elements begins with a tree. -/
theorem tree_rest {L : List It} {i d : Nat} {f c : Fo} (h : Here L i f) (hf : f.goodV) (hd : d + f.edep ≤ 257) (hc : Here L i c) (hcg : c.goodV) (hlt : c.cnt < f.cnt) : ∃ g, TreeAt L (i + c.flat.length) d g := by
  obtain ⟨f1, f2, rfl, hn⟩ := fo_split f (Nat.le_of_lt hlt)
  obtain ⟨g1, g2⟩ := app_goodV.1 hf
  have h1 : Here L i f1 := by
    obtain ⟨R, hR⟩ := h
    exact ⟨f2.flat ++ R, by rw [hR, Fo.app_flat, List.append_assoc]⟩
  have he := here_unique h1 hc g1 hcg hn
  subst he
  rw [Fo.app_cnt] at hlt
  have h0 : 0 < f2.cnt := by omega
  rw [app_edep] at hd
  have := f2.single_edep
  exact ⟨f2.single, Fo.single_cnt h0, (h.tail).single h0, Fo.single_goodV g2, by omega⟩
theorem okItem_bs {y : It} (h : okItem y = true) (h5 : y.kind = 5) : y.text = mk [] ∧ 0 ≤ y.kids := by
  unfold okItem at h
  rw [if_pos h5, Bool.and_eq_true, decide_eq_true_eq, decide_eq_true_eq] at h
  exact ⟨bs_inj (by rw [bs_mk]; exact h.2), h.1⟩
theorem okItem_leaf' {y : It} (h : okItem y = true) (h5 : y.kind ≠ 5) : y.kids = 0 ∧ okLeaf y.kind (bs y.text) = true := by
  unfold okItem at h
  rw [if_neg h5, Bool.and_eq_true, decide_eq_true_eq] at h
  exact h
/-- An item and its elements make a tree. -/
theorem tree_mk {L : List It} {i d : Nat} {y : It} (hy : L[i]? = some y) (hok : okItem y = true) (hs : y.text.size ≤ 1048576) {c : Fo} (hc : Here L (i + 1) c) (hcg : c.goodV) (hk : y.kids = (c.cnt : Int)) (hd : d ≤ 256)
    (hcd : c.edep = 0 ∨ d + 1 + c.edep ≤ 257) : ∃ g, TreeAt L i d g ∧ g.hlen = c.flat.length + 1 := by
  have hi := (List.getElem?_eq_some_iff.1 hy).1
  obtain ⟨R, hR⟩ := hc
  have hsplit : (L.map strip).drop i = strip y :: (c.flat ++ R) := by
    rw [List.drop_eq_getElem_cons (by rw [List.length_map]; exact hi), hR]
    congr 1
    rw [List.getElem_map]
    rw [List.getElem?_eq_getElem hi] at hy
    rw [Option.some.inj hy]
  by_cases h5 : y.kind = 5
  · obtain ⟨ht, -⟩ := okItem_bs hok h5
    refine ⟨.list c .nil, ⟨rfl, ⟨R, ?_⟩, ⟨hcg, trivial⟩, ?_⟩, rfl⟩
    · rw [hsplit]
      have : strip y = ⟨5, mk [], (c.cnt : Int), 0⟩ := by
        unfold strip
        rw [h5, ht, hk]
      rw [this]; simp [Fo.flat]
    · show d + max (c.edep + 1) 0 ≤ 257
      omega
  · obtain ⟨hk0, hl⟩ := okItem_leaf' hok h5
    have hcn : c = .nil := cnt_zero (by omega)
    subst hcn
    refine ⟨.leaf y.kind y.text .nil, ⟨rfl, ⟨R, ?_⟩, ⟨hl, hs, trivial⟩, by show d + max 1 0 ≤ 257; omega⟩, rfl⟩
    rw [hsplit]
    have : strip y = ⟨y.kind, y.text, 0, 0⟩ := by
      unfold strip
      rw [hk0]
    rw [this]; rfl

/-- itemEnd, whatever the list. -/
theorem c39g {A : Option Addr} {C : Nat} {L : List It} (hL : L.length < 4294967296) (hx : ∀ x ∈ L, x.text.size ≤ 1048576) : ∀ (m depth : Nat), 257 < depth + m → ∀ (i : Nat), i < 8589934592 → ∀ (w : World), SlAt w A (itcs L) →
    Ret Tryd.prog 39 #[.slice A L.length C, .int .i64 i, .int .i64 depth] w fun v w' => ((∃ g, TreeAt L i depth g ∧ v = .int .i64 ((i + g.hlen : Nat) : Int)) ∨ (¬ ∃ g, TreeAt L i depth g) ∧ v = .int .i64 (-1)) ∧ Ext w w' := by
  intro m
  induction m with
  | zero =>
    intro depth hm i hi w hs
    refine run39 _ _ _ _ _ _ _ fun K hK => ?_
    have hc0 : (decide ((i : Int) ≥ (L.length : Int)) || decide ((depth : Int) > 256)) = true := by
      rw [Bool.or_eq_true, decide_eq_true_eq, decide_eq_true_eq]; omega
    refine cond_intro (fun _ => hK true w ⟨.inr ⟨?_, rfl⟩, Ext.refl _⟩) (fun h => by rw [hc0] at h; cases h)
    rintro ⟨g, hg⟩
    have := hg.deep
    omega
  | succ m ih =>
    intro depth hm i hi w hs
    refine run39 _ _ _ _ _ _ _ fun K hK => ?_
    have none : ∀ b w1, b = true → Ext w w1 → (¬ ∃ g, TreeAt L i depth g) → K [.bool b] w1 := by
      intro b w1 hb he hn
      refine hK b w1 ?_
      rw [hb]
      exact ⟨.inr ⟨hn, rfl⟩, he⟩
    refine cond_intro (fun h => none _ _ rfl (Ext.refl _) ?_) (fun hc0 => ?_)
    · rintro ⟨g, hg⟩
      have h1 := hg.here.lt (by rw [hg.one]; omega)
      have h2 := Fo.edep_pos (f := g) (by rw [hg.one]; omega)
      have h3 := hg.deep
      rw [Bool.or_eq_true, decide_eq_true_eq, decide_eq_true_eq] at h
      omega
    rw [Bool.or_eq_false_iff, decide_eq_false_iff_not, decide_eq_false_iff_not] at hc0
    have hil : i < L.length := by omega
    have hd256 : depth ≤ 256 := by omega
    obtain ⟨y, hy⟩ : ∃ y, L[i]? = some y := ⟨_, List.getElem?_eq_getElem hil⟩
    have hys := hx y (List.mem_of_getElem? hy)
    obtain ⟨ad, rfl, hsp2, hv, -⟩ := sl_item hs hy
    have hhd : ∀ g, TreeAt L i depth g → strip y = g.hd := by
      intro g hg
      obtain ⟨z, hz, hzg⟩ := hg.here.get (by rw [hg.one]; omega)
      rw [hy] at hz
      cases hz
      exact hzg
    refine ⟨ad, rfl, ⟨by omega, by omega⟩, y.kind, y.text, y.kids, y.pos, hv, Called.of (c55 y (by omega) w) ?_⟩
    rintro v w4 ⟨rfl, he4⟩
    refine ⟨_, rfl, cond_intro (fun hbad => none _ _ rfl he4 ?_) (fun hok0 => ?_)⟩
    · rintro ⟨g, hg⟩
      have h1 := Fo.hd_ok hg.good (by rw [hg.one]; omega)
      rw [← hhd g hg, okItem_strip] at h1
      rw [h1] at hbad
      cases hbad
    have hok : okItem y = true := by simpa using hok0
    have hs4 := hs.ext he4
    obtain ⟨ad', e', -, -, hc4⟩ := sl_item hs4 hy
    cases e'
    refine ⟨ad, rfl, ⟨by omega, by omega⟩, _, hc4, ?_⟩
    by_cases hkl : y.kids > (L.length : Int)
    · refine none _ _ (decide_eq_true hkl) he4 ?_
      rintro ⟨g, hg⟩
      have h0 : 0 < g.cnt := by rw [hg.one]; omega
      have h1 : y.kids = (g.sub.cnt : Int) := by rw [← Fo.hd_kids, ← hhd g hg]; rfl
      have h2 := g.sub.cnt_le
      have h3 := hg.here.le h0
      have h4 := Fo.len_split h0
      have h5 := Fo.hlen_sub h0
      omega
    rw [decide_eq_false hkl]
    refine hK _ _ ?_
    rw [cond_false]
    obtain ⟨N, hN⟩ : ∃ N : Nat, y.kids = (N : Int) := by
      by_cases h5 : y.kind = 5
      · obtain ⟨-, h0⟩ := okItem_bs hok h5
        exact ⟨y.kids.toNat, by omega⟩
      · obtain ⟨h0, -⟩ := okItem_leaf' hok h5
        exact ⟨0, by omega⟩
    refine ⟨fun vals w2 => ∃ (c : Fo), vals = [.int .i64 c.cnt, .int .i64 ((i + 1 + c.flat.length : Nat) : Int)] ∧ c.cnt ≤ N ∧ Here L (i + 1) c ∧ c.goodV ∧ (c.edep = 0 ∨ depth + 1 + c.edep ≤ 257) ∧ Ext w w2, mu1 N,
      ⟨.nil, by rw [wrap_succ (by omega)]; rfl, Nat.zero_le _, ⟨_, rfl⟩, trivial, .inl rfl, he4⟩, ?_⟩
    rintro n1 n2 w2 ⟨c, hv2, hcN, hch, hcg, hcd, he2⟩
    cases hv2
    obtain ⟨ad', e', -, -, hc2⟩ := sl_item (hs.ext he2) hy
    cases e'
    refine ⟨ad, rfl, ⟨by omega, by omega⟩, _, hc2, ?_⟩
    rw [hN]
    have hclen : c.flat.length ≤ L.length := by
      obtain ⟨R, hR⟩ := hch
      have := congrArg List.length hR
      rw [List.length_drop, List.length_map, List.length_append] at this
      omega
    have hcl := c.cnt_le
    refine cond_dec (fun hlt2 => ?_) (fun hge => ?_)
    · rw [wrap_succ (by omega)]
      refine Called.of (ih (depth + 1) (by omega) (i + 1 + c.flat.length) (by omega) w2 (hs.ext he2)) ?_
      rintro v w3 ⟨hr, he3⟩
      rcases hr with ⟨g, hg, rfl⟩ | ⟨hn, rfl⟩
      · have e1 : (c.app g).flat.length = c.flat.length + g.hlen := by rw [Fo.app_flat, List.length_append, Fo.one_len hg.one]
        have e2 : (c.app g).cnt = c.cnt + 1 := by rw [Fo.app_cnt, hg.one]
        refine ⟨_, rfl, cond_dec (fun hneg => absurd hneg (by omega)) (fun _ => ?_)⟩
        rw [wrap_succ (by omega)]
        refine ⟨⟨c.app g, by rw [e1, e2, Nat.add_assoc (i + 1)], by omega, hch.app hg.here, app_goodV.2 ⟨hcg, hg.good⟩, ?_, he2.trans he3⟩, ?_⟩
        · rw [app_edep]
          have := hg.deep
          rcases hcd with h | h
          · right; omega
          · right; omega
        · simp only [mu1, Int.toNat_natCast]; omega
      · refine ⟨_, rfl, cond_dec (fun _ => ⟨.inr ⟨?_, rfl⟩, he2.trans he3⟩) (fun h => absurd (by omega) h)⟩
        rintro ⟨g, hg⟩
        have h0 : 0 < g.cnt := by rw [hg.one]; omega
        have h1 : y.kids = (g.sub.cnt : Int) := by rw [← Fo.hd_kids, ← hhd g hg]; rfl
        have h3 := Fo.edep_sub (f := g) (by omega)
        have := hg.deep
        exact hn (tree_rest (hg.here.sub h0) (Fo.good_sub hg.good) (by omega) hch hcg (by omega))
    · have hcN' : c.cnt = N := by omega
      obtain ⟨g, hg, hgl⟩ := tree_mk hy hok hys hch hcg (by omega) hd256 hcd
      refine ⟨.inl ⟨g, hg, ?_⟩, he2⟩
      rw [hgl]
      congr 2
      omega

/-- A list is the items of a forest. -/
def IsFo (L : List It) : Prop := ∃ f : Fo, L.map strip = f.flat ∧ f.goodV ∧ f.edep ≤ 257
theorem c23g {A : Option Addr} {C : Nat} {L : List It} (hL : L.length < 4294967296) (hx : ∀ x ∈ L, x.text.size ≤ 1048576) (w : World) (hs : SlAt w A (itcs L)) :
    Ret Tryd.prog 23 #[.slice A L.length C] w fun v w' => (IsFo L ∧ v = .bool true ∨ ¬ IsFo L ∧ v = .bool false) ∧ Ext w w' := by
  refine run23 _ _ _ _ _ ⟨fun vals w2 => ∃ (c : Fo), vals = [.int .i64 c.flat.length] ∧ Here L 0 c ∧ c.goodV ∧ c.edep ≤ 257 ∧ Ext w w2, mu1 L.length, ⟨.nil, rfl, ⟨_, rfl⟩, trivial, Nat.zero_le _, Ext.refl _⟩, ?_⟩
  rintro n1 w2 ⟨c, hv2, hch, hcg, hcd, he2⟩
  cases hv2
  have hclen : c.flat.length ≤ L.length := by
    obtain ⟨R, hR⟩ := hch
    have := congrArg List.length hR
    rw [List.length_drop, List.length_map, List.length_append] at this
    omega
  refine cond_dec (fun hlt => ?_) (fun hge => ?_)
  · refine Called.of (c39g hL hx 258 0 (by omega) c.flat.length (by omega) w2 (hs.ext he2)) ?_
    rintro v w3 ⟨hr, he3⟩
    rcases hr with ⟨g, hg, rfl⟩ | ⟨hn, rfl⟩
    · have h0 : 0 < g.cnt := by rw [hg.one]; omega
      have h1 := Fo.hlen_sub h0
      have e1 : (c.app g).flat.length = c.flat.length + g.hlen := by rw [Fo.app_flat, List.length_append, Fo.one_len hg.one]
      refine ⟨_, rfl, cond_dec (fun h => absurd h (by omega)) (fun _ => ⟨⟨c.app g, by rw [e1], hch.app (by rw [Nat.zero_add]; exact hg.here), app_goodV.2 ⟨hcg, hg.good⟩, ?_, he2.trans he3⟩, ?_⟩)⟩
      · rw [app_edep]
        have := hg.deep
        omega
      · simp only [mu1, Int.toNat_natCast]; omega
    · refine ⟨_, rfl, cond_dec (fun _ => ⟨.inr ⟨?_, rfl⟩, he2.trans he3⟩) (fun h => absurd (by omega) h)⟩
      rintro ⟨f, hf, hfg, hfd⟩
      have hfl : f.flat.length = L.length := by rw [← hf, List.length_map]
      have hfh : Here L 0 f := ⟨[], by rw [List.drop_zero, hf, List.append_nil]⟩
      rcases Nat.lt_or_ge c.cnt f.cnt with h | h
      · have := tree_rest (d := 0) hfh hfg (by omega) hch hcg h
        rw [Nat.zero_add] at this
        exact hn this
      · obtain ⟨c1, c2, rfl, hc1⟩ := fo_split c h
        obtain ⟨g1, g2⟩ := app_goodV.1 hcg
        have h1 : Here L 0 c1 := by
          obtain ⟨R, hR⟩ := hch
          exact ⟨c2.flat ++ R, by rw [hR, Fo.app_flat, List.append_assoc]⟩
        have he := here_unique h1 hfh g1 hfg hc1
        subst he
        rw [Fo.app_flat, List.length_append] at hlt
        omega
  · refine ⟨.inl ⟨⟨c, ?_, hcg, hcd⟩, rfl⟩, he2⟩
    obtain ⟨R, hR⟩ := hch
    rw [List.drop_zero] at hR
    have hl := congrArg List.length hR
    rw [List.length_map, List.length_append] at hl
    have : R = [] := List.eq_nil_of_length_eq_zero (by omega)
    rw [hR, this, List.append_nil]

/-- What the stack of counts stands for. -/
def Stands : List Int → List It → Prop
  | [], M => ∃ f : Fo, f.goodV ∧ f.edep ≤ 257 ∧ M = f.flat
  | a :: st, M => ∃ (f : Fo) (M' : List It), f.goodV ∧ (f.cnt : Int) = a ∧ (f.edep = 0 ∨ st.length + 1 + f.edep ≤ 257) ∧ M = f.flat ++ M' ∧ Stands st M'
theorem stands_pop : ∀ (st : List Int) {M : List It}, Stands (popZ st) M → Stands st M
  | [], M, h => h
  | a :: st, M, h => by
    unfold popZ at h
    rw [List.dropWhile_cons] at h
    split at h
    · rename_i h0
      have h0' : a = 0 := by simpa using h0
      exact ⟨.nil, M, trivial, by rw [h0']; rfl, .inl rfl, rfl, stands_pop st h⟩
    · exact h
theorem stands_nil : ∀ (st : List Int), (∀ n ∈ st, n = 0) → Stands st []
  | [], _ => ⟨.nil, trivial, Nat.zero_le _, rfl⟩
  | a :: st, h => ⟨.nil, [], trivial, (h a List.mem_cons_self).symm, .inl rfl, rfl, stands_nil st fun n hn => h n (List.mem_cons_of_mem _ hn)⟩
theorem stands_of : ∀ (L : List It) (st : List Int), (∀ x ∈ L, x.text.size ≤ 1048576) → (∀ n ∈ st, 0 ≤ n) → st.length ≤ 257 → validGo st L = true → Stands st (L.map strip)
  | [], st, _, hst, _, h => by
    rw [validGo, List.all_eq_true] at h
    exact stands_nil st fun n hn => by
      have h1 := of_decide_eq_true (h n hn)
      have h2 := hst n hn
      omega
  | x :: L, st, hx, hst, hsl, h => by
    rw [validGo] at h
    split at h
    · cases h
    rename_i hlen
    split at h
    · rename_i hok
      have hxs := hx x List.mem_cons_self
      have hpz : ∀ n ∈ popZ st, 0 ≤ n := fun n hn => hst n ((List.dropWhile_sublist _).subset hn)
      refine stands_pop st ?_
      generalize hs : popZ st = s at h hlen hpz
      have hnz : ∀ a s', s = a :: s' → a ≠ 0 := by
        intro a s' e h0
        subst h0
        rw [e] at hs
        have h1 := List.head?_dropWhile_not (fun n : Int => n == 0) st
        unfold popZ at hs
        rw [hs] at h1
        simp at h1
      -- the counts behind
      have hdt : ∀ n ∈ decTop s, 0 ≤ n := by
        intro n hn
        cases s with
        | nil => cases hn
        | cons a s' =>
          rcases List.mem_cons.1 hn with rfl | hn
          · have := hpz a List.mem_cons_self
            have := hnz a s' rfl
            omega
          · exact hpz n (List.mem_cons_of_mem _ hn)
      have hdl : (decTop s).length = s.length := by cases s <;> rfl
      rw [List.map_cons]
      by_cases h5 : x.kind = 5
      · obtain ⟨ht, hk0⟩ := okItem_bs hok h5
        rw [pushK, if_pos h5] at h
        obtain ⟨c, M, hcg, hck, hcd, hM, hS⟩ := stands_of L (x.kids :: decTop s) (fun y hy => hx y (List.mem_cons_of_mem _ hy)) (fun n hn => by
          rcases List.mem_cons.1 hn with rfl | hn
          · exact hk0
          · exact hdt n hn) (by rw [List.length_cons, hdl]; omega) h
        have hxe : strip x = ⟨5, mk [], (c.cnt : Int), 0⟩ := by
          unfold strip
          rw [h5, ht, hck]
        rw [hdl] at hcd
        rw [hM, hxe]
        cases s with
        | nil =>
          obtain ⟨f, hfg, hfd, rfl⟩ := hS
          refine ⟨.list c f, ⟨hcg, hfg⟩, ?_, rfl⟩
          simp only [List.length_nil] at hcd
          show max (c.edep + 1) f.edep ≤ 257
          omega
        | cons a s' =>
          obtain ⟨f, M', hfg, hfk, hfd, rfl, hS'⟩ := hS
          simp only [List.length_cons] at hcd hlen
          refine ⟨.list c f, M', ⟨hcg, hfg⟩, ?_, ?_, ?_, hS'⟩
          · show ((f.cnt + 1 : Nat) : Int) = a
            omega
          · right
            show s'.length + 1 + max (c.edep + 1) f.edep ≤ 257
            omega
          · simp [Fo.flat]
      · obtain ⟨hk0, hl⟩ := okItem_leaf' hok h5
        rw [pushK, if_neg h5] at h
        have hS := stands_of L (decTop s) (fun y hy => hx y (List.mem_cons_of_mem _ hy)) hdt (by rw [hdl]; omega) h
        have hxe : strip x = ⟨x.kind, x.text, 0, 0⟩ := by
          unfold strip
          rw [hk0]
        rw [hxe]
        cases s with
        | nil =>
          obtain ⟨f, hfg, hfd, hM⟩ := hS
          refine ⟨.leaf x.kind x.text f, ⟨hl, hxs, hfg⟩, ?_, by rw [hM]; rfl⟩
          show max 1 f.edep ≤ 257
          omega
        | cons a s' =>
          obtain ⟨f, M', hfg, hfk, hfd, hM, hS'⟩ := hS
          simp only [List.length_cons] at hlen
          refine ⟨.leaf x.kind x.text f, M', ⟨hl, hxs, hfg⟩, ?_, ?_, by rw [hM]; rfl, hS'⟩
          · show ((f.cnt + 1 : Nat) : Int) = a
            omega
          · right
            show s'.length + 1 + max 1 f.edep ≤ 257
            omega
    · cases h
theorem valid_iff {L : List It} (hx : ∀ x ∈ L, x.text.size ≤ 1048576) : validGo [] L = true ↔ IsFo L := by
  constructor
  · intro h
    obtain ⟨f, h1, h2, h3⟩ := stands_of L [] hx (fun _ h => by cases h) (Nat.zero_le _) h
    exact ⟨f, h3, h1, h2⟩
  · rintro ⟨f, h1, h2, h3⟩
    exact valid_flat h2 h3 h1
end Go.Proofs.Sx

/-! SexprValid. -/
namespace Go.Proofs.Sx
open Go Go.V Go.Proofs Go.RowKit
set_option maxRecDepth 100000
set_option linter.unusedVariables false

/-- Two lists of whole numbers that are the same. -/
theorem c24 {D : List Nat} (hD : D.length < 4294967296) {p q : Option Addr} {k k' : Nat} {w : World} (hp : SlAt w p (nats D)) (hq : SlAt w q (nats D)) :
    Ret Tryd.prog 24 #[.slice p D.length k, .slice q D.length k'] w fun v w' => v = .bool true ∧ Ext w w' := by
  refine run24 _ _ _ _ _ _ _ _ (cond_intro (fun h => by simp at h) (fun _ => ?_))
  refine ⟨fun vals w' => ∃ j : Nat, vals = [.int .i64 j] ∧ j ≤ D.length ∧ Ext w w', mu1 D.length, ⟨0, rfl, Nat.zero_le _, Ext.refl _⟩, ?_⟩
  rintro n w1 ⟨j, hv, hj, he⟩
  cases hv
  refine cond_dec (fun hlt => ?_) (fun _ => ⟨rfl, he⟩)
  have hjl : j < D.length := by omega
  obtain ⟨x, hx⟩ : ∃ x, D[j]? = some x := ⟨_, List.getElem?_eq_getElem hjl⟩
  have hv : (nats D)[j]? = some (.int .i64 x) := by rw [nats, List.getElem?_map, hx]; rfl
  have hn : j < (nats D).length := by rw [nats_len]; exact hjl
  obtain ⟨a, rfl, -, ha⟩ := (hp.ext he.drew).at hn
  obtain ⟨b, rfl, -, hb⟩ := (hq.ext he.drew).at hn
  refine ⟨a, rfl, ⟨by omega, hlt⟩, _, by rw [Int.toNat_natCast, Nat.mul_one]; exact ha j _ hv, b, rfl, ⟨by omega, hlt⟩, _, by rw [Int.toNat_natCast, Nat.mul_one]; exact hb j _ hv, cond_intro (fun h => by simp at h) (fun _ => ?_)⟩
  rw [wrap_succ (by omega)]
  refine ⟨⟨j + 1, rfl, hjl, he.drew⟩, ?_⟩
  simp only [mu1, Int.toNat_natCast]; omega

/-- A list of items as it may come. -/
structure Fine (L : List It) : Prop where
  len : L.length ≤ 1000
  item : ∀ x ∈ L, x.text.size ≤ 1048576 ∧ x.kids ≤ 9223372036854775807
theorem Fine.lt {L : List It} (h : Fine L) : L.length < 4294967296 := Nat.lt_of_le_of_lt h.len (by decide)
theorem Fine.text {L : List It} (h : Fine L) : ∀ x ∈ L, x.text.size ≤ 1048576 := fun x hx => (h.item x hx).1
theorem Fine.bd {L : List It} (h : Fine L) : ∀ x ∈ L, x.text.size < 4294967281 ∧ x.kids ≤ 9223372036854775807 := fun x hx => ⟨Nat.lt_of_le_of_lt (h.item x hx).1 (by decide), (h.item x hx).2⟩
/-- What a function that hands back whole numbers answers. -/
def Gives (fn : Nat) (args : Array Value) (w : World) (D : List Nat) : Prop := Ret Tryd.prog fn args w fun v w' => (∃ p k, v = .slice p D.length k ∧ SlAt w' p (nats D)) ∧ Ext w w'
theorem gives_nil {w w' : World} (he : Ext w w') : (∃ p k, (Value.slice none 0 0) = .slice p ([] : List Nat).length k ∧ SlAt w' p (nats [])) ∧ Ext w w' := ⟨⟨none, 0, rfl, .inl rfl⟩, he⟩

section
variable (T : TrimOk) {A : Option Addr} {C : Nat} {L : List It} (hf : Fine L)
include T hf
theorem n19 {w : World} (hs : SlAt w A (itcs L)) (hn : ¬ IsFo L) : Ret Tryd.prog 19 #[.slice A L.length C] w fun v w' => v = .bool false ∧ Ext w w' := by
  have h := c19 (C := C) T hf.lt hf.bd w hs
  have e : validGo [] L = false := by
    cases h : validGo [] L with
    | false => rfl
    | true => exact absurd ((valid_iff hf.text).1 h) hn
  rw [e] at h
  exact h
theorem n20 {w : World} (hs : SlAt w A (itcs L)) (hn : ¬ IsFo L) : Ret Tryd.prog 20 #[.slice A L.length C] w fun v w' => v = .slice none 0 0 ∧ Ext w w' := by
  refine run20 _ _ _ _ _ (Called.of (n19 T hf hs hn) ?_)
  rintro v w1 ⟨rfl, he1⟩
  exact ⟨_, rfl, rfl, he1⟩
omit T in
theorem n23 {w : World} (hs : SlAt w A (itcs L)) (hn : ¬ IsFo L) : Ret Tryd.prog 23 #[.slice A L.length C] w fun v w' => v = .bool false ∧ Ext w w' := by
  refine Ret.mono (c23g hf.lt hf.text w hs) ?_
  rintro v w' ⟨⟨h, -⟩ | ⟨-, rfl⟩, he⟩
  · exact absurd h hn
  · exact ⟨rfl, he⟩
omit T in
theorem n25 {w : World} (hs : SlAt w A (itcs L)) (hn : ¬ IsFo L) : Ret Tryd.prog 25 #[.slice A L.length C] w fun v w' => v = .slice none 0 0 ∧ Ext w w' := by
  refine run25 _ _ _ _ _ (Called.of (n23 hf hs hn) ?_)
  rintro v w1 ⟨rfl, he1⟩
  exact ⟨_, rfl, rfl, he1⟩
theorem n22 {w : World} (hs : SlAt w A (itcs L)) (hn : ¬ IsFo L) : Ret Tryd.prog 22 #[.slice A L.length C] w fun v w' => (∃ s, v = .string s ∧ bs s = []) ∧ Ext w w' := by
  have hea := (Ext.refl w).alloc (.cells #[.pointer none, .slice none 0 0] 62)
  have hbf : BF w.heap.size w.heap.size [] (w.alloc (.cells #[.pointer none, .slice none 0 0] 62)) :=
    .inl ⟨Nat.le_refl _, .slice none 0 0, heap_alloc_new w _, ⟨rfl, .inl ⟨rfl, rfl⟩⟩, by simp [Value.ownBlock]⟩
  refine run22 _ _ _ _ _ (Called.of (n20 T hf (hs.ext hea) hn) ?_)
  rintro v w1 ⟨rfl, he1⟩
  refine ⟨_, _, _, rfl, fun vals w2 => vals = [.int .i64 0] ∧ w2 = w1, fun _ _ => 0, ⟨rfl, rfl⟩, ?_⟩
  rintro n w2 ⟨hv, rfl⟩
  cases hv
  refine cond_dec (fun h => absurd h (by decide)) (fun _ => Called.of (k38 (hbf.ext he1)) ?_)
  rintro v w5 ⟨rfl, hk5⟩
  exact ⟨_, rfl, ⟨_, rfl, bs_mk []⟩, Below.trans (hea.trans he1) hk5.below⟩
omit T in
theorem n13 {w : World} (hs : SlAt w A (itcs L)) (hn : ¬ IsFo L) : Ret Tryd.prog 13 #[.slice A L.length C] w fun v w' => (∃ s, v = .string s ∧ bs s = []) ∧ Ext w w' := by
  refine run13 _ _ _ _ _ (Called.of (n25 hf hs hn) ?_)
  rintro v w1 ⟨rfl, he1⟩
  refine ⟨_, _, _, rfl, fun vals w2 => vals = [.int .i64 0, .string { data := #[] }] ∧ w2 = w1, fun _ _ => 0, ⟨rfl, rfl⟩, ?_⟩
  rintro n s w2 ⟨hv, rfl⟩
  cases hv
  exact cond_dec (fun h => absurd h (by decide)) (fun _ => ⟨⟨_, rfl, rfl⟩, he1⟩)
/-- Valid and ValidItems. -/
theorem p_valid : ∃ b : Bool, (∀ w, SlAt w A (itcs L) → Ret Tryd.prog 19 #[.slice A L.length C] w fun v w' => v = .bool b ∧ Ext w w') ∧ (∀ w, SlAt w A (itcs L) → Ret Tryd.prog 23 #[.slice A L.length C] w fun v w' => v = .bool b ∧ Ext w w') := by
  by_cases h : IsFo L
  · obtain ⟨f, h1, h2, h3⟩ := id h
    exact ⟨true, fun w hs => v19 T hf.lt h1 h2 h3 w hs, fun w hs => c23 hf.lt h1 h2 h3 w hs⟩
  · exact ⟨false, fun w hs => n19 T hf hs h, fun w hs => n23 hf hs h⟩
/-- Format and FormatItems. -/
theorem p_format : ∃ l : List UInt8, (∀ w, SlAt w A (itcs L) → (∃ m, w.cell? ⟨0, 0, none⟩ = some (.int .i64 m)) → Ret Tryd.prog 22 #[.slice A L.length C] w fun v w' => (∃ s, v = .string s ∧ bs s = l) ∧ Ext w w') ∧
    (∀ w, SlAt w A (itcs L) → Ret Tryd.prog 13 #[.slice A L.length C] w fun v w' => (∃ s, v = .string s ∧ bs s = l) ∧ Ext w w') := by
  by_cases h : IsFo L
  · obtain ⟨f, h1, h2, h3⟩ := id h
    exact ⟨f.lines, fun w hs hm => k22 T hf.len h1 h2 h3 w hs hm, fun w hs => c13 hf.lt h1 h2 h3 w hs⟩
  · exact ⟨[], fun w hs _ => n22 T hf hs h, fun w hs => n13 hf hs h⟩
/-- Roots, here and there. -/
theorem p_roots : ∃ D : List Nat, D.length ≤ 1000 ∧ (∀ w, SlAt w A (itcs L) → Gives 20 #[.slice A L.length C] w D) ∧ (∀ w, SlAt w A (itcs L) → Gives 25 #[.slice A L.length C] w D) := by
  by_cases h : IsFo L
  · obtain ⟨f, h1, h2, h3⟩ := id h
    have hl : f.flat.length = L.length := by rw [← h1, List.length_map]
    refine ⟨starts 0 f, by rw [starts_len]; have := f.cnt_le; have := hf.len; omega, fun w hs => ?_, fun w hs => ?_⟩
    · refine Ret.mono (c20 T hf.lt h1 h2 h3 w hs) ?_
      rintro v w' ⟨⟨p, k, rfl, ho⟩, he⟩
      exact ⟨⟨p, k, rfl, own_row ho⟩, he⟩
    · refine Ret.mono (c25 hf.lt h1 h2 h3 w hs) ?_
      rintro v w' ⟨⟨p, k, rfl, ho⟩, he⟩
      exact ⟨⟨p, k, rfl, own_row ho⟩, he⟩
  · refine ⟨[], Nat.zero_le _, fun w hs => ?_, fun w hs => ?_⟩
    · refine Ret.mono (n20 T hf hs h) ?_
      rintro v w' ⟨rfl, he⟩
      exact gives_nil he
    · refine Ret.mono (n25 hf hs h) ?_
      rintro v w' ⟨rfl, he⟩
      exact gives_nil he
/-- Children, here and there. -/
theorem p_kids (i : Int) : ∃ D : List Nat, D.length ≤ 1000 ∧ (∀ w, SlAt w A (itcs L) → Gives 21 #[.slice A L.length C, .int .i64 i] w D) ∧ (∀ w, SlAt w A (itcs L) → Gives 26 #[.slice A L.length C, .int .i64 i] w D) := by
  have hl2 := hf.lt
  by_cases hr : 0 ≤ i ∧ i < L.length
  · obtain ⟨j, rfl⟩ : ∃ j : Nat, i = j := ⟨i.toNat, by omega⟩
    by_cases h : IsFo L
    · obtain ⟨f, h1, h2, h3⟩ := id h
      have hl : f.flat.length = L.length := by rw [← h1, List.length_map]
      obtain ⟨g, hg0, hgh, hgg, hgd, -⟩ := here_at (L := L) f (j := 0) ⟨[], by rw [List.drop_zero, h1, List.append_nil]⟩ (i := j) (Nat.zero_le _) (by omega)
      have hsc := g.sub.cnt_le
      have hle := hgh.le hg0
      have hsp := Fo.len_split hg0
      have hsub := Fo.hlen_sub hg0
      refine ⟨starts (j + 1) g.sub, by rw [starts_len]; have := hf.len; omega, fun w hs => ?_, fun w hs => ?_⟩
      · refine Ret.mono (c21 T hf.lt h1 h2 h3 hg0 hgh w hs) ?_
        rintro v w' ⟨⟨p, k, rfl, ho⟩, he⟩
        exact ⟨⟨p, k, rfl, own_row ho⟩, he⟩
      · refine run26 _ _ _ _ _ _ fun K hK => cond_dec (fun h => absurd h (by omega)) (fun _ => cond_dec (fun h => absurd h (by omega)) (fun _ => Called.of (c23 hf.lt h1 h2 h3 w hs) ?_))
        rintro v w1 ⟨rfl, he1⟩
        refine ⟨_, rfl, hK _ _ ?_⟩
        rw [show (!true) = false from rfl, cond_false]
        refine Called.of (c40 hf.lt (hgg h2) hg0 (by omega) hgh w1 (hs.ext he1)) ?_
        rintro v w2 ⟨⟨p, k, rfl, ho⟩, he2⟩
        exact ⟨p, _, k, rfl, ⟨p, k, rfl, own_row ho⟩, he1.trans he2⟩
    · refine ⟨[], Nat.zero_le _, fun w hs => ?_, fun w hs => ?_⟩
      · refine run21 _ _ _ _ _ _ fun K hK => Called.of (n19 T hf hs h) ?_
        rintro v w1 ⟨rfl, he1⟩
        exact ⟨_, rfl, cond_intro (fun _ => hK true _ (gives_nil he1)) (fun h => by simp at h)⟩
      · refine run26 _ _ _ _ _ _ fun K hK => cond_dec (fun _ => hK true _ (gives_nil (Ext.refl _))) (fun _ => cond_dec (fun _ => hK true _ (gives_nil (Ext.refl _))) (fun _ => Called.of (n23 hf hs h) ?_))
        rintro v w1 ⟨rfl, he1⟩
        exact ⟨_, rfl, hK _ _ (gives_nil he1)⟩
  · refine ⟨[], Nat.zero_le _, fun w hs => ?_, fun w hs => ?_⟩
    · refine run21 _ _ _ _ _ _ fun K hK => Called.of (c19 T hf.lt hf.bd w hs) ?_
      rintro v w1 ⟨rfl, he1⟩
      refine ⟨_, rfl, cond_intro (fun _ => hK true _ (gives_nil he1)) (fun h => ?_)⟩
      rw [Bool.or_eq_false_iff, decide_eq_false_iff_not] at h
      rw [decide_eq_true (show i ≥ (L.length : Int) by omega)]
      exact hK true _ (gives_nil he1)
    · refine run26 _ _ _ _ _ _ fun K hK => cond_dec (fun _ => hK true _ (gives_nil (Ext.refl _))) (fun h0 => cond_dec (fun _ => hK true _ (gives_nil (Ext.refl _))) (fun h => absurd (by omega) hr))

/-- One list: all that is compared is the same. -/
theorem oneList (i : Int) {w5 : World} (hs : SlAt w5 A (itcs L)) (hm : ∃ m, w5.cell? ⟨0, 0, none⟩ = some (.int .i64 m)) {K1 : List Value → World → Prop} (hK : ∀ b w6, b = false → Ext w5 w6 → K1 [.bool b] w6) :
    Called Tryd.prog 19 #[Value.slice A L.length C] w5 fun (v2 : Value) (w7 : World) => ∃ (b2 : Bool), v2 = Value.bool b2 ∧
      Called Tryd.prog 23 #[Value.slice A L.length C] w7 fun (v3 : Value) (w8 : World) => ∃ (b3 : Bool), v3 = Value.bool b3 ∧
        bif !b2 == b3 then K1 [Value.bool true] w8
        else
          Called Tryd.prog 22 #[Value.slice A L.length C] w8 fun (v4 : Value) (w9 : World) => ∃ (s : ByteArray), v4 = Value.string s ∧
            Called Tryd.prog 13 #[Value.slice A L.length C] w9 fun (v5 : Value) (w10 : World) => ∃ (s1 : ByteArray), v5 = Value.string s1 ∧
              bif !s.toList == s1.toList then K1 [Value.bool true] w10
              else
                Called Tryd.prog 20 #[Value.slice A L.length C] w10 fun (v6 : Value) (w11 : World) => ∃ (p3 : Option Addr) (k6 k7 : Nat), v6 = Value.slice p3 k6 k7 ∧
                  Called Tryd.prog 25 #[Value.slice A L.length C] w11 fun (v7 : Value) (w12 : World) => ∃ (p4 : Option Addr) (k8 k9 : Nat), v7 = Value.slice p4 k8 k9 ∧
                    Called Tryd.prog 24 #[Value.slice p3 k6 k7, Value.slice p4 k8 k9] w12 fun (v8 : Value) (w13 : World) => ∃ (b4 : Bool), v8 = Value.bool b4 ∧
                      bif !b4 then K1 [Value.bool true] w13
                      else
                        Called Tryd.prog 21 #[Value.slice A L.length C, Value.int IntKind.i64 i] w13 fun (v9 : Value) (w14 : World) => ∃ (p5 : Option Addr) (k10 k11 : Nat), v9 = Value.slice p5 k10 k11 ∧
                          Called Tryd.prog 26 #[Value.slice A L.length C, Value.int IntKind.i64 i] w14 fun (v10 : Value) (w15 : World) => ∃ (p6 : Option Addr) (k12 k13 : Nat), v10 = Value.slice p6 k12 k13 ∧
                            Called Tryd.prog 24 #[Value.slice p5 k10 k11, Value.slice p6 k12 k13] w15 fun (v11 : Value) (w16 : World) => ∃ (b5 : Bool), v11 = Value.bool b5 ∧
                              bif !b5 then K1 [Value.bool true] w16
                              else
                                Called Tryd.prog 18 #[Value.int IntKind.i64 i, Value.int IntKind.i64 8] w16 fun (v12 : Value) (w17 : World) => ∃ (n1 : Int), v12 = Value.int IntKind.i64 n1 ∧
                                  Called Tryd.prog 21 #[Value.slice A L.length C, Value.int IntKind.i64 n1] w17 fun (v13 : Value) (w18 : World) => ∃ (p7 : Option Addr) (k14 k15 : Nat), v13 = Value.slice p7 k14 k15 ∧
                                    Called Tryd.prog 18 #[Value.int IntKind.i64 i, Value.int IntKind.i64 8] w18 fun (v14 : Value) (w19 : World) => ∃ (n2 : Int), v14 = Value.int IntKind.i64 n2 ∧
                                      Called Tryd.prog 26 #[Value.slice A L.length C, Value.int IntKind.i64 n2] w19 fun (v15 : Value) (w20 : World) => ∃ (p8 : Option Addr) (k16 k17 : Nat), v15 = Value.slice p8 k16 k17 ∧
                                        Called Tryd.prog 24 #[Value.slice p7 k14 k15, Value.slice p8 k16 k17] w20 fun (v16 : Value) (w21 : World) => ∃ (b6 : Bool), v16 = Value.bool b6 ∧ K1 [Value.bool !b6] w21 := by
  obtain ⟨b, pv1, pv2⟩ := p_valid (A := A) (C := C) T hf
  obtain ⟨l, pf1, pf2⟩ := p_format (A := A) (C := C) T hf
  obtain ⟨D, hDl, pr1, pr2⟩ := p_roots (A := A) (C := C) T hf
  obtain ⟨E, hEl, pc1, pc2⟩ := p_kids (A := A) (C := C) T hf i
  obtain ⟨m, hm⟩ := hm
  refine Called.of (pv1 w5 hs) ?_
  rintro v w7 ⟨rfl, he7⟩
  refine ⟨_, rfl, Called.of (pv2 w7 (hs.ext he7)) ?_⟩
  rintro v w8 ⟨rfl, he8'⟩
  have he8 := he7.trans he8'
  refine ⟨_, rfl, cond_intro (fun h => by simp at h) (fun _ => Called.of (pf1 w8 (hs.ext he8) ⟨m, he8.cell hm⟩) ?_)⟩
  rintro v w9 ⟨⟨s, rfl, hsl⟩, he9'⟩
  have he9 := he8.trans he9'
  refine ⟨s, rfl, Called.of (pf2 w9 (hs.ext he9)) ?_⟩
  rintro v w10 ⟨⟨s1, rfl, hsl1⟩, he10'⟩
  have he10 := he9.trans he10'
  refine ⟨s1, rfl, ?_⟩
  rw [beq_bytes, hsl, hsl1, decide_eq_true rfl]
  refine Called.of (pr1 w10 (hs.ext he10)) ?_
  rintro v w11 ⟨⟨p3, k7, rfl, h3⟩, he11'⟩
  have he11 := he10.trans he11'
  refine ⟨_, _, _, rfl, Called.of (pr2 w11 (hs.ext he11)) ?_⟩
  rintro v w12 ⟨⟨p4, k9, rfl, h4⟩, he12'⟩
  have he12 := he11.trans he12'
  refine ⟨_, _, _, rfl, Called.of (c24 (by omega) (h3.ext he12') h4) ?_⟩
  rintro v w13 ⟨rfl, he13'⟩
  have he13 := he12.trans he13'
  refine ⟨_, rfl, ?_⟩
  refine Called.of (pc1 w13 (hs.ext he13)) ?_
  rintro v w14 ⟨⟨p5, k11, rfl, h5⟩, he14'⟩
  have he14 := he13.trans he14'
  refine ⟨_, _, _, rfl, Called.of (pc2 w14 (hs.ext he14)) ?_⟩
  rintro v w15 ⟨⟨p6, k13, rfl, h6⟩, he15'⟩
  have he15 := he14.trans he15'
  refine ⟨_, _, _, rfl, Called.of (c24 (by omega) (h5.ext he15') h6) ?_⟩
  rintro v w16 ⟨rfl, he16'⟩
  have he16 := he15.trans he16'
  refine ⟨_, rfl, ?_⟩
  -- the remainder is the same at both calls
  have mod : ∀ w, Ret Tryd.prog 18 #[.int .i64 i, .int .i64 8] w fun v w' => v = .int .i64 (IntKind.i64.wrap ((IntKind.u64.wrap i).tmod 8)) ∧ w' = w := by
    intro w
    have hn : IntKind.u64.wrap 8 = 8 := by
      show (8 : Int) % 18446744073709551616 = 8
      omega
    refine run18 _ _ _ _ (cond_dec (fun h => by rw [hn] at h; omega) (fun _ => ?_))
    rw [hn]
    exact ⟨rfl, rfl⟩
  refine Called.of (mod w16) ?_
  rintro v w17 ⟨rfl, rfl⟩
  obtain ⟨F, hFl, pd1, pd2⟩ := p_kids (A := A) (C := C) T hf (IntKind.i64.wrap ((IntKind.u64.wrap i).tmod 8))
  refine ⟨_, rfl, Called.of (pd1 w17 (hs.ext he16)) ?_⟩
  rintro v w18 ⟨⟨p7, k15, rfl, h7⟩, he18'⟩
  have he18 := he16.trans he18'
  refine ⟨_, _, _, rfl, Called.of (mod w18) ?_⟩
  rintro v w19 ⟨rfl, rfl⟩
  refine ⟨_, rfl, Called.of (pd2 w19 (hs.ext he18)) ?_⟩
  rintro v w20 ⟨⟨p8, k17, rfl, h8⟩, he20'⟩
  have he20 := he18.trans he20'
  refine ⟨_, _, _, rfl, Called.of (c24 (by omega) (h7.ext he20') h8) ?_⟩
  rintro v w21 ⟨rfl, he21'⟩
  exact ⟨_, rfl, hK _ _ rfl (he20.trans he21')⟩
end

theorem itcs_set : ∀ (l : List It) (i : Nat) (x : It), ((((itcs l).set (i * 4) (.int .i64 x.kind)).set (i * 4 + 1) (.string x.text)).set (i * 4 + 2) (.int .i64 x.kids)).set (i * 4 + 3) (.int .i64 x.pos) = itcs (l.set i x)
  | [], i, x => by simp [itcs]
  | y :: l, 0, x => by simp [itcs, itc]
  | y :: l, i + 1, x => by
    have ih := itcs_set l i x
    have e : ∀ z m, itcs (z :: m) = itc z ++ itcs m := fun z m => by simp [itcs]
    have h4 : (itc y).length = 4 := rfl
    have s : ∀ (k : Nat) (v : Value) (m : List Value), (itc y ++ m).set ((i + 1) * 4 + k) v = itc y ++ m.set (i * 4 + k) v := by
      intro k v m
      rw [List.set_append_right _ _ (by rw [h4]; omega)]
      congr 2
      rw [h4]; omega
    rw [e, List.set_cons_succ, e]
    have s0 := s 0
    simp only [Nat.add_zero] at s0
    rw [s0, s 1, s 2, s 3, ih]
/-- An item of a row is replaced. -/
theorem own_item {w : World} {B n : Nat} {v : Value} {l : List It} (h : w.ownsRow B 34 4 v n (itcs l)) {g : Nat} (hg : v.ownBlock = some g) (i : Nat) (x : It) :
    (setCells w ⟨g, i * 4, none⟩ 0 [.int .i64 x.kind, .string x.text, .int .i64 x.kids, .int .i64 x.pos]).ownsRow B 34 4 v n (itcs (l.set i x)) := by
  simp only [setCells, add_eq, Nat.zero_add, Nat.add_zero]
  rw [← itcs_set]
  exact own_set (own_set (own_set (own_set h hg _) hg _) hg _) hg _
theorem below_item {N : Nat} {w0 w : World} (h : Below N w0 w) {g : Nat} (hg : N ≤ g) (o : Nat) (a b c d : Value) : Below N w0 (setCells w ⟨g, o, none⟩ 0 [a, b, c, d]) := by
  simp only [setCells, add_eq, Nat.zero_add]
  exact (((h.setCell (p := ⟨g, _, none⟩) hg a).setCell (p := ⟨g, _, none⟩) hg b).setCell (p := ⟨g, _, none⟩) hg c).setCell (p := ⟨g, _, none⟩) hg d

theorem c10 (T : TrimOk) {lA mA : Option Addr} {lC mN mC : Nat} {L : List It} {m : List Int} {w : World} (hL : SlAt w lA (itcs L)) (hfL : L.length ≤ 30 → Fine L) (hLl : L.length ≤ 9223372036854775807) (hm : m.length = mN) (hmc : mN ≤ mC) (hmm : SlAt w mA (m.map fun n => .int .i64 n)) (x : It)
    (hx : x.text.size ≤ 1048576 ∧ x.kids ≤ 9223372036854775807) (at' i : Int) (hmax : ∃ m, w.cell? ⟨0, 0, none⟩ = some (.int .i64 m)) :
    Ret Tryd.prog 10 #[.slice lA L.length lC, .slice mA mN mC, .agg #[.int .i64 x.kind, .string x.text, .int .i64 x.kids, .int .i64 x.pos], .int .i64 at', .int .i64 i] w fun v w' => v = .bool true ∧ Ext w w' := by
  obtain ⟨mx, hmax⟩ := hmax
  have hea := (Ext.refl w).alloc (.cells #[.int .i64 x.kind, .string x.text, .int .i64 x.kids, .int .i64 x.pos] 34)
  have hbox : (w.alloc (.cells #[.int .i64 x.kind, .string x.text, .int .i64 x.kids, .int .i64 x.pos] 34)).heap[w.heap.size]? = some (.cells #[.int .i64 x.kind, .string x.text, .int .i64 x.kids, .int .i64 x.pos] 34 (0, 0)) := heap_alloc_new w _
  refine run10 _ _ _ _ _ _ _ _ _ _ _ _ _ _ (cond_dec (fun hbig => ?_) (fun hsm => ?_))
  · refine Called.of (c11 T _) ?_
    rintro v w1 ⟨rfl, he1⟩
    exact ⟨_, rfl, rfl, hea.trans he1⟩
  have hF := hfL (by omega)
  refine Called.of (c14 hm hmc (hmm.ext hea)) ?_
  rintro v w2 ⟨⟨f, A, C, hg, hd, hfl, rfl, ho⟩, he2'⟩
  have he2 := hea.trans he2'
  have hFf : Fine f.flat := ⟨by omega, fun y hy => by
    obtain ⟨h1, -, h3⟩ := flat_bd f (good_V hg) y hy
    exact ⟨h1, by omega⟩⟩
  have hnil : w2.ownsRow w2.heap.size 34 4 (.slice none 0 0) 0 [] := ⟨rfl, .inl ⟨rfl, rfl⟩⟩
  refine ⟨_, _, _, rfl, w2.heap.size, [], itcs f.flat, ⟨.inl hnil, itcs_len _, src_of ho, plain_itcs _, by unfold maxLen; omega, by omega, Nat.le_refl _⟩, ?_⟩
  intro p1 k3 w3 r
  have he3' : Ext w2 w3 := r.below hnil (Ext.refl w2) (Nat.le_refl _) (Nat.le_refl _)
  have hr3 := r.own
  rw [List.nil_append] at hr3
  intro K hK
  -- the three lists are compared
  have main : ∀ (w4 : World) (W : List It), Ext w2 w4 → Fine W → W.length = f.flat.length → w4.ownsRow w2.heap.size 34 4 (.slice p1 (0 + f.flat.length) k3) (0 + f.flat.length) (itcs W) → K [] w4 := by
    intro w4 W he4 hW hWl hro
    have hw4 := he2.trans he4
    refine hK w4 ?_
    have hxa := (Ext.refl w4).alloc (.cells #[.slice lA L.length lC, .slice A f.flat.length C, .slice p1 (0 + f.flat.length) k3] 26)
    have hrow := alloc_new_row w4 [.slice lA L.length lC, .slice A f.flat.length C, .slice p1 (0 + f.flat.length) k3] 26
    refine ⟨fun vals w5 => ∃ j : Nat, vals = [.int .i64 j] ∧ j ≤ 3 ∧ Ext (w4.alloc (.cells #[.slice lA L.length lC, .slice A f.flat.length C, .slice p1 (0 + f.flat.length) k3] 26)) w5, mu1 3, ⟨0, rfl, by omega, Ext.refl _⟩, ?_⟩
    rintro n w5 ⟨j, hv, hj, he5⟩
    cases hv
    have hw5 : Ext w w5 := (hw4.trans hxa).trans he5
    refine cond_dec (fun hlt => ?_) (fun _ => ?_)
    · have hjl : j < 3 := by omega
      have hrow5 := hrow.ext he5
      have next : ∀ w6, Ext w5 w6 → (∃ j' : Nat, [Value.int .i64 (IntKind.i64.wrap ((j : Int) + 1))] = [.int .i64 j'] ∧ j' ≤ 3 ∧ Ext (w4.alloc (.cells #[.slice lA L.length lC, .slice A f.flat.length C, .slice p1 (0 + f.flat.length) k3] 26)) w6) ∧
          mu1 3 [Value.int .i64 (IntKind.i64.wrap ((j : Int) + 1))] w6 < mu1 3 [.int .i64 j] w5 := by
        intro w6 he6
        rw [wrap_succ (by omega)]
        refine ⟨⟨j + 1, rfl, hjl, he5.trans he6⟩, ?_⟩
        simp only [mu1, Int.toNat_natCast]; omega
      have hcell : ∀ v, [Value.slice lA L.length lC, .slice A f.flat.length C, .slice p1 (0 + f.flat.length) k3][j]? = some v → w5.cell? ((⟨w4.heap.size, 0, none⟩ : Addr).add ((j : Int).toNat * 1)) = some v := by
        intro v hv
        rw [Int.toNat_natCast, Nat.mul_one]
        exact hrow5 j v hv
      have hmax5 : ∃ m, w5.cell? ⟨0, 0, none⟩ = some (.int .i64 m) := ⟨mx, hw5.cell hmax⟩
      match j, hjl with
      | 0, _ =>
        refine ⟨_, rfl, ⟨by omega, by omega⟩, lA, L.length, lC, hcell _ rfl, fun K1 hK1 => oneList T hF i (hL.ext hw5) hmax5 ?_⟩
        intro b w6 hb he6
        refine hK1 b w6 ?_
        rw [hb, cond_false]
        exact next w6 he6
      | 1, _ =>
        refine ⟨_, rfl, ⟨by omega, by omega⟩, A, f.flat.length, C, hcell _ rfl, fun K1 hK1 => oneList T hFf i ((own_row ho).ext ((he4.trans hxa).trans he5)) hmax5 ?_⟩
        intro b w6 hb he6
        refine hK1 b w6 ?_
        rw [hb, cond_false]
        exact next w6 he6
      | 2, _ =>
        have hz : 0 + f.flat.length = W.length := by omega
        rw [hz] at hcell hro ⊢
        refine ⟨_, rfl, ⟨by omega, by omega⟩, p1, W.length, k3, hcell _ rfl, fun K1 hK1 => oneList T hW i ((own_row hro).ext (hxa.trans he5)) hmax5 ?_⟩
        intro b w6 hb he6
        refine hK1 b w6 ?_
        rw [hb, cond_false]
        rw [hz] at next
        exact next w6 he6
    · refine Called.of (c11 T w5) ?_
      rintro v w6 ⟨rfl, he6⟩
      exact ⟨_, rfl, rfl, hw5.trans he6⟩
  refine cond_dec (fun hpos => ?_) (fun _ => main w3 f.flat he3' hFf rfl hr3)
  intro K2 hK2
  have hb3 := (he2'.trans he3').blk hbox
  refine ⟨x.kind, x.text, x.kids, x.pos, vcells4 (w := w3.drew) hb3, Called.of (c18 at' _ hpos (by omega) w3.drew) ?_⟩
  rintro v w24 ⟨⟨j, rfl, hj⟩, rfl⟩
  obtain ⟨g, rfl, hgo, -, -⟩ := own_some hr3 (by omega)
  have hgb := (own_lt hr3 g hgo).1
  have hr3d : w3.drew.ownsRow w2.heap.size 34 4 (.slice (some ⟨g, 0, none⟩) (0 + f.flat.length) k3) (0 + f.flat.length) (itcs f.flat) := own_ext hr3 ((Ext.refl _).drew)
  have hadr : (⟨g, 0, none⟩ : Addr).add ((j : Int).toNat * 4) = ⟨g, j * 4, none⟩ := by rw [Int.toNat_natCast, add_eq, Nat.zero_add]
  refine ⟨_, rfl, Below.refl _ _, _, rfl, ⟨by omega, by omega⟩, ?_, hK2 _ ?_⟩
  · rw [hadr]
    intro q hq
    rw [add_eq]
    refine ⟨?_, own_free hr3d hgo _⟩
    have hl : j * 4 + q < (itcs f.flat).length := by rw [itcs_len]; omega
    have := World.ownsRow.cells hr3d hgo (j * 4 + q) _ (List.getElem?_eq_getElem hl)
    rw [add_eq, Nat.zero_add] at this
    exact ⟨_, this⟩
  · rw [hadr]
    refine main _ (f.flat.set j x) (below_item (he3'.drew) hgb _ _ _ _ _) ⟨by rw [List.length_set]; exact hFf.len, ?_⟩ (by rw [List.length_set]) (own_item hr3d hgo j x)
    intro y hy
    rcases List.mem_or_eq_of_mem_set hy with hy | rfl
    · exact hFf.item y hy
    · exact hx
end Go.Proofs.Sx
