/- Part of the proof: SxL. -/
import Derived.Test.YtonenlplcidihaaDoorSxK
/-! end, Roots, Children. -/
namespace Go.Proofs.Sx
open Go Go.V Go.Proofs Go.RowKit
set_option maxRecDepth 100000

/-- So many items end with this list. -/
inductive Ends : Nat → List It → Prop
  | nil : Ends 0 []
  | cons {l k : Nat} {x : It} {M : List It} (hx : x.kids = (k : Int)) (h : Ends (l + k) M) : Ends (l + 1) (x :: M)
theorem Ends.le {l : Nat} {M : List It} (h : Ends l M) : l ≤ M.length := by
  induction h with
  | nil => exact Nat.le_refl _
  | cons hx h ih => simp only [List.length_cons]; omega
theorem Ends.fo : ∀ (f : Fo) {l : Nat} {M : List It}, Ends l M → Ends (l + f.cnt) (f.flat ++ M)
  | .nil, _, _, h => h
  | .leaf k t f, l, M, h => by
    have := Ends.fo f h
    exact Ends.cons (k := 0) (x := ⟨k, t, 0, 0⟩) rfl this
  | .list c f, l, M, h => by
    have h1 := Ends.fo f h
    have h2 := Ends.fo c h1
    have := Ends.cons (x := ⟨5, mk [], (c.cnt : Int), 0⟩) rfl h2
    show Ends (l + f.cnt + 1) (⟨5, mk [], (c.cnt : Int), 0⟩ :: (c.flat ++ f.flat ++ M))
    rw [List.append_assoc]
    exact this
theorem Ends.head {f : Fo} (_h0 : 0 < f.cnt) : Ends 1 (f.hd :: f.sub.flat) := by
  have h1 := Ends.fo f.sub Ends.nil
  rw [List.append_nil] at h1
  exact Ends.cons (Fo.hd_kids f) h1
def muE (E : Nat) : List Value → World → Nat
  | _ :: .int _ j :: _, _ => E - j.toNat
  | _, _ => 0

theorem c35 {A : Option Addr} {C : Nat} {L : List It} (hL : L.length < 4294967296) {f : Fo} (h0 : 0 < f.cnt) {i : Nat} (hh : Here L i f) (w : World) (hs : SlAt w A (itcs L)) :
    Ret Tryd.prog 35 #[.slice A L.length C, .int .i64 i] w fun v w' => v = .int .i64 ((i + f.hlen : Nat) : Int) ∧ w' = w := by
  have hle := hh.le h0
  have hsp := Fo.len_split h0
  have hsub := Fo.hlen_sub h0
  obtain ⟨R, hR⟩ := hh
  have hR' : (L.map strip).drop i = (f.hd :: f.sub.flat) ++ (f.next.flat ++ R) := by rw [hR, Fo.flat_split h0]; simp
  refine run35 _ _ _ _ _ _ ⟨fun vals w' => ∃ (l j : Nat) (M : List It), vals = [.int .i64 l, .int .i64 j] ∧ Ends l M ∧ (L.map strip).drop j = M ++ (f.next.flat ++ R) ∧ j + M.length = i + f.hlen ∧ w' = w, muE (i + f.hlen),
    ⟨1, i, _, rfl, Ends.head h0, hR', by rw [List.length_cons]; omega, rfl⟩, ?_⟩
  rintro n n1 w1 ⟨l, j, M, hv, hE, hd, hj, rfl⟩
  cases hv
  refine cond_dec (fun hpos => ?_) (fun hz => ?_)
  · cases hE with
    | nil => omega
    | @cons l k x M hx hE =>
      have hM := hE.le
      have hget : ∃ y, L[j]? = some y ∧ strip y = x := by
        have h1 : ((L.map strip).drop j)[0]? = some x := by rw [hd]; rfl
        rw [List.getElem?_drop, Nat.add_zero, List.getElem?_map] at h1
        cases hy : L[j]? with
        | none => rw [hy] at h1; cases h1
        | some y => rw [hy] at h1; exact ⟨y, rfl, Option.some.inj h1⟩
      obtain ⟨y, hy, hyx⟩ := hget
      have hky : y.kids = (k : Int) := by rw [← hx, ← hyx]; rfl
      obtain ⟨ad, rfl, -, -, hc2, -⟩ := sl_field hs hy
      simp only [List.length_cons] at hj
      refine ⟨ad, rfl, ⟨by omega, by have := (List.getElem?_eq_some_iff.1 hy).1; omega⟩, _, by rw [Int.toNat_natCast]; exact hc2, ?_⟩
      have e1 : IntKind.i64.wrap (((l + 1 : Nat) : Int) + IntKind.i64.wrap (y.kids - 1)) = ((l + k : Nat) : Int) := by
        rw [hky, wrap64_in (n := (k : Int) - 1) (by omega) (by omega), wrap64_in (by omega) (by omega)]; omega
      rw [e1, wrap_succ (by omega)]
      refine ⟨⟨l + k, j + 1, M, rfl, hE, ?_, by omega, rfl⟩, ?_⟩
      · rw [← List.drop_drop, hd]; rfl
      · simp only [muE, Int.toNat_natCast]; omega
  · cases hE with
    | nil =>
      have : j = i + f.hlen := by simpa using hj
      rw [this]
      exact ⟨rfl, rfl⟩
    | cons hx hE => omega

theorem flat_bd : ∀ (f : Fo), f.good → ∀ x ∈ f.flat, x.text.size ≤ 20 ∧ 0 ≤ x.kids ∧ x.kids ≤ f.flat.length
  | .nil, _, x, hx => by cases hx
  | .leaf k t f, hg, x, hx => by
    have hx' : x ∈ (⟨k, t, 0, 0⟩ : It) :: f.flat := hx
    show _ ∧ _ ∧ x.kids ≤ ((f.flat.length + 1 : Nat) : Int)
    rcases List.mem_cons.1 hx' with rfl | hx'
    · exact ⟨hg.2.1, Int.le_refl _, by show (0 : Int) ≤ _; omega⟩
    · obtain ⟨h1, h2, h3⟩ := flat_bd f hg.2.2 x hx'
      exact ⟨h1, h2, by omega⟩
  | .list c f, hg, x, hx => by
    have hx' : x ∈ (⟨5, mk [], (c.cnt : Int), 0⟩ : It) :: (c.flat ++ f.flat) := hx
    have e : (Fo.list c f).flat.length = c.flat.length + f.flat.length + 1 := by simp [Fo.flat]
    rw [e]
    rcases List.mem_cons.1 hx' with rfl | hx'
    · refine ⟨Nat.zero_le _, by show (0 : Int) ≤ (c.cnt : Int); omega, ?_⟩
      show (c.cnt : Int) ≤ _
      have := c.cnt_le
      omega
    · rcases List.mem_append.1 hx' with hx' | hx'
      · obtain ⟨h1, h2, h3⟩ := flat_bd c hg.1 x hx'
        exact ⟨h1, h2, by omega⟩
      · obtain ⟨h1, h2, h3⟩ := flat_bd f hg.2 x hx'
        exact ⟨h1, h2, by omega⟩
theorem bd_of {f : Fo} (hg : f.good) {L : List It} (hf : L.map strip = f.flat) (hL : L.length < 4294967296) : ∀ x ∈ L, x.text.size < 4294967281 ∧ x.kids ≤ 9223372036854775807 := by
  intro x hx
  have hm : strip x ∈ f.flat := by rw [← hf]; exact List.mem_map_of_mem hx
  obtain ⟨h1, -, h3⟩ := flat_bd f hg _ hm
  have h1' : x.text.size ≤ 20 := h1
  have h3' : x.kids ≤ f.flat.length := h3
  have : f.flat.length = L.length := by rw [← hf, List.length_map]
  omega
/-- Valid on a forest's items. -/
theorem v19 (T : TrimOk) {A : Option Addr} {C : Nat} {L : List It} (hL : L.length < 4294967296) {f : Fo} (hf : L.map strip = f.flat) (hg : f.good) (hd : f.edep ≤ 257) (w : World) (hs : SlAt w A (itcs L)) :
    Ret Tryd.prog 19 #[.slice A L.length C] w fun v w' => v = .bool true ∧ Ext w w' := by
  have := c19 (C := C) T hL (bd_of hg hf hL) w hs
  rw [valid_flat hg hd hf] at this
  exact this

theorem c20 (T : TrimOk) {A : Option Addr} {C : Nat} {L : List It} (hL : L.length < 4294967296) {f : Fo} (hf : L.map strip = f.flat) (hg : f.good) (hd : f.edep ≤ 257) (w : World) (hs : SlAt w A (itcs L)) :
    Ret Tryd.prog 20 #[.slice A L.length C] w fun v w' => (∃ p k, v = .slice p (starts 0 f).length k ∧ w'.ownsRow w.heap.size 3 1 (.slice p (starts 0 f).length k) (starts 0 f).length (nats (starts 0 f))) ∧ Ext w w' := by
  have hlen : L.length = f.flat.length := by rw [← hf, List.length_map]
  refine run20 _ _ _ _ _ (Called.of (v19 T hL hf hg hd w hs) ?_)
  rintro v w1 ⟨rfl, he1⟩
  refine ⟨_, rfl, ?_⟩
  refine ⟨fun vals w2 => ∃ (j : Nat) (g : Fo) (D : List Nat) (p : Option Addr) (k : Nat), vals = [.int .i64 j, .slice p D.length k] ∧ D ++ starts j g = starts 0 f ∧ w2.ownsRow w.heap.size 3 1 (.slice p D.length k) D.length (nats D) ∧
    j + g.flat.length = L.length ∧ Here L j g ∧ Ext w w2, mu1 L.length,
    ⟨0, f, [], none, 0, rfl, rfl, ⟨rfl, .inl ⟨rfl, rfl⟩⟩, by omega, ⟨[], by rw [List.drop_zero, hf, List.append_nil]⟩, he1⟩, ?_⟩
  rintro n1 p' k' k1' w2 ⟨j, g, D, p, k, hv2, hD, ho, hj, hgh, he2⟩
  cases hv2
  have hDl := congrArg List.length hD
  rw [List.length_append, starts_len, starts_len] at hDl
  have hfc := f.cnt_le
  refine cond_dec (fun hlt => ?_) (fun hge => ?_)
  · have hg0 : 0 < g.cnt := by
      rcases Nat.eq_zero_or_pos g.cnt with h | h
      · rw [cnt_zero h] at hj; simp [Fo.flat] at hj; omega
      · exact h
    have hgl := Fo.len_split hg0
    have hh1 := Fo.hlen_sub hg0
    refine ⟨_, _, _, AppOk.one ho rfl rfl (by unfold maxLen; omega) (by omega) he2.size, ?_⟩
    intro p1 k3 w3 r
    have hx := (Ext.refl w2).alloc (.cells #[Value.int IntKind.i64 (j : Int)] 3)
    have hb3 : Ext w w3 := r.below (own_ext ho hx) (he2.trans hx) (by rw [size_alloc]; have := he2.size; omega) (Nat.le_refl _)
    refine Called.of (c35 hL hg0 hgh w3 (hs.ext hb3)) ?_
    rintro v w4 ⟨rfl, rfl⟩
    have e1 : (D ++ [j]).length = D.length + 1 := by simp
    refine ⟨_, rfl, ⟨j + g.hlen, g.next, D ++ [j], p1, k3, by rw [e1], ?_, ?_, by omega, hgh.next hg0, hb3⟩, ?_⟩
    · rw [List.append_assoc, ← hD, starts_step hg0]; rfl
    · rw [e1, nats_app]; exact r.own
    · simp only [mu1, Int.toNat_natCast]; omega
  · have hg0 : g = .nil := by
      apply cnt_zero
      have := g.cnt_le
      omega
    subst hg0
    have hD' : D = starts 0 f := by rw [← hD]; simp [starts]
    rw [← hD']
    exact ⟨⟨_, _, rfl, ho⟩, he2⟩

/-- Every item is the first of a forest. -/
theorem here_at {L : List It} : ∀ (f : Fo) {j : Nat}, Here L j f → ∀ {i : Nat}, j ≤ i → i < j + f.flat.length → ∃ g : Fo, 0 < g.cnt ∧ Here L i g ∧ (f.good → g.good) ∧ g.edep ≤ f.edep ∧ g.dep ≤ f.dep
  | .nil, j, hh, i, h1, h2 => by simp [Fo.flat] at h2; omega
  | .leaf k t f, j, hh, i, h1, h2 => by
    by_cases hi : i = j
    · subst hi
      exact ⟨.leaf k t f, Nat.succ_pos _, hh, id, Nat.le_refl _, Nat.le_refl _⟩
    · have hn := hh.next (Nat.succ_pos _)
      have e : (Fo.leaf k t f).flat.length = f.flat.length + 1 := rfl
      obtain ⟨g, a, b, c, d, e2⟩ := here_at f hn (i := i) (by show j + 1 ≤ i; omega) (by show i < j + 1 + _; omega)
      exact ⟨g, a, b, fun h => c h.2.2, Nat.le_trans d (Nat.le_max_right _ _), e2⟩
  | .list c f, j, hh, i, h1, h2 => by
    by_cases hi : i = j
    · subst hi
      exact ⟨.list c f, Nat.succ_pos _, hh, id, Nat.le_refl _, Nat.le_refl _⟩
    · have e : (Fo.list c f).flat.length = c.flat.length + f.flat.length + 1 := by simp [Fo.flat]
      by_cases hi2 : i < j + 1 + c.flat.length
      · obtain ⟨g, a, b, c', d, e2⟩ := here_at c (hh.sub (Nat.succ_pos _)) (i := i) (by omega) hi2
        exact ⟨g, a, b, fun h => c' h.1, Nat.le_trans d (Nat.le_trans (Nat.le_succ _) (Nat.le_max_left _ _)), Nat.le_trans e2 (Nat.le_trans (Nat.le_succ _) (Nat.le_max_left _ _))⟩
      · have hn := hh.next (Nat.succ_pos _)
        obtain ⟨g, a, b, c', d, e2⟩ := here_at f hn (i := i) (by show j + (c.flat.length + 1) ≤ i; omega) (by show i < j + (c.flat.length + 1) + f.flat.length; omega)
        exact ⟨g, a, b, fun h => c' h.2, Nat.le_trans d (Nat.le_max_right _ _), Nat.le_trans e2 (Nat.le_max_right _ _)⟩

theorem c21 (T : TrimOk) {A : Option Addr} {C : Nat} {L : List It} (hL : L.length < 4294967296) {f : Fo} (hf : L.map strip = f.flat) (hg : f.good) (hd : f.edep ≤ 257) {i : Nat} {g : Fo} (hg0 : 0 < g.cnt) (hh : Here L i g) (w : World) (hs : SlAt w A (itcs L)) :
    Ret Tryd.prog 21 #[.slice A L.length C, .int .i64 i] w fun v w' =>
      (∃ p k, v = .slice p (starts (i + 1) g.sub).length k ∧ w'.ownsRow w.heap.size 3 1 (.slice p (starts (i + 1) g.sub).length k) (starts (i + 1) g.sub).length (nats (starts (i + 1) g.sub))) ∧ Ext w w' := by
  obtain ⟨y, hy, hyf⟩ := hh.get hg0
  have hle := hh.le hg0
  have hsp := Fo.len_split hg0
  have hsub := Fo.hlen_sub hg0
  have hlt : i < L.length := (List.getElem?_eq_some_iff.1 hy).1
  have hk : y.kids = (g.sub.cnt : Int) := by rw [← Fo.hd_kids, ← hyf]; rfl
  have hkle : g.sub.cnt ≤ L.length := by have := g.sub.cnt_le; omega
  refine run21 _ _ _ _ _ _ fun K hK => Called.of (v19 T hL hf hg hd w hs) ?_
  rintro v w5 ⟨rfl, he5⟩
  refine ⟨_, rfl, cond_intro (fun h => by simp only [Bool.not_true, Bool.false_or, decide_eq_true_eq] at h; omega) (fun _ => hK _ _ ?_)⟩
  rw [decide_eq_false (by omega), cond_false]
  obtain ⟨ad, rfl, -, -, hc5⟩ := sl_item (hs.ext he5) hy
  refine ⟨ad, rfl, ⟨by omega, by omega⟩, _, hc5, ?_⟩
  rw [hk]
  refine ⟨fun vals w2 => ∃ (j : Nat) (q : Fo) (D : List Nat) (p : Option Addr) (k : Nat), vals = [.int .i64 D.length, .int .i64 j, .slice p D.length k] ∧ D ++ starts j q = starts (i + 1) g.sub ∧
      w2.ownsRow w.heap.size 3 1 (.slice p D.length k) D.length (nats D) ∧ D.length + q.cnt = g.sub.cnt ∧ j + q.flat.length = i + g.hlen ∧ Here L j q ∧ Ext w w2, mu1 g.sub.cnt,
    ⟨i + 1, g.sub, [], none, 0, by rw [wrap_succ (by omega)]; rfl, rfl, ⟨rfl, .inl ⟨rfl, rfl⟩⟩, by simp, by rw [hsub]; omega, hh.sub hg0, he5⟩, ?_⟩
  rintro n n1 p' k' k1' w2 ⟨j, q, D, p, k, hv2, hD, ho, hn, hj, hgh, he2⟩
  cases hv2
  refine cond_dec (fun hlt => ?_) (fun hge => ?_)
  · have hq0 : 0 < q.cnt := by omega
    have hgl := Fo.len_split hq0
    have hgc := Fo.cnt_next hq0
    refine ⟨_, _, _, AppOk.one ho rfl rfl (by unfold maxLen; omega) (by omega) he2.size, ?_⟩
    intro p1 k3 w3 r
    have hx := (Ext.refl w2).alloc (.cells #[Value.int IntKind.i64 (j : Int)] 3)
    have hb3 : Ext w w3 := r.below (own_ext ho hx) (he2.trans hx) (by rw [size_alloc]; have := he2.size; omega) (Nat.le_refl _)
    refine Called.of (c35 hL hq0 hgh w3 (hs.ext hb3)) ?_
    rintro v w4 ⟨rfl, rfl⟩
    have e1 : (D ++ [j]).length = D.length + 1 := by simp
    rw [wrap_succ (by omega)]
    refine ⟨_, rfl, ⟨j + q.hlen, q.next, D ++ [j], p1, k3, by rw [e1], ?_, ?_, by rw [e1]; omega, by omega, hgh.next hq0, hb3⟩, ?_⟩
    · rw [List.append_assoc, ← hD, starts_step hq0]; rfl
    · rw [e1, nats_app]; exact r.own
    · simp only [mu1, Int.toNat_natCast]; omega
  · have hq0 : q = .nil := cnt_zero (by omega)
    subst hq0
    have hD' : D = starts (i + 1) g.sub := by rw [← hD]; simp [starts]
    rw [← hD']
    exact ⟨⟨_, _, rfl, ho⟩, he2⟩
end Go.Proofs.Sx
