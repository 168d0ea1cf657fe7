/- Part of the proof: V7s. -/
import Derived.Test.YtonenlplcidihaaDoorV7
namespace Go.V
open Go Go.RowKit

theorem look_kill {W : List Nat} {t : Nat} : ∀ (f : Fr), look t (kill W f) = killE W t (look t f)
  | [] => rfl
  | (s, x) :: f => by
    show look t ((s, killE W s x) :: kill W f) = killE W t (look t ((s, x) :: f))
    rw [look_cons, look_cons]
    by_cases h : s = t
    · subst h; simp
    · rw [if_neg h, if_neg h]; exact look_kill f

theorem killE_some {W : List Nat} {t : Nat} {x : Option (Cs × Value)} {cs : Cs} {v : Value} (h : killE W t x = some (cs, v)) : x = some ([], v) ∧ cs = [] ∧ t ∉ W := by
  unfold killE at h
  split at h
  · rename_i u
    cases hm : memN t W with
    | true => rw [hm] at h; cases h
    | false =>
      rw [hm] at h
      cases h
      exact ⟨rfl, rfl, fun hw => by rw [memN_iff.2 hw] at hm; cases hm⟩
  · cases h

theorem Sat.kill {n : Nat} {f f' : Fr} {a a' : Act} {W : List Nat} (hs : Sat n f a) (hs' : Sat n f' a') (hag : Agree W a a') : Sat n (kill W f) a' := by
  refine ⟨hs'.defers, hs'.size, fun t cs v hl => ?_⟩
  rw [look_kill] at hl
  obtain ⟨h1, rfl, h3⟩ := killE_some hl
  exact ⟨fun _ => by rw [hag t h3]; exact (hs.val t [] v h1).1 (holds_nil a), fun hn => absurd (holds_nil a') hn⟩

def valsOf (a : Act) : List (Nat × Sh) → List Value
  | [] => []
  | (t, _) :: l => a.tmps.getD t undef :: valsOf a l

theorem getAll_vals {n : Nat} {f : Fr} {a : Act} (hs : Sat n f a) : ∀ {J : List (Nat × Sh)} {vs : List Value}, getAll f J = some vs → vs = valsOf a J ∧ ∀ g : Fr, Sat n g a → Sat n (setAll J vs g) a
  | [], vs, h => by cases h; exact ⟨rfl, fun g hg => hg⟩
  | (t, s) :: J, vs, h => by
    unfold getAll at h
    split at h
    · rename_i v us hv hu
      cases h
      obtain ⟨h1, h2⟩ := getAll_vals hs hu
      have h3 := get_sat hs (holds_nil a) hv
      refine ⟨?_, fun g hg => (h2 g hg).know h3⟩
      show v :: us = _ :: _
      rw [getD_of h3, ← h1]
    · cases h

theorem Sh.all_intro : ∀ (s : Sh) {p : Value → Prop}, (∀ v, p v) → s.all p
  | .one b, p, h => by
    show b.all p
    cases b
    · intro n; exact h _
    · intro n; exact h _
    · intro n; exact h _
    · intro n; exact h _
    · intro a n c; exact h _
    · intro v; exact h _
  | .agg l, p, h => by
    have : ∀ (l : List B) (q : List Value → Prop), (∀ vs, q vs) → B.allL l q := by
      intro l
      induction l with
      | nil => intro q h; exact h _
      | cons b l ih =>
        intro q h
        have key : ∀ v, B.allL l fun vs => q (v :: vs) := fun v => ih _ fun vs => h _
        show b.all _
        cases b
        · intro n; exact key _
        · intro n; exact key _
        · intro n; exact key _
        · intro n; exact key _
        · intro a n c; exact key _
        · intro v; exact key _
    exact this l _ fun vs => h _
theorem Sh.allL_intro : ∀ (l : List Sh) {p : List Value → Prop}, (∀ vs, p vs) → Sh.allL l p
  | [], _, h => h _
  | s :: l, _, h => Sh.all_intro s fun _ => Sh.allL_intro l fun _ => h _

theorem withAll_some {f : Fr} {J : List (Nat × Sh)} {K : List Value → Prop} (h : withAll f J K) : ∃ vs, getAll f J = some vs ∧ Sh.fitsL (shsOf J) vs = true ∧ K vs := by
  unfold withAll at h
  split at h
  · rename_i vs hv
    cases hf : Sh.fitsL (shsOf J) vs with
    | false => rw [hf] at h; exact h.elim
    | true => rw [hf] at h; exact ⟨vs, hv, hf, h⟩
  · exact h.elim

/-- Where ways meet. -/
theorem vjoin_sound {n : Nat} {same : Bool} {J : List (Nat × Sh)} {W : List Nat} {f : Fr} {w : World} {a : Act} {cont : Fr → World → Prop} {body : (Fr → World → Prop) → Prop} (hs : Sat n f a) (h : vjoin same J W f w cont body) :
    ∃ k : Fr → World → Prop, body k ∧ ∀ f' a' w', k f' w' → Sat n f' a' → Agree W a a' → ∃ f'', cont f'' w' ∧ Sat n f'' a' := by
  refine ⟨_, h (fun vs w' => cont (setAll J vs (kill W f)) w') (by cases same; exact Sh.allL_intro _ fun vs w' hc => hc; exact Sh.allL_intro _ fun vs hc => hc), ?_⟩
  intro f' a' w' hk hs' hag
  obtain ⟨vs, hv, _, hc⟩ := withAll_some hk
  exact ⟨_, hc, (getAll_vals hs' hv).2 _ (hs.kill hs' hag)⟩

theorem Agree.app {A B : List Nat} {a b c : Act} (h : Agree A a b) (k : Agree B b c) : Agree (A ++ B) a c :=
  (h.mono fun _ ht => List.mem_append.2 (.inl ht)).trans (k.mono fun _ ht => List.mem_append.2 (.inr ht))

theorem mem_addW {l : List Nat} : ∀ {r : List (Nat × List Nat)} {i : Nat} {m : List Nat}, (i, m) ∈ r → (i, l ++ m) ∈ addW l r
  | (j, k) :: r, i, m, h => by
    rcases List.mem_cons.1 h with h | h
    · cases h; exact List.mem_cons_self
    · exact List.mem_cons_of_mem _ (mem_addW h)
theorem exAt_mem {id : Nat} : ∀ {r : List (Nat × List Nat)} {m : List Nat}, (id, m) ∈ r → ∃ l, exAt id r = some l ∧ ∀ t, t ∈ m → t ∈ l
  | (j, k) :: r, m, h => by
    rcases List.mem_cons.1 h with h | h
    · cases h
      unfold exAt
      simp only [Nat.beq_refl, cond_true]
      split
      · exact ⟨_, rfl, fun t ht => List.mem_append.2 (.inl ht)⟩
      · exact ⟨_, rfl, fun t ht => ht⟩
    · obtain ⟨l, hl, hm⟩ := exAt_mem h
      unfold exAt
      cases hb : Nat.beq j id with
      | true => simp only [cond_true, hl]; exact ⟨_, rfl, fun t ht => List.mem_append.2 (.inr (hm t ht))⟩
      | false => simp only [cond_false]; exact ⟨l, hl, hm⟩
theorem exNot_mem {id i : Nat} {m : List Nat} (hne : i ≠ id) : ∀ {r : List (Nat × List Nat)}, (i, m) ∈ r → (i, m) ∈ exNot id r
  | (j, k) :: r, h => by
    unfold exNot
    rcases List.mem_cons.1 h with h | h
    · cases h
      have : Nat.beq i id = false := by
        cases hb : Nat.beq i id with
        | false => rfl
        | true => exact absurd (Nat.eq_of_beq_eq_true hb) hne
      rw [this]
      exact List.mem_cons_self
    · cases hb : Nat.beq j id with
      | true => exact exNot_mem hne h
      | false => exact List.mem_cons_of_mem _ (exNot_mem hne h)

theorem Sat.knowC {n : Nat} {f : Fr} {a : Act} {c : Operand} {b : Bool} (hs : Sat n f a) (h : ev f [] c = some (.bool b)) : Sat n (knowC c b f) a := by
  cases c with
  | tmp t => exact hs.know (get_sat hs (holds_nil a) h)
  | _ => exact hs

theorem vcode_sound {E : Env} (hE : E.Ok) {n : Nat} : ∀ (c : Code) (L : List Nat) (kn : Fr → World → Prop) (kx : Nat → Fr → World → Prop) (kr : Fr → World → Prop) (f : Fr) (w : World) (a : Act) (Q : Exit → Act → World → Prop),
    (∀ c a d v w, Q (.panic c) (a.put d v) w → Q (.panic c) a w) → vcode E n c L kn kx kr f w → Sat n f a →
    (∀ f' a' w', kn f' w' → Sat n f' a' → (∃ W, (wr c).nrm = some W ∧ Agree W a a') → Q .normal a' w') →
    (∀ i f' a' w', kx i f' w' → Sat n f' a' → (∃ W, (i, W) ∈ (wr c).ex ∧ Agree W a a') → Q (.exit i) a' w') →
    (∀ f' a' w', kr f' w' → Sat n f' a' → Q .ret a' w') → c.wp E.P Q a w := by
  intro c
  induction c with
  | skip => intro L kn kx kr f w a Q hQ h hs hn hx hr; exact wp_skip (hn f a w h hs ⟨[], rfl, Agree.refl _ _⟩)
  | region id ops draw =>
    intro L kn kx kr f w a Q hQ h hs hn hx hr
    have hn' : ∀ f' a' w', kn f' w' → Sat n f' a' → Agree (dsts ops.toList) a a' → Q .normal a' w' := fun f' a' w' h1 h2 h3 => hn f' a' w' h1 h2 ⟨_, rfl, h3⟩
    cases draw with
    | false =>
      refine wp_region_list ?_
      unfold vcode at h
      cases hg : gEff E.P ops.toList with
      | true =>
        rw [hg] at h
        simp only [cond_true] at h
        obtain ⟨k, hb, hk⟩ := vjoin_sound hs h
        exact vreg_sound hE _ [] f w a hb hs (holds_nil a) fun f' a' w' h1 h2 h3 => let ⟨f'', h4, h5⟩ := hk f' a' w' h1 h2 h3; hn' f'' a' w' h4 h5 h3
      | false =>
        rw [hg] at h
        exact vreg_sound hE _ [] f w a h hs (holds_nil a) fun f' a' w' h1 h2 h3 => hn' _ a' w' h1 (h2.kill h2 (Agree.refl _ _)) h3
    | true =>
      unfold vcode at h
      cases hns : Region.noSelect ops with
      | false => rw [hns] at h; exact h.elim
      | true =>
        rw [hns] at h
        simp only [cond_true] at h
        cases hg : cond (gEff E.P ops.toList) true (Nat.ble 2 (effOps E.P ops.toList)) with
        | true =>
          rw [hg] at h
          simp only [cond_true] at h
          obtain ⟨k, hb, hk⟩ := vjoin_sound hs h
          exact vdraw_sound hE hns hQ (fun f' a' w' h1 h2 h3 => let ⟨f'', h4, h5⟩ := hk f' a' w' h1 h2 h3; hn' f'' a' w' h4 h5 h3) hb hs
        | false =>
          rw [hg] at h
          exact vdraw_sound hE hns hQ (fun f' a' w' h1 h2 h3 => hn' _ a' w' h1 (h2.kill h2 (Agree.refl _ _)) h3) h hs
  | seq x y ihx ihy =>
    intro L kn kx kr f w a Q hQ h hs hn hx hr
    refine wp_seq ?_
    unfold vcode at h
    have hwr : wr (.seq x y) = (match (wr x).nrm with
      | some l => ⟨match (wr y).nrm with | some m => some (l ++ m) | none => none, (wr x).ex ++ addW l (wr y).ex⟩
      | none => ⟨none, (wr x).ex⟩) := rfl
    cases hw : (wr x).nrm with
    | none =>
      rw [hw] at h
      rw [hw] at hwr
      refine ihx L _ kx kr f w a _ hQ h hs (fun f' a' w' h1 => h1.elim) (fun i f' a' w' h1 h2 ⟨W, h3, h4⟩ => hx i f' a' w' h1 h2 ⟨W, by rw [hwr]; exact h3, h4⟩) hr
    | some W =>
      rw [hw] at h
      rw [hw] at hwr
      have stepY : ∀ f' a' w', vcode E n y L kn kx kr f' w' → Sat n f' a' → Agree W a a' → y.wp E.P Q a' w' := fun f' a' w' h1 h2 h3 =>
        ihy L kn kx kr f' w' a' Q hQ h1 h2
          (fun f'' a'' w'' k1 k2 ⟨V, k3, k4⟩ => hn f'' a'' w'' k1 k2 ⟨W ++ V, by rw [hwr]; simp only [k3], h3.app k4⟩)
          (fun i f'' a'' w'' k1 k2 ⟨V, k3, k4⟩ => hx i f'' a'' w'' k1 k2 ⟨W ++ V, by rw [hwr]; exact List.mem_append.2 (.inr (mem_addW k3)), h3.app k4⟩) hr
      have exX : ∀ i f' a' w', kx i f' w' → Sat n f' a' → (∃ V, (i, V) ∈ (wr x).ex ∧ Agree V a a') → Q (.exit i) a' w' := fun i f' a' w' h1 h2 ⟨V, h3, h4⟩ =>
        hx i f' a' w' h1 h2 ⟨V, by rw [hwr]; exact List.mem_append.2 (.inl h3), h4⟩
      have un : ∀ {a' : Act}, (∃ V, (wr x).nrm = some V ∧ Agree V a a') → Agree W a a' := fun ⟨V, h3, h4⟩ => by rw [hw] at h3; cases h3; exact h4
      simp only at h
      cases hj : joins x y with
      | true =>
        rw [hj] at h
        simp only [cond_true] at h
        obtain ⟨k, hb, hk⟩ := vjoin_sound hs h
        exact ihx _ k kx kr f w a _ hQ hb hs (fun f' a' w' h1 h2 h3 => let ⟨f'', h4, h5⟩ := hk f' a' w' h1 h2 (un h3); stepY f'' a' w' h4 h5 (un h3)) exX hr
      | false =>
        rw [hj] at h
        exact ihx _ _ kx kr f w a _ hQ h hs (fun f' a' w' h1 h2 h3 => stepY f' a' w' h1 h2 (un h3)) exX hr
  | cond c x y ihx ihy =>
    intro L kn kx kr f w a Q hQ h hs hn hx hr
    unfold vcode at h
    split at h <;> try exact h.elim
    rename_i b hb
    have he := ev_sat hs (holds_nil a) hb
    have orL : ∀ {u v : Option (List Nat)} {W : List Nat}, u = some W → ∃ W', orW u v = some W' ∧ ∀ t, t ∈ W → t ∈ W' := by
      intro u v W h
      subst h
      cases v with
      | none => exact ⟨W, rfl, fun _ h => h⟩
      | some V => exact ⟨W ++ V, rfl, fun _ h => List.mem_append.2 (.inl h)⟩
    have orR : ∀ {u v : Option (List Nat)} {W : List Nat}, v = some W → ∃ W', orW u v = some W' ∧ ∀ t, t ∈ W → t ∈ W' := by
      intro u v W h
      subst h
      cases u with
      | none => exact ⟨W, rfl, fun _ h => h⟩
      | some V => exact ⟨V ++ W, rfl, fun _ h => List.mem_append.2 (.inr h)⟩
    cases b with
    | true =>
      refine wp_cond he (t := true) ?_
      exact ihx L kn kx kr _ w a Q hQ h (hs.knowC hb) (fun f' a' w' h1 h2 ⟨V, h3, h4⟩ => let ⟨W', h5, h6⟩ := orL (v := (wr y).nrm) h3; hn f' a' w' h1 h2 ⟨W', h5, h4.mono h6⟩)
        (fun i f' a' w' h1 h2 ⟨V, h3, h4⟩ => hx i f' a' w' h1 h2 ⟨V, List.mem_append.2 (.inl h3), h4⟩) hr
    | false =>
      refine wp_cond he (t := false) ?_
      exact ihy L kn kx kr _ w a Q hQ h (hs.knowC hb) (fun f' a' w' h1 h2 ⟨V, h3, h4⟩ => let ⟨W', h5, h6⟩ := orR (u := (wr x).nrm) h3; hn f' a' w' h1 h2 ⟨W', h5, h4.mono h6⟩)
        (fun i f' a' w' h1 h2 ⟨V, h3, h4⟩ => hx i f' a' w' h1 h2 ⟨V, List.mem_append.2 (.inr h3), h4⟩) hr
  | block id x ih =>
    intro L kn kx kr f w a Q hQ h hs hn hx hr
    have orL : ∀ {u v : Option (List Nat)} {W : List Nat}, u = some W → ∃ W', orW u v = some W' ∧ ∀ t, t ∈ W → t ∈ W' := by
      intro u v W h
      subst h
      cases v with
      | none => exact ⟨W, rfl, fun _ h => h⟩
      | some V => exact ⟨W ++ V, rfl, fun _ h => List.mem_append.2 (.inl h)⟩
    have orR : ∀ {u v : Option (List Nat)} {W : List Nat}, v = some W → ∃ W', orW u v = some W' ∧ ∀ t, t ∈ W → t ∈ W' := by
      intro u v W h
      subst h
      cases u with
      | none => exact ⟨W, rfl, fun _ h => h⟩
      | some V => exact ⟨V ++ W, rfl, fun _ h => List.mem_append.2 (.inr h)⟩
    refine wp_block (ih L kn _ kr f w a _ hQ h hs ?_ ?_ hr)
    · exact fun f' a' w' h1 h2 ⟨V, h3, h4⟩ => let ⟨W', h5, h6⟩ := orL (v := exAt id (wr x).ex) h3; hn f' a' w' h1 h2 ⟨W', h5, h4.mono h6⟩
    · intro i f' a' w' h1 h2 ⟨V, h3, h4⟩
      show if i = id then Q .normal a' w' else Q (.exit i) a' w'
      by_cases hi : i = id
      · rw [if_pos hi]
        subst hi
        simp only [Nat.beq_refl, cond_true] at h1
        obtain ⟨l, h7, h8⟩ := exAt_mem h3
        obtain ⟨W', h5, h6⟩ := orR (u := (wr x).nrm) h7
        exact hn f' a' w' h1 h2 ⟨W', h5, h4.mono fun t ht => h6 t (h8 t ht)⟩
      · rw [if_neg hi]
        have hb : Nat.beq i id = false := by
          cases hb : Nat.beq i id with
          | false => rfl
          | true => exact absurd (Nat.eq_of_beq_eq_true hb) hi
        rw [hb] at h1
        exact hx i f' a' w' h1 h2 ⟨V, exNot_mem hi h3, h4⟩
  | loop x ih =>
    intro L kn kx kr f w a Q hQ h hs hn hx hr
    have hwr : wr (.loop x) = ⟨none, addW (match (wr x).nrm with | some l => l | none => []) (wr x).ex⟩ := rfl
    unfold vcode at h
    split at h
    · rename_i W hw
      rw [hw] at hwr
      obtain ⟨I, μ, h0, hround⟩ := h
      obtain ⟨vs0, hv0, hf0, hI0⟩ := withAll_some h0
      obtain ⟨e0, s0⟩ := getAll_vals hs hv0
      let J := jOf W (rd x ++ L) f []
      refine wp_loop (fun a' w' => I (valsOf a' J) w' ∧ Sh.fitsL (shsOf J) (valsOf a' J) = true ∧ Sat n (setAll J (valsOf a' J) (kill W f)) a' ∧ Agree W a a') (fun a' w' => μ (valsOf a' J) w')
        ⟨by rw [← e0]; exact hI0, by rw [← e0]; exact hf0, by rw [← e0]; exact s0 _ (hs.kill hs (Agree.refl _ _)), Agree.refl _ _⟩ ?_
      intro a1 w1 ⟨hI, hfit, hsat, hag⟩
      have hb := Sh.allL_elim _ (valsOf a1 J) hfit hround w1 hI
      refine ih _ _ kx kr _ w1 a1 _ hQ hb hsat ?_ ?_ hr
      · intro f' a' w' h1 h2 ⟨V, h3, h4⟩
        rw [hw] at h3
        cases h3
        obtain ⟨vs, hv, hf, hI', hμ⟩ := withAll_some h1
        obtain ⟨e1, s1⟩ := getAll_vals h2 hv
        have hag' : Agree W a a' := hag.trans h4
        refine ⟨⟨by rw [← e1]; exact hI', by rw [← e1]; exact hf, by rw [← e1]; exact s1 _ (hs.kill h2 hag'), hag'⟩, by rw [← e1]; exact hμ⟩
      · exact fun i f' a' w' h1 h2 ⟨V, h3, h4⟩ => hx i f' a' w' h1 h2 ⟨W ++ V, by rw [hwr]; exact mem_addW h3, hag.app h4⟩
    · rename_i hw
      rw [hw] at hwr
      refine wp_loop (fun a' w' => a' = a ∧ w' = w) (fun _ _ => 0) ⟨rfl, rfl⟩ ?_
      rintro a1 w1 ⟨rfl, rfl⟩
      exact ih L _ kx kr f w1 a1 _ hQ h hs (fun f' a' w' h1 => h1.elim) (fun i f' a' w' h1 h2 ⟨V, h3, h4⟩ => hx i f' a' w' h1 h2 ⟨[] ++ V, by rw [hwr]; exact mem_addW h3, by simpa using h4⟩) hr
  | rangeFunc => intro L kn kx kr f w a Q hQ h; exact h.elim
  | exit id => intro L kn kx kr f w a Q hQ h hs hn hx hr; exact wp_exit (hx id f a w h hs ⟨[], List.mem_cons_self, Agree.refl _ _⟩)
  | scope => intro L kn kx kr f w a Q hQ h; exact h.elim
  | label => intro L kn kx kr f w a Q hQ h; exact h.elim
  | goto => intro L kn kx kr f w a Q hQ h; exact h.elim
  | ret => intro L kn kx kr f w a Q hQ h hs hn hx hr; exact wp_ret (hr f a w h hs)
  | refuse => intro L kn kx kr f w a Q hQ h; exact h.elim
end Go.V
