/- The abstract machine's drawn regions, third part: whatever order is drawn, the run in the text's order is what it comes to. -/
import Derived.Test.YtpbgmoihgoeneaaGreatDoorAMDraw2
namespace Go.AM

/-! ## Relations to states that know less, and to states put together -/
section
variable {G : Nat} {ρ : Map} {w : World}

theorem Rel.congr {X X' : St} (r : Rel G ρ X w) (hn : X.next ≤ X'.next) (h : ∀ b B, ρ b ≠ none → X'.heap.get b = some B → X.heap.get b = some B) : Rel G ρ X' w := by
  have nn : ∀ {b L}, ρ b = some L → ρ b ≠ none := fun e e' => by rw [e] at e'; cases e'
  exact ⟨r.glob, fun b L e => Nat.lt_of_lt_of_le (r.low b L e) hn, r.bnd, fun b B L h1 h2 => r.blk b B L (h b B (nn h2) h1) h2,
    fun b b' B B' L L' h1 h1' h2 h2' h3 h4 => r.inj b b' B B' L L' (h b B (nn h2) h1) (h b' B' (nn h2') h1') h2 h2' h3 h4⟩

theorem Grow.congr {N : Nat} {ρ0 : Map} {σ0 : St} {w0 : World} {X X' : St} (g : Grow N ρ0 σ0 w0 ρ X w) (hn : X.next ≤ X'.next) (h : ∀ b B, ρ b ≠ none → X'.heap.get b = some B → X.heap.get b = some B) : Grow N ρ0 σ0 w0 ρ X' w := by
  have nn : ∀ {b L}, ρ b = some L → ρ b ≠ none := fun e e' => by rw [e] at e'; cases e'
  exact ⟨g.sub, g.old, Nat.le_trans g.next hn, g.size, g.frame, fun b K L h1 h2 => g.own b K L (h b K (nn h2) h1) h2, g.tape, g.os, g.output⟩

theorem join {S X S2 X2 : St} {ρ2 : Map} {w2 : World} {N : Nat} (rX : Rel G ρ X w) (hSX : ∀ b B, ρ b ≠ none → S.heap.get b = some B → X.heap.get b = some B) (g : Grow N ρ S w ρ2 S2 w2) (r2 : Rel G ρ2 S2 w2)
    (hX2 : ∀ b B, ρ2 b ≠ none → X2.heap.get b = some B → S2.heap.get b = some B ∨ (X.heap.get b = some B ∧ S.heap.get b = none ∧ b < N)) (hn : X2.next = S2.next) (hX : X.next ≤ X2.next) :
    Rel G ρ2 X2 w2 ∧ Grow N ρ X w ρ2 X2 w2 := by
  have nn : ∀ {ρ : Map} {b L}, ρ b = some L → ρ b ≠ none := fun e e' => by rw [e] at e'; cases e'
  refine ⟨⟨r2.glob, fun b L e => by rw [hn]; exact r2.low b L e, r2.bnd, fun b B L h1 h2 => ?_, fun b b' B B' L L' h1 h1' h2 h2' hne hro => ?_⟩, ⟨g.sub, g.old, hX, g.size, fun B hB hno => ?_, fun b K L h1 h2 => ?_, g.tape, g.os, g.output⟩⟩
  · rcases hX2 b B (nn h2) h1 with h3 | ⟨h3, h4, h5⟩
    · exact r2.blk b B L h3 h2
    · have h6 : ρ b = some L := by rw [← g.old b h5]; exact h2
      obtain ⟨O, q1, q2⟩ := rX.blk b B L h3 h6
      refine ⟨O, ?_, q2.mono g.sub⟩
      rw [g.frame _ (rX.bnd b L h6) fun c K M k1 k2 k3 => ?_]
      · exact q1
      · refine rX.inj c b K B M L (hSX c K (nn k2) k1) h3 k2 h6 (fun e => ?_) k3
        subst e; rw [h4] at k1; cases k1
  · rcases hX2 b B (nn h2) h1 with h3 | ⟨h3, h4, h5⟩ <;> rcases hX2 b' B' (nn h2') h1' with h3' | ⟨h3', h4', h5'⟩
    · exact r2.inj b b' B B' L L' h3 h3' h2 h2' hne hro
    · have h6' : ρ b' = some L' := by rw [← g.old b' h5']; exact h2'
      rcases g.own b B L h3 h2 with k | ⟨b0, K0, L0, k1, k2, k3, k4⟩
      · have := rX.bnd b' L' h6'
        omega
      · rw [← k4]
        refine rX.inj b0 b' K0 B' L0 L' (hSX b0 K0 (nn k2) k1) h3' k2 h6' (fun e => ?_) (k3 hro)
        subst e; rw [h4'] at k1; cases k1
    · have h6 : ρ b = some L := by rw [← g.old b h5]; exact h2
      rcases g.own b' B' L' h3' h2' with k | ⟨b0, K0, L0, k1, k2, k3, k4⟩
      · have := rX.bnd b L h6
        omega
      · rw [← k4]
        refine rX.inj b b0 B K0 L L0 h3 (hSX b0 K0 (nn k2) k1) h6 k2 (fun e => ?_) hro
        subst e; rw [h4] at k1; cases k1
    · exact rX.inj b b' B B' L L' h3 h3' (by rw [← g.old b h5]; exact h2) (by rw [← g.old b' h5']; exact h2') hne hro
  · exact g.frame B hB fun b K L k1 k2 k3 => hno b K L (hSX b K (nn k2) k1) k2 k3
  · rcases hX2 b K (nn h2) h1 with h3 | ⟨h3, h4, h5⟩
    · rcases g.own b K L h3 h2 with k | ⟨b0, K0, L0, k1, k2, k3, k4⟩
      · exact .inl k
      · exact .inr ⟨b0, K0, L0, hSX b0 K0 (nn k2) k1, k2, k3, k4⟩
    · exact .inr ⟨b, K, L, h3, by rw [← g.old b h5]; exact h2, id, rfl⟩
end

section
variable (E : Env) (ops : List Oper) (base : Nat) (F : Nat → Fr) (S : Nat → St) (V : Nat → Value) (Sg : Nat → St)

/-- The block that operation k makes. -/
def madeB (k : Nat) : Option Blk :=
  match ops[k]? with
  | some o => if wantedA ops (F k).tmps o && cls E o.op == 2 then (match allocA E (F k).tmps o.op with | .ok (B, _) => some B | .error _ => none) else none
  | none => none

def addAll (f : Nat → Option Blk) : Nat → St → St
  | 0, σ => σ
  | t + 1, σ => match f t with
    | some B => put (addAll f t σ) (base + t) (some B)
    | none => addAll f t σ

def fD (D : Nat → Bool) (j t : Nat) : Option Blk := if D t && decide (j ≤ pcnt E ops t) then madeB E ops F t else none

/-- The state behind the operations of D, j of them loud. -/
def XD (D : Nat → Bool) (j : Nat) : St := addAll base (fD E ops F D j) ops.length (Sg j)

/-- What a temporary holds behind the operations of D. -/
def tv (D : Nat → Bool) (d : Nat) : Nat → Option Value
  | 0 => (F 0).tmps.get d
  | k + 1 => if D k = true ∧ (ops[k]?).bind (·.dst) = some d then some (V k) else tv D d k

def StepD (R : Rec) (bs : List Nat) (J : Nat) (o : Oper) (b k : Nat) : Prop :=
  fput (F k) o.dst (V k) = .ok (F (k + 1)) ∧
  ((wantedA ops (F k).tmps o = true ∧
     ((cls E o.op = 0 ∧ pureA E (F k).tmps o.op = .ok (V k) ∧ S (k + 1) = S k) ∨
      (cls E o.op = 1 ∧ readA E (F k).tmps (S k) o.op = .ok (V k) ∧ S (k + 1) = S k ∧ ∀ j, j ≤ J → loudLo E b ops 0 0 0 ≤ j → j ≤ loudHi E k ops bs 0 → j ≠ pcnt E ops k → readA E (F k).tmps (Sg j) o.op = .ok (V k)) ∨
      (cls E o.op = 2 ∧ ∃ B vf, allocA E (F k).tmps o.op = .ok (B, vf) ∧ V k = vf (base + k) ∧ S (k + 1) = put (S k) (base + k) (some B) ∧
        ∀ j, j ≤ J → (j ≤ pcnt E ops k → (Sg j).heap.get (base + k) = none) ∧ (pcnt E ops k < j → j ≤ loudHi E k ops bs 0 → (Sg j).heap.get (base + k) = some B)) ∨
      (cls E o.op = 3 ∧ ∃ nx s', loudA E (F k).tmps (S k) o.op = .ok (nx, s') ∧ (∀ x, nx ≠ .defer x) ∧ (∀ fr2 fr3, fput fr2 o.dst (V k) = .ok fr3 → doNext R nx fr2 o.dst s' = .ok (fr3, S (k + 1))) ∧ Sg (pcnt E ops k + 1) = S (k + 1)))) ∨
   (wantedA ops (F k).tmps o = false ∧ V k = undef ∧ S (k + 1) = S k ∧ (cls E o.op = 3 → Sg (pcnt E ops k + 1) = S (k + 1))))

structure DT (R : Rec) (bs : List Nat) (J : Nat) : Prop where
  ord : Ords E ops bs
  J_eq : J = pcnt E ops ops.length
  s0 : S 0 = Sg 0
  step : ∀ (k : Nat) o b, ops[k]? = some o → bs[k]? = some b → StepD E ops base F S V Sg R bs J o b k
end

section
variable {E : Env} {ops : List Oper} {base : Nat} {F : Nat → Fr} {S : Nat → St} {V : Nat → Value} {Sg : Nat → St} {R : Rec} {bs : List Nat} {J : Nat}

theorem addAll_next (f : Nat → Option Blk) : ∀ (n : Nat) (σ : St), (addAll base f n σ).next = σ.next
  | 0, σ => rfl
  | n + 1, σ => by
    unfold addAll
    split
    · exact addAll_next f n σ
    · exact addAll_next f n σ

theorem addAll_get (f : Nat → Option Blk) (b : Nat) : ∀ (n : Nat) (σ : St),
    (∀ t B, t < n → b = base + t → f t = some B → (addAll base f n σ).heap.get b = some B) ∧ ((∀ t, t < n → b = base + t → f t = none) → (addAll base f n σ).heap.get b = σ.heap.get b)
  | 0, σ => ⟨fun t B h => absurd h (Nat.not_lt_zero _), fun _ => rfl⟩
  | n + 1, σ => by
    obtain ⟨h1, h2⟩ := addAll_get f b n σ
    unfold addAll
    refine ⟨fun t B ht hb hf => ?_, fun hall => ?_⟩
    · split
      · rename_i B' hB'
        rw [get_put]
        split
        · rename_i e
          have : t = n := by omega
          subst this
          rw [hf] at hB'; exact hB'.symm ▸ rfl
        · rename_i e
          exact h1 t B (by omega) hb hf
      · rename_i hn
        have : t ≠ n := fun e => by subst e; rw [hf] at hn; cases hn
        exact h1 t B (by omega) hb hf
    · have := h2 fun t ht => hall t (by omega)
      split
      · rename_i B' hB'
        rw [get_put, if_neg fun e => by have := hall n (by omega) e; rw [hB'] at this; cases this]
        exact this
      · exact this

theorem bs_some (T : DT E ops base F S V Sg R bs J) {k : Nat} (hk : k < ops.length) : ∃ o b, ops[k]? = some o ∧ bs[k]? = some b :=
  ⟨_, _, List.getElem?_eq_getElem hk, List.getElem?_eq_getElem (by rw [T.ord.len]; exact hk)⟩

theorem made_spec (T : DT E ops base F S V Sg R bs J) {k : Nat} {B : Blk} (h : madeB E ops F k = some B) : k < ops.length ∧
    ∀ j, j ≤ J → (j ≤ pcnt E ops k → (Sg j).heap.get (base + k) = none) ∧ (pcnt E ops k < j → j ≤ loudHi E k ops bs 0 → (Sg j).heap.get (base + k) = some B) := by
  unfold madeB at h
  cases ho : ops[k]? with
  | none => rw [ho] at h; cases h
  | some o =>
    have hk : k < ops.length := (List.getElem?_eq_some_iff.1 ho).1
    obtain ⟨o', b, ho', hb⟩ := bs_some T hk
    rw [ho] at ho'; cases ho'
    rw [ho] at h
    dsimp only at h
    split at h
    · rename_i hw
      simp only [Bool.and_eq_true, beq_iff_eq] at hw
      refine ⟨hk, ?_⟩
      rcases (T.step k o b ho hb).2 with ⟨_, ⟨hc, _⟩ | ⟨hc, _⟩ | ⟨hc, B', vf, h1, h2, h3, h4⟩ | ⟨hc, _⟩⟩ | ⟨hu, _⟩
      · omega
      · omega
      · rw [h1] at h
        cases h
        exact h4
      · omega
      · rw [hw.1] at hu; cases hu
    · cases h

theorem XD_iff (T : DT E ops base F S V Sg R bs J) {D : Nat → Bool} {j : Nat} (hj : j ≤ J) (b : Nat) (B : Blk) :
    (XD E ops base F Sg D j).heap.get b = some B ↔ (Sg j).heap.get b = some B ∨ ∃ t, t < ops.length ∧ b = base + t ∧ D t = true ∧ j ≤ pcnt E ops t ∧ madeB E ops F t = some B := by
  obtain ⟨h1, h2⟩ := addAll_get (base := base) (fD E ops F D j) b ops.length (Sg j)
  have fs : ∀ t B, fD E ops F D j t = some B ↔ D t = true ∧ j ≤ pcnt E ops t ∧ madeB E ops F t = some B := fun t B => by
    unfold fD
    by_cases hc : (D t && decide (j ≤ pcnt E ops t)) = true
    · rw [if_pos hc]
      simp only [Bool.and_eq_true, decide_eq_true_eq] at hc
      simp [hc.1, hc.2]
    · rw [if_neg hc]
      simp only [Bool.and_eq_true, decide_eq_true_eq] at hc
      constructor
      · intro h; cases h
      · intro h; exact absurd ⟨h.1, h.2.1⟩ hc
  by_cases he : ∃ t, t < ops.length ∧ b = base + t ∧ ∃ B', fD E ops F D j t = some B'
  · obtain ⟨t, ht, hb, B', hB'⟩ := he
    have h3 := h1 t B' ht hb hB'
    have h4 := (fs t B').1 hB'
    have h5 := ((made_spec T h4.2.2).2 j hj).1 h4.2.1
    constructor
    · intro h
      have h : (addAll base (fD E ops F D j) ops.length (Sg j)).heap.get b = some B := h
      rw [h3] at h; cases h
      exact .inr ⟨t, ht, hb, h4⟩
    · rintro (h | ⟨t', ht', hb', h6⟩)
      · rw [hb, h5] at h; cases h
      · have : t' = t := by omega
        subst this
        rw [h4.2.2] at h6
        have := h6.2.2; cases this
        exact h3
  · have h3 := h2 fun t ht hb => by
      cases hf : fD E ops F D j t with
      | none => rfl
      | some B' => exact absurd ⟨t, ht, hb, B', hf⟩ he
    constructor
    · intro h
      have h : (addAll base (fD E ops F D j) ops.length (Sg j)).heap.get b = some B := h
      rw [h3] at h; exact .inl h
    · rintro (h | ⟨t', ht', hb', h6⟩)
      · exact h3.trans h
      · exact absurd ⟨t', ht', hb', B, (fs t' B).2 h6⟩ he

theorem not_made {k : Nat} {o : Oper} (ho : ops[k]? = some o) (h : wantedA ops (F k).tmps o = false ∨ cls E o.op ≠ 2) : madeB E ops F k = none := by
  unfold madeB
  rw [ho]
  dsimp only
  rw [if_neg]
  intro hc
  simp only [Bool.and_eq_true, beq_iff_eq] at hc
  rcases h with h | h
  · rw [hc.1] at h; cases h
  · exact h hc.2

theorem is_made {k : Nat} {o : Oper} (ho : ops[k]? = some o) (hw : wantedA ops (F k).tmps o = true) (hc : cls E o.op = 2) {B : Blk} {vf : Nat → Value} (ha : allocA E (F k).tmps o.op = .ok (B, vf)) : madeB E ops F k = some B := by
  unfold madeB
  rw [ho]
  dsimp only
  rw [if_pos (by simp [hw, hc]), ha]

/-- The run's states in the text's order. -/
theorem S_iff (T : DT E ops base F S V Sg R bs J) : ∀ (k : Nat), k ≤ ops.length → (S k).next = (Sg (pcnt E ops k)).next ∧
    ∀ b B, (S k).heap.get b = some B ↔ (Sg (pcnt E ops k)).heap.get b = some B ∨ ∃ t, t < k ∧ b = base + t ∧ pcnt E ops t = pcnt E ops k ∧ madeB E ops F t = some B
  | 0, _ => by
    have e : pcnt E ops 0 = 0 := by cases ops <;> rfl
    rw [T.s0, e]
    exact ⟨rfl, fun b B => ⟨.inl, fun h => h.elim id fun ⟨t, ht, _⟩ => absurd ht (Nat.not_lt_zero _)⟩⟩
  | k + 1, hk => by
    obtain ⟨ih1, ih2⟩ := S_iff T k (by omega)
    obtain ⟨o, bb, ho, hb⟩ := bs_some T (k := k) (by omega)
    have hp := pcnt_succ (E := E) ho
    have quiet : cls E o.op ≠ 3 → madeB E ops F k = none → S (k + 1) = S k → (S (k + 1)).next = (Sg (pcnt E ops (k + 1))).next ∧
        ∀ b B, (S (k + 1)).heap.get b = some B ↔ (Sg (pcnt E ops (k + 1))).heap.get b = some B ∨ ∃ t, t < k + 1 ∧ b = base + t ∧ pcnt E ops t = pcnt E ops (k + 1) ∧ madeB E ops F t = some B := by
      intro hc hm hs
      rw [hp, if_neg hc, Nat.add_zero, hs]
      refine ⟨ih1, fun b B => (ih2 b B).trans ⟨fun h => h.imp id fun ⟨t, h1, h2⟩ => ⟨t, by omega, h2⟩, fun h => h.imp id fun ⟨t, h1, h2, h3, h4⟩ => ⟨t, ?_, h2, h3, h4⟩⟩⟩
      have : t ≠ k := fun e => by subst e; rw [hm] at h4; cases h4
      omega
    have loud : cls E o.op = 3 → Sg (pcnt E ops k + 1) = S (k + 1) → (S (k + 1)).next = (Sg (pcnt E ops (k + 1))).next ∧
        ∀ b B, (S (k + 1)).heap.get b = some B ↔ (Sg (pcnt E ops (k + 1))).heap.get b = some B ∨ ∃ t, t < k + 1 ∧ b = base + t ∧ pcnt E ops t = pcnt E ops (k + 1) ∧ madeB E ops F t = some B := by
      intro hc hs
      rw [hp, if_pos hc, hs]
      refine ⟨rfl, fun b B => ⟨.inl, fun h => h.elim id fun ⟨t, h1, h2, h3, h4⟩ => ?_⟩⟩
      have := pcnt_mono (E := E) (ops := ops) (i := t) (k := k) (by omega) (by omega)
      omega
    rcases (T.step k o bb ho hb).2 with ⟨hw, ⟨hc, _, hs⟩ | ⟨hc, _, hs, _⟩ | ⟨hc, B', vf, h1, h2, h3, h4⟩ | ⟨hc, nx, s', _, _, _, hs⟩⟩ | ⟨hw, _, hs, hs'⟩
    · exact quiet (by omega) (not_made ho (.inr (by omega))) hs
    · exact quiet (by omega) (not_made ho (.inr (by omega))) hs
    · have hm := is_made ho hw hc h1
      have hpe : pcnt E ops (k + 1) = pcnt E ops k := by rw [hp, if_neg (by omega), Nat.add_zero]
      rw [hpe, h3]
      refine ⟨ih1, fun b B => ?_⟩
      rw [get_put]
      by_cases e : b = base + k
      · rw [if_pos e]
        have hJ : pcnt E ops k ≤ J := by rw [T.J_eq]; exact pcnt_mono (by omega) (Nat.le_refl _)
        have h5 := (h4 _ hJ).1 (Nat.le_refl _)
        constructor
        · intro h; cases h
          exact .inr ⟨k, by omega, e, rfl, hm⟩
        · rintro (h | ⟨t, q1, q2, q3, q4⟩)
          · rw [e, h5] at h; cases h
          · have : t = k := by omega
            subst this
            rw [hm] at q4; exact q4
      · rw [if_neg e]
        refine (ih2 b B).trans ⟨fun h => h.imp id fun ⟨t, h1, h2⟩ => ⟨t, by omega, h2⟩, fun h => h.imp id fun ⟨t, q1, q2, q3, q4⟩ => ⟨t, ?_, q2, q3, q4⟩⟩
        have : t ≠ k := fun e' => by subst e'; exact e q2
        omega
    · exact loud hc hs
    · by_cases hc : cls E o.op = 3
      · exact loud hc (hs' hc)
      · exact quiet hc (not_made ho (.inl hw)) hs

theorem fput_get {fr fr' : Fr} {d : Option Tmp} {v : Value} (h : fput fr d v = .ok fr') : fr'.defers = fr.defers ∧ fr'.round = fr.round ∧ ∀ i, fr'.tmps.get i = if d = some i then some v else fr.tmps.get i := by
  obtain ⟨t, ds, r⟩ := fr
  cases d with
  | none => cases h; exact ⟨rfl, rfl, fun i => by simp⟩
  | some d =>
    simp only [fput, forceV_eq, ok_bind, T.setM_eq] at h
    cases h
    refine ⟨rfl, rfl, fun i => ?_⟩
    rw [T.get_put]
    by_cases e : i = d
    · subst e; simp
    · rw [if_neg e, if_neg (by simpa using Ne.symm e)]

/-- The temporaries in the text's order. -/
theorem F_tmps (T : DT E ops base F S V Sg R bs J) (d : Nat) : ∀ (k : Nat), k ≤ ops.length → (F k).tmps.get d = tv ops F V (fun _ => true) d k
  | 0, _ => rfl
  | k + 1, hk => by
    obtain ⟨o, b, ho, hb⟩ := bs_some T (k := k) (by omega)
    rw [(fput_get (T.step k o b ho hb).1).2.2 d]
    unfold tv
    rw [ho, F_tmps T d k (by omega)]
    simp only [Option.bind_some, true_and]

theorem tv_congr {D D' : Nat → Bool} {d : Nat} : ∀ (k : Nat), (∀ t, t < k → (ops[t]?).bind (·.dst) = some d → D t = D' t) → tv ops F V D d k = tv ops F V D' d k
  | 0, _ => rfl
  | k + 1, h => by
    unfold tv
    by_cases hd : (ops[k]?).bind (·.dst) = some d
    · rw [h k (by omega) hd, tv_congr k fun t ht => h t (by omega)]
    · rw [if_neg fun q => hd q.2, if_neg fun q => hd q.2]
      exact tv_congr k fun t ht => h t (by omega)

/-- None of D's operations from i on writes it. -/
theorem tv_upto {D : Nat → Bool} {d i : Nat} : ∀ (k : Nat), i ≤ k → (∀ t, i ≤ t → t < k → (ops[t]?).bind (·.dst) = some d → D t = false) → tv ops F V D d k = tv ops F V D d i
  | 0, h, _ => by have : i = 0 := by omega
                  subst this; rfl
  | k + 1, h, hn => by
    by_cases e : i = k + 1
    · subst e; rfl
    · rw [show tv ops F V D d (k + 1) = if D k = true ∧ (ops[k]?).bind (·.dst) = some d then some (V k) else tv ops F V D d k from rfl]
      rw [if_neg fun q => by have := hn k (by omega) (by omega) q.2; rw [q.1] at this; cases this]
      exact tv_upto k (by omega) fun t h1 h2 => hn t h1 (by omega)
end
end Go.AM
