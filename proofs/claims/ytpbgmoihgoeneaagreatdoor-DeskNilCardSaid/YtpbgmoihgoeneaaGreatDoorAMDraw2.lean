/- The abstract machine's drawn regions, second part: the run in the text's order, step for step. -/
import Derived.Test.YtpbgmoihgoeneaaGreatDoorAMDraw
namespace Go.AM
section
variable {E : Env} {R : Rec}

theorem doNext_split {n : ANext} {fr fr' : Fr} {d : Option Tmp} {σ σ' : St} (hn : ∀ x, n ≠ .defer x) (h : doNext R n fr d σ = .ok (fr', σ')) :
    ∃ v, fput fr d v = .ok fr' ∧ ∀ fr2 fr3, fput fr2 d v = .ok fr3 → doNext R n fr2 d σ = .ok (fr3, σ') := by
  cases n with
  | value v =>
    replace h := bind_ok h
    obtain ⟨fr1, h1, h⟩ := h
    cases h
    exact ⟨v, h1, fun fr2 fr3 h2 => by simp [doNext, h2]⟩
  | call f args =>
    replace h := bind_ok h
    obtain ⟨⟨v, σ1⟩, h0, h⟩ := h
    replace h := bind_ok h
    obtain ⟨fr1, h1, h⟩ := h
    cases h
    exact ⟨v, h1, fun fr2 fr3 h2 => by simp [doNext, h0, h2]⟩
  | round l args =>
    replace h := bind_ok h
    obtain ⟨⟨v, σ1⟩, h0, h⟩ := h
    replace h := bind_ok h
    obtain ⟨fr1, h1, h⟩ := h
    cases h
    exact ⟨v, h1, fun fr2 fr3 h2 => by simp [doNext, h0, h2]⟩
  | defer x => exact absurd rfl (hn x)

/-- What a note promises of the state behind j loud operations. -/
def NoteAt (E : Env) (note : Note) (σ : St) (j : Nat) : Prop :=
  match note with
  | .read fr o v lo hi p => lo ≤ j → j ≤ hi → j ≠ p → readA E fr σ o = .ok v
  | .made n b hi p => (j ≤ p → σ.heap.get n = none) ∧ (p < j → j ≤ hi → σ.heap.get n = some b)

theorem noteOk_spec {note : Note} : ∀ (l : List St) (j0 : Nat), noteOk E note l j0 = true → ∀ (j : Nat) σ, l[j]? = some σ → NoteAt E note σ (j0 + j)
  | [], j0, _, j, σ, h => by simp at h
  | s :: l, j0, hk, j, σ, h => by
    simp only [noteOk, Bool.and_eq_true] at hk
    cases j with
    | zero =>
      simp at h; subst h
      have hk := hk.1
      cases note with
      | read fr o v lo hi p =>
        intro h1 h2 h3
        dsimp only at hk
        rw [if_pos (by simp only [Bool.and_eq_true, decide_eq_true_eq]; exact ⟨⟨by simpa using h1, by simpa using h2⟩, by simpa using h3⟩)] at hk
        split at hk
        · rename_i v' hv'
          rw [sameV_ok _ _ hk]
          exact hv'
        · cases hk
      | made n b hi p =>
        dsimp only at hk
        refine ⟨fun h1 => ?_, fun h1 h2 => ?_⟩
        · rw [if_pos (by simpa using h1)] at hk
          simpa using hk
        · rw [if_neg (by omega), if_pos (by simpa using h2)] at hk
          split at hk
          · rename_i b' hb'
            rw [sameBlk_ok hk]; exact hb'
          · cases hk
    | succ j =>
      have := noteOk_spec l (j0 + 1) hk.2 j σ (by simpa using h)
      rw [show j0 + (j + 1) = j0 + 1 + j by omega]; exact this

theorem notesOk_spec {snaps : List St} : ∀ {notes : List Note}, notesOk E snaps notes = true → ∀ n ∈ notes, noteOk E n snaps 0 = true
  | [], _, n, hn => by simp at hn
  | x :: l, h, n, hn => by
    simp only [notesOk, Bool.and_eq_true] at h
    rcases List.mem_cons.1 hn with rfl | hn
    · exact h.1
    · exact notesOk_spec h.2 n hn

/-- One step of the run in the text's order. -/
def StepT (E : Env) (R : Rec) (ops : List Oper) (bs : List Nat) (base : Nat) (snaps : List St) (notes : List Note) (o : Oper) (b k : Nat) (fr fr1 : Fr) (s s1 : St) (v : Value) : Prop :=
  fput fr o.dst v = .ok fr1 ∧
  ((wantedA ops fr.tmps o = true ∧
     ((cls E o.op = 0 ∧ pureA E fr.tmps o.op = .ok v ∧ s1 = s) ∨
      (cls E o.op = 1 ∧ readA E fr.tmps s o.op = .ok v ∧ s1 = s ∧ .read fr.tmps o.op v (loudLo E b ops 0 0 0) (loudHi E k ops bs 0) (pcnt E ops k) ∈ notes) ∨
      (cls E o.op = 2 ∧ ∃ B vf, allocA E fr.tmps o.op = .ok (B, vf) ∧ v = vf (base + k) ∧ s1 = put s (base + k) (some B) ∧ .made (base + k) B (loudHi E k ops bs 0) (pcnt E ops k) ∈ notes) ∨
      (cls E o.op = 3 ∧ ∃ nx s', loudA E fr.tmps s o.op = .ok (nx, s') ∧ (∀ x, nx ≠ .defer x) ∧ (∀ fr2 fr3, fput fr2 o.dst v = .ok fr3 → doNext R nx fr2 o.dst s' = .ok (fr3, s1)) ∧ snaps.reverse[pcnt E ops k + 1]? = some s1))) ∨
   (wantedA ops fr.tmps o = false ∧ v = undef ∧ s1 = s ∧ (cls E o.op = 3 → snaps.reverse[pcnt E ops k + 1]? = some s1)))

theorem snap_at {more snaps : List St} {s : St} {n : Nat} (h : snaps.length = n) : (more ++ s :: snaps).reverse[n]? = some s := by
  simp [h]

theorem trace {ops : List Oper} {bs : List Nat} {base : Nat} (hlen : bs.length = ops.length) : ∀ (rest : List Oper) (bl : List Nat) (i p : Nat) (fr : Fr) (σ : St) (snaps : List St) (notes : List Note) {fr' : Fr} {σ' : St} {snaps' : List St} {notes' : List Note},
    drawA E R ops bs base rest bl i p fr σ snaps notes = .ok (fr', σ', snaps', notes') → i ≤ ops.length → rest = ops.drop i → bl = bs.drop i → p = pcnt E ops i → snaps.length = p + 1 →
    ∃ (F : Nat → Fr) (S : Nat → St) (V : Nat → Value), F i = fr ∧ S i = σ ∧ F ops.length = fr' ∧ S ops.length = σ' ∧
      (∃ more, snaps' = more ++ snaps) ∧ (∀ x ∈ notes, x ∈ notes') ∧ snaps'.length = pcnt E ops ops.length + 1 ∧
      ∀ (k : Nat) o b, i ≤ k → ops[k]? = some o → bs[k]? = some b → StepT E R ops bs base snaps' notes' o b k (F k) (F (k + 1)) (S k) (S (k + 1)) (V k)
  | [], bl, i, p, fr, σ, snaps, notes, fr', σ', snaps', notes', h, hi, hr, hb, hp, hs => by
    have hi' : i = ops.length := by
      have := congrArg List.length hr
      simp at this; omega
    have h : (Except.ok (fr, σ, snaps, notes) : M (Fr × St × List St × List Note)) = Except.ok (fr', σ', snaps', notes') := by
      rw [← h]; cases bl <;> rfl
    cases h
    subst hi'
    refine ⟨fun _ => fr, fun _ => σ, fun _ => undef, rfl, rfl, rfl, rfl, ⟨[], rfl⟩, fun x hx => hx, by omega, fun k o b hk ho => ?_⟩
    have := (List.getElem?_eq_some_iff.1 ho).1
    omega
  | o :: rest, [], i, p, fr, σ, snaps, notes, fr', σ', snaps', notes', h, hi, hr, hb, hp, hs => by
    have := congrArg List.length hr
    have := congrArg List.length hb
    simp at *; omega
  | o :: rest, b :: bl, i, p, fr, σ, snaps, notes, fr', σ', snaps', notes', h, hi, hr, hb, hp, hs => by
    have hi1 : i < ops.length := by
      have := congrArg List.length hr
      simp at this; omega
    have ho : ops[i]? = some o := by
      have : (ops.drop i)[0]? = some o := by rw [← hr]; rfl
      simpa using this
    have hbi : bs[i]? = some b := by
      have : (bs.drop i)[0]? = some b := by rw [← hb]; rfl
      simpa using this
    have hr' : rest = ops.drop (i + 1) := by
      have : (ops.drop i).tail = rest := by rw [← hr]; rfl
      rw [← this, List.tail_drop]
    have hb' : bl = bs.drop (i + 1) := by
      have : (bs.drop i).tail = bl := by rw [← hb]; rfl
      rw [← this, List.tail_drop]
    have hps := pcnt_succ (E := E) ho
    -- from the rest's run and the first step
    have fin : ∀ (p1 : Nat) (fr1 : Fr) (σ1 : St) (snaps1 : List St) (notes1 : List Note) (v : Value), drawA E R ops bs base rest bl (i + 1) p1 fr1 σ1 snaps1 notes1 = .ok (fr', σ', snaps', notes') →
        p1 = pcnt E ops (i + 1) → snaps1.length = p1 + 1 → (∃ more, snaps1 = more ++ snaps) → (∀ x ∈ notes, x ∈ notes1) →
        ((∃ more, snaps' = more ++ snaps1) → (∀ x ∈ notes1, x ∈ notes') → StepT E R ops bs base snaps' notes' o b i fr fr1 σ σ1 v) →
        ∃ (F : Nat → Fr) (S : Nat → St) (V : Nat → Value), F i = fr ∧ S i = σ ∧ F ops.length = fr' ∧ S ops.length = σ' ∧
          (∃ more, snaps' = more ++ snaps) ∧ (∀ x ∈ notes, x ∈ notes') ∧ snaps'.length = pcnt E ops ops.length + 1 ∧
          ∀ (k : Nat) o b, i ≤ k → ops[k]? = some o → bs[k]? = some b → StepT E R ops bs base snaps' notes' o b k (F k) (F (k + 1)) (S k) (S (k + 1)) (V k) := by
      intro p1 fr1 σ1 snaps1 notes1 v hrest hp1 hs1 hm hn hst
      obtain ⟨F, S, V, g1, g2, g3, g4, g5, g6, g7, g8⟩ := trace hlen rest bl (i + 1) p1 fr1 σ1 snaps1 notes1 hrest hi1 hr' hb' hp1 hs1
      refine ⟨fun k => if k = i then fr else F k, fun k => if k = i then σ else S k, fun k => if k = i then v else V k, by simp, by simp, by simp [Nat.ne_of_gt hi1, g3], by simp [Nat.ne_of_gt hi1, g4], ?_, fun x hx => g6 x (hn x hx), g7, ?_⟩
      · obtain ⟨m1, e1⟩ := g5
        obtain ⟨m2, e2⟩ := hm
        exact ⟨m1 ++ m2, by rw [e1, e2, List.append_assoc]⟩
      · intro k o' b' hk ho' hb2
        by_cases e : k = i
        · subst e
          rw [ho] at ho'; cases ho'
          rw [hbi] at hb2; cases hb2
          have hne : ¬ k + 1 = k := by omega
          simp only [if_true, if_neg hne, g1, g2]
          exact hst g5 g6
        · have hne : ¬ k + 1 = i := by omega
          simp only [if_neg e, if_neg hne]
          exact g8 k o' b' (by omega) ho' hb2
    unfold drawA at h
    split at h
    · rename_i hw
      split at h
      · rename_i hc
        replace h := bind_ok h
        obtain ⟨v, hv, h⟩ := h
        replace h := bind_ok h
        obtain ⟨fr1, hf, h⟩ := h
        exact fin p fr1 σ snaps notes v h (by rw [hps, hc]; simpa using hp) hs ⟨[], rfl⟩ (fun x hx => hx) fun _ _ => ⟨hf, .inl ⟨hw, .inl ⟨hc, hv, rfl⟩⟩⟩
      · rename_i hc
        replace h := bind_ok h
        obtain ⟨v, hv, h⟩ := h
        replace h := bind_ok h
        obtain ⟨fr1, hf, h⟩ := h
        exact fin p fr1 σ snaps _ v h (by rw [hps, hc]; simpa using hp) hs ⟨[], rfl⟩ (fun x hx => List.mem_cons_of_mem _ hx) fun _ hn => ⟨hf, .inl ⟨hw, .inr (.inl ⟨hc, hv, rfl, by rw [← hp]; exact hn _ (by simp)⟩)⟩⟩
      · rename_i hc
        replace h := bind_ok h
        obtain ⟨⟨B, vf⟩, hv, h⟩ := h
        rw [forceN_eq] at h
        simp only [ok_bind, setBlk_eq] at h
        replace h := bind_ok h
        obtain ⟨fr1, hf, h⟩ := h
        exact fin p fr1 _ snaps _ _ h (by rw [hps, hc]; simpa using hp) hs ⟨[], rfl⟩ (fun x hx => List.mem_cons_of_mem _ hx) fun _ hn => ⟨hf, .inl ⟨hw, .inr (.inr (.inl ⟨hc, B, vf, hv, rfl, rfl, by rw [← hp]; exact hn _ (by simp)⟩))⟩⟩
      · rename_i h0 h1 h2
        have hc : cls E o.op = 3 := by
          have := cls_le (E := E) o.op
          have h0' : ¬ cls E o.op = 0 := h0
          have h1' : ¬ cls E o.op = 1 := h1
          have h2' : ¬ cls E o.op = 2 := h2
          omega
        replace h := bind_ok h
        obtain ⟨⟨nx, s'⟩, hv, h⟩ := h
        dsimp only at h
        have key : (∀ x, nx ≠ .defer x) ∧ ((doNext R nx fr o.dst s').bind fun (fr, σ) => drawA E R ops bs base rest bl (i + 1) (p + 1) fr σ (σ :: snaps) notes) = .ok (fr', σ', snaps', notes') := by
          cases nx <;> first | exact ⟨(fun x e => by cases e), h⟩ | cases h
        obtain ⟨hnd, h⟩ := key
        replace h := bind_ok h
        obtain ⟨⟨fr1, σ1⟩, hn, h⟩ := h
        obtain ⟨v, q1, q2⟩ := doNext_split hnd hn
        refine fin (p + 1) fr1 σ1 _ notes v h (by rw [hps, hc]; simp [hp]) (by simp [hs]) ⟨[σ1], rfl⟩ (fun x hx => hx) fun hm _ => ⟨q1, .inl ⟨hw, .inr (.inr (.inr ⟨hc, nx, s', hv, hnd, q2, ?_⟩))⟩⟩
        obtain ⟨more, e⟩ := hm
        rw [e]
        exact snap_at (by omega)
    · rename_i hw
      have hw : wantedA ops fr.tmps o = false := by simpa using hw
      replace h := bind_ok h
      obtain ⟨fr1, hf, h⟩ := h
      split at h
      · rename_i hc
        refine fin (p + 1) fr1 σ _ notes undef h (by rw [hps, hc]; simp [hp]) (by simp [hs]) ⟨[σ], rfl⟩ (fun x hx => hx) fun hm _ => ⟨hf, .inr ⟨hw, rfl, rfl, fun _ => ?_⟩⟩
        obtain ⟨more, e⟩ := hm
        rw [e]
        exact snap_at (by omega)
      · rename_i hc
        have hc : ¬ cls E o.op = 3 := hc
        exact fin p fr1 σ snaps notes undef h (by rw [hps, if_neg hc]; simpa using hp) hs ⟨[], rfl⟩ (fun x hx => hx) fun _ _ => ⟨hf, .inr ⟨hw, rfl, rfl, fun h3 => absurd h3 hc⟩⟩
end
end Go.AM
