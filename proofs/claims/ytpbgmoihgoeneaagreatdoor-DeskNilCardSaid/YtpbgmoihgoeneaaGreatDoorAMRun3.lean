/- The abstract machine's control, third part: each form of code; the recursion. -/
import Derived.Test.YtpbgmoihgoeneaaGreatDoorAMRun2
namespace Go.AM
section
variable {P : Program} {E : Env} {R : Rec}

theorem exOf_inj {x y : AX} (h : exOf x = exOf y) : x = y := by cases x <;> cases y <;> simp_all [exOf]

/-- What a pending jump of a range over a function does next. -/
theorem rangeFunc_ok (S : Sound P E R) (ok : EnvOk P E) (hD : 100 ≤ P.types.size + Made.depth) {g : Operand} {ps : Array Tmp} {assign body : Code} {fr : Fr} {σ : St} {x : AX} {fr' : Fr} {σ' : St}
    (h : codeA E R (.rangeFunc g ps assign body) fr σ = .ok (x, fr', σ')) {ro : Option Nat} {ρ : Map} {lo n : Nat} {a : Act} {w : World} (hwf : wfCode E.G n (.rangeFunc g ps assign body) = true) (hlo : lo ≤ w.heap.size)
    (f : FrRel ro ρ lo n w fr a) (r : Rel E.G ρ σ w) : (Code.rangeFunc g ps assign body).wpIn (FW ro) 0 P (Post E.G ro ρ σ w lo n x fr' σ') a w := by
  simp only [codeA] at h
  split at h
  · cases h
  rename_i hround
  have hro : ro = none := by
    have := f.round
    cases ro with
    | none => rfl
    | some l => rw [this] at hround; simp at hround
  subst hro
  rw [newBlk_eq] at h
  simp only [ok_bind] at h
  replace h := bind_ok h
  obtain ⟨⟨tf, av, cv⟩, htg, h⟩ := h
  replace h := bind_ok h
  obtain ⟨⟨nx, σ1⟩, hinv, h⟩ := h
  replace h := bind_ok h
  obtain ⟨⟨v, σ2⟩, hcall, h⟩ := h
  simp only [wfCode, Bool.and_eq_true] at hwf
  obtain ⟨⟨⟨w1, w2⟩, w3⟩, w4⟩ := hwf
  have hps : ∀ p ∈ ps.toList, p < a.tmps.size := fun p hp => by
    have := allL_mem w2 hp
    rw [f.size]; simpa using this
  refine wpIn_rangeFunc fun fn _ => ?_
  -- the record and the block for the rounds' deferred calls
  obtain ⟨rp, gp⟩ := r.push (.deferred (some []))
  let lp : Loop := { state := .ready, pending := none, fn, tmps := a.tmps, params := ps, assign, body, defers := w.heap.size }
  let wp := wpush w (.deferred (some []))
  have hwp : wp.heap.size = w.heap.size + 1 := by simp [wp, wpush]
  have ho : ORel E.G (addρ ρ σ.next ⟨wp.heap.size, 0, 0⟩) (.loop .ready none fr.tmps ps.toList assign body) ⟨wp.heap.size, 0, 0⟩ (.loop lp) :=
    ⟨lp, rfl, rfl, rfl, f.t.mono (addρ_sub _ r.fresh), by simp [lp], rfl, rfl, by rw [← f.size] at w3; exact w3, by rw [← f.size] at w4; exact w4, hps⟩
  obtain ⟨rl, gl⟩ := rp.alloc r.fresh (σ.next + 1) (Nat.lt_succ_self _) (Nat.le_succ _) 0 ho
  have f0 : FrRel none _ lo n _ fr a := (f.grow r (gp 0)).grow rp (gl σ.next (Nat.le_refl _))
  have henter : (Instr.enterLoop fn a.tmps ps assign body (FW none).round).run P w = .ok (wp.heap.size, [{ target := .collected w.heap.size, args := #[] }]) (wpush wp (.loop lp)) := by
    rfl
  have hg : VRel (addρ ρ σ.next ⟨wp.heap.size, 0, 0⟩) (ev fr.tmps g) (a.eval g) := ev_rel rl.glob f0.t w1
  have hy : LRel (addρ ρ σ.next ⟨wp.heap.size, 0, 0⟩) [.func (.yield σ.next) #[] #[]] (#[.func (.yield wp.heap.size) #[] #[]] : Array Value).toList :=
    .cons (.func ⟨_, addρ_same _ _ _, rfl⟩ .nil .nil) .nil
  obtain ⟨tf', av', cv', t1, t2, t3, t4⟩ := target_ok (P := P) hg hy htg (wpush wp (.loop lp))
  obtain ⟨e1, N, q1, q2⟩ := invoke_ok ok hD rl t2 t3 t4 hinv
  dsimp only at hcall
  split at hcall
  rotate_left
  · cases hcall
  rename_i cf cargs
  obtain ⟨args', e2, q3⟩ := q2
  subst e1
  subst e2
  refine ⟨wp.heap.size, [{ target := .collected w.heap.size, args := #[] }], wpush wp (.loop lp), { target := .fn tf' cv', args := av' }, wpush wp (.loop lp), cf, args', wpush wp (.loop lp), henter, ?_, fun _ _ => trivial, q1, fun h => FW.depth none h, ?_⟩
  · show (resolve a.eval (rangeCall g wp.heap.size) 0).run P (wpush wp (.loop lp)) = _
    have : (#[Operand.const (.func (.yield wp.heap.size) #[] #[])] : Array Operand).map a.eval = #[.func (.yield wp.heap.size) #[] #[]] := by simp; rfl
    simp only [resolve, this]
    exact t1
  · refine CallsIn.mono (S.call hcall q3 rl).1 ?_
    rintro e w5 ⟨v', rfl, ρ5, g5, r5, _⟩
    dsimp only at h
    split at h
    rotate_left
    · cases h
    rename_i st pending tmps1 params1 assign1 body1 hblk
    have hL5 := g5.sub _ _ (addρ_same ρ σ.next ⟨wp.heap.size, 0, 0⟩)
    obtain ⟨O, m1, lp5, m2, m3, m4, m5, m6, m7, m8, m9, m10, m11⟩ := r5.blk _ _ _ hblk hL5
    subst m2
    have get5 := run_getObj (P := P) w5 _ _ m1 (by simp)
    have set5 := fun O' => run_setObj (P := P) w5 _ _ O' m1 (by simp)
    dsimp only at get5 set5 m1
    have gall : Grow σ.next ρ σ w ρ5 σ2 w5 := ((gp σ.next).trans (gl σ.next (Nat.le_refl _)) (Nat.le_refl _)).trans g5 (Nat.le_succ _)
    have f5 := f0.grow rl g5
    have hmark : w5.heap[w.heap.size]? = some (.deferred (some [])) := by
      have h0 : (wpush wp (.loop lp)).heap[w.heap.size]? = some (.deferred (some [])) := by
        rw [heap_push, if_neg (by omega)]
        show (wpush w _).heap[w.heap.size]? = _
        rw [heap_push, if_pos rfl]
      rw [g5.frame _ (size_of_some h0) fun c K L h1 h2 _ => rl.notDeferred h0 c K L h1 h2]
      exact h0
    -- behind the statement
    have fin : st ≠ .busy → ∀ σ6, setBlk σ2 σ.next (.loop .exhausted pending tmps1 params1 assign1 body1) = .ok σ6 →
        (match pending with
          | none => x = .normal ∧ fr' = fr ∧ σ' = σ6
          | some .ret => x = .ret ∧ fr' = fr ∧ σ' = σ6
          | some (.exit id) => x = .exit id ∧ fr' = fr ∧ σ' = σ6
          | some _ => False) →
        rangePost (FW none) 0 P wp.heap.size (Post E.G none ρ σ w lo n x fr' σ') { a with defers := [{ target := .collected w.heap.size, args := #[] }] ++ a.defers } (.returned v') w5 := by
      intro hst σ6 hs hp
      rw [setBlk_eq] at hs
      cases hs
      obtain ⟨r6, g6⟩ := r5.update (B' := .loop .exhausted pending tmps1 params1 assign1 body1) (O' := .loop { lp5 with state := .exhausted }) hblk hL5 rfl m1 ⟨_, rfl, rfl, m4, m5, m6, m7, m8, m9, m10, m11⟩
      have hbusy : ¬ lp5.state = LoopState.busy := by rw [m3]; exact hst
      refine ⟨pending, wset w5 wp.heap.size (.loop { lp5 with state := .exhausted }), ?_, ?_⟩
      · simp [Instr.endLoop, Instr.getLoop, get5, set5, hbusy, m4]
      · have f6 := f5.grow r5 (g6 0)
        have hmark6 : (wset w5 wp.heap.size (.loop { lp5 with state := .exhausted })).heap[w.heap.size]? = some (.deferred (some [])) := by
          rw [heap_set m1, if_neg (by omega)]; exact hmark
        have g06 := gall.trans (g6 σ2.next) gall.next
        have hds : DsRel ρ5 (wset w5 wp.heap.size (.loop { lp5 with state := .exhausted })) lo (wset w5 wp.heap.size (.loop { lp5 with state := .exhausted })).heap.size fr.defers ([{ target := .collected w.heap.size, args := #[] }] ++ a.defers) := by
          refine .mark hlo (size_of_some hmark6) hmark6 ?_
          exact f.ds.keep g06.sub fun b hb hd => by
            rw [g06.frame _ (size_of_some hd) fun c K L h1 h2 _ => r.notDeferred hd c K L h1 h2]
            exact hd
        have hfr : FrRel none ρ5 lo n (wset w5 wp.heap.size (.loop { lp5 with state := .exhausted })) fr { a with defers := [{ target := .collected w.heap.size, args := #[] }] ++ a.defers } := ⟨f6.t, f6.round, hds, f6.size⟩
        cases pending with
        | none =>
          obtain ⟨rfl, rfl, rfl⟩ := hp
          exact ⟨rfl, ρ5, g06, r6, hfr⟩
        | some c =>
          cases c <;> try (exact hp.elim)
          · obtain ⟨rfl, rfl, rfl⟩ := hp
            exact wpIn_exit ⟨rfl, ρ5, g06, r6, hfr⟩
          · obtain ⟨rfl, rfl, rfl⟩ := hp
            exact wpIn_ret ⟨rfl, ρ5, g06, r6, hfr⟩
    split at h
    · cases h
    rename_i hst
    replace h := bind_ok h
    obtain ⟨σ6, hs, h⟩ := h
    refine fin (fun e => hst e) σ6 hs ?_
    split at h
    · cases h; exact ⟨rfl, rfl, rfl⟩
    · cases h; exact ⟨rfl, rfl, rfl⟩
    · cases h; exact ⟨rfl, rfl, rfl⟩
    · cases h

theorem code_ok (S : Sound P E R) (D : DrawSound P E) (ok : EnvOk P E) (hD : 100 ≤ P.types.size + Made.depth) {c : Code} {fr : Fr} {σ : St} {x : AX} {fr' : Fr} {σ' : St}
    (h : codeA E R c fr σ = .ok (x, fr', σ')) {ro : Option Nat} {ρ : Map} {lo n : Nat} {a : Act} {w : World} (hwf : wfCode E.G n c = true) (hlo : lo ≤ w.heap.size)
    (f : FrRel ro ρ lo n w fr a) (r : Rel E.G ρ σ w) : c.wpIn (FW ro) 0 P (Post E.G ro ρ σ w lo n x fr' σ') a w := by
  cases c <;> try (exact rangeFunc_ok S ok hD h hwf hlo f r)
  case skip => cases h; exact wpIn_skip ⟨rfl, ρ, Grow.refl _ _ _ _, r, f⟩
  case label l => cases h; exact wpIn_label ⟨rfl, ρ, Grow.refl _ _ _ _, r, f⟩
  case exit id => cases h; exact wpIn_exit ⟨rfl, ρ, Grow.refl _ _ _ _, r, f⟩
  case ret => cases h; exact wpIn_ret ⟨rfl, ρ, Grow.refl _ _ _ _, r, f⟩
  case region id ops draw =>
    simp only [codeA] at h
    replace h := map_ok h
    obtain ⟨⟨fr1, σ1⟩, h1, h⟩ := h
    cases h
    cases draw with
    | true =>
      rw [if_pos rfl] at h1
      exact D S h1 hwf hlo f r
    | false =>
      rw [if_neg (by simp)] at h1
      refine wpIn_region ?_
      have := ops_ok S ok hD ops ops.toList 0 (by simp) hwf f r (Grow.refl _ _ _ _) h1
      rw [List.range_eq_range']
      exact this
  case seq c1 c2 =>
    simp only [codeA] at h
    simp only [wfCode, Bool.and_eq_true] at hwf
    replace h := bind_ok h
    obtain ⟨⟨x1, fr1, σ1⟩, h1, h⟩ := h
    refine wpIn_seq (wpIn_mono (S.code h1 hwf.1 hlo f r) ?_)
    rintro e a1 w1 ⟨he, ρ1, g1, r1, f1⟩
    dsimp only at h
    split at h
    · subst he
      exact wpIn_mono (S.code h hwf.2 (Nat.le_trans hlo g1.size) f1 r1) fun e a' w' hp => hp.after g1
    · rename_i hx
      cases h
      have hp : Post E.G ro ρ σ w lo n x fr' σ' e a1 w1 := ⟨he, ρ1, g1, r1, f1⟩
      cases e <;> first | exact hp | (cases x <;> first | exact absurd rfl hx | cases he)
  case cond cc c1 c2 =>
    simp only [codeA] at h
    simp only [wfCode, Bool.and_eq_true] at hwf
    have hev := ev_rel r.glob f.t hwf.1.1
    split at h
    · rename_i hb
      rw [hb] at hev
      refine wpIn_cond_true (c := cc) (by generalize a.eval cc = y at hev; cases hev; rfl) (S.code h hwf.1.2 hlo f r)
    · rename_i hb
      rw [hb] at hev
      refine wpIn_cond_false (c := cc) (by generalize a.eval cc = y at hev; cases hev; rfl) (S.code h hwf.2 hlo f r)
    · cases h
  case block id c1 =>
    simp only [codeA] at h
    replace h := map_ok h
    obtain ⟨⟨x1, fr1, σ1⟩, h1, h⟩ := h
    refine wpIn_block (wpIn_mono (S.code h1 hwf hlo f r) ?_)
    rintro e a1 w1 ⟨he, ρ1, g1, r1, f1⟩
    dsimp only at h
    subst he
    cases x1 with
    | normal => cases h; exact ⟨rfl, ρ1, g1, r1, f1⟩
    | ret => cases h; exact ⟨rfl, ρ1, g1, r1, f1⟩
    | goto l => cases h; exact ⟨rfl, ρ1, g1, r1, f1⟩
    | exit id' =>
      dsimp only at h
      show (if id' = id then _ else _)
      split at h
      · rename_i hid
        rw [if_pos hid]; cases h; exact ⟨rfl, ρ1, g1, r1, f1⟩
      · rename_i hid
        rw [if_neg hid]; cases h; exact ⟨rfl, ρ1, g1, r1, f1⟩
  case loop c1 =>
    simp only [codeA] at h
    replace h := bind_ok h
    obtain ⟨⟨x1, fr1, σ1⟩, h1, h⟩ := h
    intro b k cs hro hb hr
    obtain ⟨e, a1, w1, ⟨he, ρ1, g1, r1, f1⟩, harr⟩ := S.code h1 hwf hlo f r b (.inLoop c1 :: k) cs hro hb hr
    have h0 : StepsIn (Machine.fenced P (FW ro)) P (lone (b.atR a (.code (.loop c1) :: k)) cs w) (lone (b.atR a (.code c1 :: .inLoop c1 :: k)) cs w) := .one (fenced_calm hb hr rfl) stepR_loop
    dsimp only at h
    split at h
    · subst he
      obtain ⟨e2, a2, w2, hp2, harr2⟩ := S.loop h hwf (Nat.le_trans hlo g1.size) f1 r1 b k cs hro
      exact ⟨e2, a2, w2, hp2.after g1, .of_steps (StepsIn.trans (StepsIn.trans h0 harr) (.one (fenced_calm hb hr rfl) stepR_inLoop)) harr2⟩
    · rename_i hx
      cases h
      refine ⟨e, a1, w1, ⟨he, ρ1, g1, r1, f1⟩, .of_steps h0 (.pass (x := .inLoop c1) rfl (fun _ _ => .inl ?_) harr)⟩
      intro e'
      rw [he] at e'
      cases x <;> first | exact absurd rfl hx | cases e'
  all_goals cases h

theorem loop_ok (S : Sound P E R) {c : Code} {fr : Fr} {σ : St} {x : AX} {fr' : Fr} {σ' : St}
    (h : codeA E R (.loop c) fr σ = .ok (x, fr', σ')) {ro : Option Nat} {ρ : Map} {lo n : Nat} {a : Act} {w : World} (hwf : wfCode E.G n c = true) (hlo : lo ≤ w.heap.size)
    (f : FrRel ro ρ lo n w fr a) (r : Rel E.G ρ σ w) (b : Frame) (k : List Item) (cs : List Frame) (hro : b.roundOf = ro) :
    ∃ e a' w', Post E.G ro ρ σ w lo n x fr' σ' e a' w' ∧ ArrivesIn (Machine.fenced P (FW ro)) P (lone (b.atR a (.code c :: .inLoop c :: k)) cs w) b k cs e a' w' := by
  simp only [codeA] at h
  replace h := bind_ok h
  obtain ⟨⟨x1, fr1, σ1⟩, h1, h⟩ := h
  obtain ⟨e, a1, w1, ⟨he, ρ1, g1, r1, f1⟩, harr⟩ := S.code h1 hwf hlo f r b (.inLoop c :: k) cs hro trivial (FW.room ro _)
  dsimp only at h
  split at h
  · subst he
    obtain ⟨e2, a2, w2, hp2, harr2⟩ := S.loop h hwf (Nat.le_trans hlo g1.size) f1 r1 b k cs hro
    exact ⟨e2, a2, w2, hp2.after g1, .of_steps (StepsIn.trans harr (.one (fenced_calm (n := 0) (F := FW ro) trivial (FW.room ro _) rfl) stepR_inLoop)) harr2⟩
  · rename_i hx
    cases h
    refine ⟨e, a1, w1, ⟨he, ρ1, g1, r1, f1⟩, .pass (x := .inLoop c) rfl (fun _ _ => .inl ?_) harr⟩
    intro e'
    rw [he] at e'
    cases x <;> first | exact absurd rfl hx | cases e'

/-- One step more of fuel. -/
theorem Sound.step (S : Sound P E R) (D : DrawSound P E) (ok : EnvOk P E) (hD : 100 ≤ P.types.size + Made.depth) : Sound P E (stepR E R) where
  code h := fun hwf hlo f r => code_ok S D ok hD h hwf hlo f r
  loop h := fun hwf hlo f r => loop_ok S h hwf hlo f r
  call h := fun ha r => func_ok S ok hD h ha r
  round h := fun hL hlp ha hsz r => round_ok S h hL hlp ha hsz r

theorem Sound.run (D : DrawSound P E) (ok : EnvOk P E) (hD : 100 ≤ P.types.size + Made.depth) : ∀ n, Sound P E (AM.run E n)
  | 0 => Sound.noRec P E
  | n + 1 => (Sound.run D ok hD n).step D ok hD
end
end Go.AM
