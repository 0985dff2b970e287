/- The abstract machine's control, second part: how a function's frame leaves; rounds; each form of code; the recursion. -/
import Derived.Test.YtpbgmoihgoeneaaGreatDoorAMRun
namespace Go.AM

section leaving
variable {P : Program} {F : Fence} {n : Nat}

/-- A frame on its way out, of whatever kind: its deferred calls, then it goes. -/
theorem leaves_any {fn : Func} {tmps : Array Value} {R : Ending → World → Prop} : ∀ (ds : List Deferred) (u : FrameMode) (w : World) (fr : Frame)
    (cs : List Frame), fr.mode = u → fr.defers = ds → fr.tmps = tmps → P.funcs[fr.fn]? = some fn → F.fn fr.fn → F.room (cs.length + 1 + n) → LeavesInM F n P fn tmps R ds u w →
    ∃ e w' fr', R e w' ∧ ComesIn (Machine.fenced P F) P (lone fr cs w) (lone fr' cs w') e ∧ fr'.kind = fr.kind ∧ fr'.fn = fr.fn ∧ fr'.going P w' e := by
  intro ds
  induction ds with
  | nil =>
    intro u w fr cs hu hd ht hf hb hroom h
    cases u with
    | run => exact (show False from h).elim
    | returning =>
      obtain ⟨v, hr, hR⟩ := h
      exact ⟨.returned v, w, fr, hR, StepsIn.refl _, rfl, rfl, hu, hd, fn, hf, ht ▸ hr⟩
    | panicking chain => exact ⟨.panicked chain, w, fr, h, StepsIn.refl _, rfl, rfl, hu, hd, fn, hf⟩
  | cons d ds ih =>
    intro u w fr cs hu hd ht hf hb hroom h
    obtain ⟨hrun, h⟩ := h
    rcases h with ⟨r, w', htar, htake, hrest⟩ | ⟨hn, fv, cap, f, args, htar, hinv, hlead, hFf, hcall⟩
    · have h1 := step_collected (cs := cs) (hu ▸ hrun) hd htar htake
      have i1 : (lone fr cs w).fenced P F := fenced_out hb hroom (hu ▸ hrun) hd (fun g hg => by rw [htar] at hg; simp [Target.leads] at hg)
      obtain ⟨e', w'', fr', hR', hs', hk', hfn', hl'⟩ := ih u w' { fr with defers := [] ++ ds } cs hu rfl ht hf hb hroom hrest
      exact ⟨e', w'', fr', hR', ComesIn.of_steps (.one i1 h1) hs', hk', hfn', hl'⟩
    · have h1 := step_defer (cs := cs) (hu ▸ hrun) hd htar hinv
      have i1 : (lone fr cs w).fenced P F := fenced_out hb hroom (hu ▸ hrun) hd hlead
      have hroom' : F.room (({ fr with defers := ds } :: cs).length + 1 + (n - 1)) := Fence.room_enter hroom hn
      obtain ⟨e, u', w', frX, hR, hsteps, hkX, hfX, hgo⟩ := hcall { fr with defers := ds } cs hu hroom'
      cases e with
      | outgrown => exact ⟨.outgrown, w', fr, hR, Outgrown.of_steps (.one h1) hsteps, rfl, rfl, trivial⟩
      | returned v =>
        have i2 : (lone frX ({ { fr with defers := ds } with mode := u' } :: cs) w').fenced P F := fenced_going (n := n - 1) (hfX ▸ hFf) hroom' hgo
        have h2 := step_going_returned (c := { { fr with defers := ds } with mode := u' }) (cs := cs) hkX hgo
        obtain ⟨e', w'', fr', hR', hs', hk', hfn', hl'⟩ := ih (settle u') w' { { { fr with defers := ds } with mode := u' } with mode := settle u' } cs rfl rfl ht hf hb hroom hR
        exact ⟨e', w'', fr', hR', ComesIn.of_steps (.head i1 h1 (StepsIn.trans hsteps (.one i2 h2))) hs', hk', hfn', hl'⟩
      | panicked chain =>
        have i2 : (lone frX ({ { fr with defers := ds } with mode := u' } :: cs) w').fenced P F := fenced_going (n := n - 1) (hfX ▸ hFf) hroom' hgo
        have h2 := step_going_panicked (c := { { fr with defers := ds } with mode := u' }) (cs := cs) hgo
        obtain ⟨e', w'', fr', hR', hs', hk', hfn', hl'⟩ := ih (raised u' chain) w' { { { fr with defers := ds } with mode := u' } with mode := raised u' chain } cs rfl rfl ht hf hb hroom hR
        exact ⟨e', w'', fr', hR', ComesIn.of_steps (.head i1 h1 (StepsIn.trans hsteps (.one i2 h2))) hs', hk', hfn', hl'⟩

/-- A function entered as a deferred call, its own deferred calls and marks and all. -/
theorem callsDIn_of_wp_marks {f : FuncId} {fn : Func} {c : Code} {args : Array Value} {u : FrameMode} {w : World} {R : Ending → World → Prop}
    (hf : P.funcs[f]? = some fn) (hb : fn.body = some c) (hF : F.fn f)
    (h : c.wpIn F n P (bodyPostM F n P fn R) { tmps := args ++ Array.replicate (fn.ntmps - args.size) undef, defers := [] } w) (hro : F.round = none := by rfl) :
    CallsDIn F n P f args u w fun e u' w' => u' = u ∧ R e w' := by
  refine ⟨hF, fun c₀ cs hu hr => ?_⟩
  let b : Frame := { (default : Frame) with fn := f, kind := .deferred, roundOf := none }
  have henter : Frame.enter P f args .deferred =
      b.atR { tmps := args ++ Array.replicate (fn.ntmps - args.size) undef, defers := [] } [.code c] := by
    simp [Frame.enter, Frame.atR, hf, hb, b]
  have hc : ({ c₀ with mode := u } : Frame) = c₀ := by subst hu; rfl
  obtain ⟨e, a', w', hq, harr⟩ := h b [] (c₀ :: cs) hro.symm hF hr
  rw [← henter] at harr
  have out : ∀ (m : FrameMode) (todo : List Item), LeavesInM F n P fn a'.tmps R a'.defers m w' → StepsIn (Machine.fenced P F) P (lone (Frame.enter P f args .deferred) (c₀ :: cs) w) (lone { b.atR a' todo with mode := m } (c₀ :: cs) w') →
      ∃ e u' w' fr, (u' = u ∧ R e w') ∧ ComesIn (Machine.fenced P F) P (lone (Frame.enter P f args .deferred) (c₀ :: cs) w) (lone fr ({ c₀ with mode := u' } :: cs) w') e ∧ fr.kind = .deferred ∧ fr.fn = f ∧ fr.going P w' e := by
    intro m todo hq hs
    obtain ⟨e', w'', fr', hR, hs', hk, hfn, hl⟩ := leaves_any a'.defers m w' { b.atR a' todo with mode := m } (c₀ :: cs) rfl rfl rfl hf hF hr hq
    exact ⟨e', u, w'', fr', ⟨rfl, hR⟩, by rw [hc]; exact ComesIn.of_steps hs hs', hk, hfn, hl⟩
  cases e with
  | normal => exact out .returning [] hq (StepsIn.trans harr (.one (fenced_calm (fr := b.atR a' []) hF hr rfl) (stepR_end rfl)))
  | ret =>
    obtain ⟨todo, hs₀⟩ := harr.1 rfl
    exact out .returning todo hq hs₀
  | panic chain =>
    obtain ⟨todo, hs₀⟩ := harr
    exact out (.panicking chain) todo hq hs₀
  | exit id => exact hq.elim
  | goto l => exact hq.elim
  | outgrown => exact ⟨.outgrown, u, w', b, ⟨rfl, hq⟩, harr.resolve_left (by simp [b]), rfl, rfl, trivial⟩
end leaving

section
variable {P : Program} {E : Env} {R : Rec}

theorem results_ok (ok : EnvOk P E) {ρ : Map} {σ : St} {w : World} (r : Rel E.G ρ σ w) {fr : Fr} {tmps : Array Value} (ht : TRel ρ fr.tmps tmps) {F : ResultVar → Sem Value}
    (hF1 : ∀ t, F (.tmp t) = pure (tmps.getD t undef)) (hF2 : ∀ a t, F (.cell a t) = (do loadVar t (← asAddr (tmps.getD a undef)))) : ∀ (rs : List ResultVar) (l : List Value), resultsA E fr σ rs = .ok l →
    ∃ l', LRel ρ l l' ∧ (rs.mapM F).run P w = .ok l' w
  | [], l, h => by cases h; exact ⟨[], .nil, rfl⟩
  | .tmp t :: rs, l, h => by
    simp only [resultsA] at h
    replace h := map_ok h
    obtain ⟨l1, h1, h⟩ := h
    obtain ⟨l', q1, q2⟩ := results_ok ok r ht hF1 hF2 rs l1 h1
    subst h
    refine ⟨tmps.getD t undef :: l', .cons ?_ q1, ?_⟩
    · have := ht t
      cases e : fr.tmps.get t with
      | none => rw [e] at this; exact this
      | some v => rw [e] at this; exact this
    · rw [List.mapM_cons, hF1]
      simp only [Sem.run_bind, Sem.run_pure, Result.andThen_ok, q2]
  | .cell a t :: rs, l, h => by
    simp only [resultsA] at h
    replace h := bind_ok h
    obtain ⟨ad, had, h⟩ := h
    replace h := bind_ok h
    obtain ⟨v, hv, h⟩ := h
    replace h := map_ok h
    obtain ⟨l1, h1, h⟩ := h
    obtain ⟨l', q1, q2⟩ := results_ok ok r ht hF1 hF2 rs l1 h1
    subst h
    have hx : VRel ρ (match fr.tmps.get a with | some v => v | none => undef) (tmps.getD a undef) := by
      have := ht a
      cases e : fr.tmps.get a with
      | none => rw [e] at this; exact this
      | some v => rw [e] at this; exact this
    obtain ⟨b, o, L, e1, e2, hL, e3⟩ := addrOf_ok hx had
    subst e1
    obtain ⟨v', q3, q4⟩ := loadVar_ok ok r hL hv
    refine ⟨v' :: l', .cons q3 q1, ?_⟩
    rw [List.mapM_cons, hF2]
    have ha : (asAddr (tmps.getD a undef)).run P w = .ok ⟨L.blk, L.sh + o, none⟩ w := by rw [e3]; rfl
    simp only [Sem.run_bind, Sem.run_pure, ha, Result.andThen_ok, q4, q2]

theorem results_run' (ok : EnvOk P E) {ρ : Map} {σ : St} {w : World} (r : Rel E.G ρ σ w) {fr : Fr} {tmps : Array Value} (ht : TRel ρ fr.tmps tmps) {F : ResultVar → Sem Value}
    (hF1 : ∀ t, F (.tmp t) = pure (tmps.getD t undef)) (hF2 : ∀ a t, F (.cell a t) = (do loadVar t (← asAddr (tmps.getD a undef)))) {rs : Array ResultVar} {l : List Value} (h : resultsA E fr σ rs.toList = .ok l) :
    ∃ v', VRel ρ (oneOf l) v' ∧ (do let vs ← rs.mapM F; pure (if h : vs.size = 1 then vs[0] else .tuple vs) : Sem Value).run P w = .ok v' w := by
  obtain ⟨l', q1, q2⟩ := results_ok ok r ht hF1 hF2 _ _ h
  refine ⟨if h : l'.toArray.size = 1 then l'.toArray[0] else .tuple l'.toArray, ?_, ?_⟩
  · cases q1 with
    | nil => exact .tuple .nil
    | cons h1 h2 =>
      cases h2 with
      | nil => exact h1
      | cons h3 h4 =>
        rw [dif_neg (by simp)]
        exact .tuple (by simpa using LRel.cons h1 (.cons h3 h4))
  · rw [Array.mapM_eq_mapM_toList]
    simp only [Sem.run_bind, Sem.run_map, Sem.run_pure, q2]
    rfl

theorem results_run (ok : EnvOk P E) {ρ : Map} {σ : St} {w : World} (r : Rel E.G ρ σ w) {fr : Fr} {tmps : Array Value} (ht : TRel ρ fr.tmps tmps) {fn : Func} {l : List Value} (h : resultsA E fr σ fn.results.toList = .ok l) :
    ∃ v', VRel ρ (oneOf l) v' ∧ (results fn tmps).run P w = .ok v' w := by
  unfold results
  refine results_run' ok r ht ?_ ?_ h <;> intros <;> rfl

/-- A frame's way out. -/
theorem leaves_ok (S : Sound P E R) (ok : EnvOk P E) (hD : 100 ≤ P.types.size + Made.depth) {fn : Func} {fr : Fr} {tmps : Array Value} {ρ0 : Map} {σ0 : St} {w0 : World} {lo : Nat} (hlo : w0.heap.size ≤ lo) {σ' : St} {l : List Value} :
    ∀ {ρ : Map} {w : World} {hi : Nat} {ds ds' : List Deferred} {σ : St}, DsRel ρ w lo hi ds ds' → Rel E.G ρ σ w → TRel ρ fr.tmps tmps → Grow σ0.next ρ0 σ0 w0 ρ σ w →
      defersA E R ds σ = .ok σ' → resultsA E fr σ' fn.results.toList = .ok l → LeavesInM (FW none) 0 P fn tmps (RetPost E.G ρ0 σ0 w0 (oneOf l) σ') ds' .returning w := by
  intro ρ w hi ds ds' σ hds
  induction ds' generalizing ρ w hi ds σ with
  | nil =>
    intro r ht g hd hr
    cases hds
    cases hd
    obtain ⟨v', q1, q2⟩ := results_run ok r ht hr
    exact ⟨v', q2, v', rfl, ρ, g, r, q1⟩
  | cons d' ds' ih =>
    intro r ht g hd hr
    cases hds with
    | cons hdr hrest =>
      rename_i d ds
      obtain ⟨tg, dargs⟩ := d
      obtain ⟨tg', dargs'⟩ := d'
      obtain ⟨f, f', c, c', h1, h2, h3, h4, h5⟩ := hdr
      dsimp only at h1 h2 h5
      subst h1; subst h2
      simp only [defersA] at hd
      replace hd := bind_ok hd
      obtain ⟨⟨nx, σ1⟩, hi1, hd⟩ := hd
      dsimp only at hd
      split at hd
      · rename_i g2 args
        replace hd := bind_ok hd
        obtain ⟨⟨v, σ2⟩, hc, hd⟩ := hd
        obtain ⟨e1, N, q1, args', e2, q2⟩ := invoke_ok ok hD r h3 h5 h4 hi1
        subst e1; subst e2
        refine ⟨by simp, .inr ⟨fun h => FW.depth none h, f', c', g2, args', rfl, q1, fun _ _ => trivial, ?_⟩⟩
        refine CallsDIn.mono (S.call hc q2 r).2 ?_
        rintro e u' w' ⟨rfl, v', rfl, ρ', g', r', _⟩
        exact ih (hrest.grow r g') r' (ht.mono g'.sub) (g.trans g' g.next) hd hr
      · cases hd
    | mark m1 m2 m3 m4 =>
      rename_i blk
      refine ⟨by simp, .inl ⟨blk, wset w blk (.deferred none), rfl, ?_, ?_⟩⟩
      · have hget := run_getObj (P := P) w _ _ m3 (by simp)
        have hset := run_setObj (P := P) w _ _ (.deferred none) m3 (by simp)
        simp [Instr.takeDeferred, hget, hset]
      · refine ih (hi := blk) (m4.keep (Sub.refl ρ) fun b hb h => ?_) (r.shut m3) ht (g.shut m3 (Nat.le_trans hlo m1)) hd hr
        rw [heap_set m3, if_neg (by omega)]; exact h

/-- A function. -/
theorem func_ok (S : Sound P E R) (ok : EnvOk P E) (hD : 100 ≤ P.types.size + Made.depth) {f : FuncId} {args : List Value} {σ : St} {v : Value} {σ' : St} (h : funcA E R f args σ = .ok (v, σ'))
    {ρ : Map} {w : World} {args' : Array Value} (ha : LRel ρ args args'.toList) (r : Rel E.G ρ σ w) :
    CallsIn (FW none) 0 P f args' w (RetPost E.G ρ σ w v σ') ∧ CallsDIn (FW none) 0 P f args' .returning w (DPost E.G ρ σ w v σ') := by
  unfold funcA at h
  split at h
  · cases h
  rename_i fn hfn
  split at h
  · cases h
  rename_i c hb
  split at h
  · cases h
  rename_i hwf
  simp only [Bool.not_eq_true, Bool.not_eq_false', Bool.and_eq_true, decide_eq_true_eq] at hwf
  obtain ⟨hwf, hlen⟩ := hwf
  replace h := bind_ok h
  obtain ⟨t, ht, h⟩ := h
  replace h := bind_ok h
  obtain ⟨⟨x, fr, σ1⟩, hc, h⟩ := h
  obtain ⟨hf, _⟩ := ok.fn f fn hfn
  have hsz : args.length = args'.size := by have := ha.length; simpa using this
  have hT : TRel ρ t (args' ++ Array.replicate (fn.ntmps - args'.size) undef) := by
    have := argsT_ok args 0 #[] args'.toList (fn.ntmps - args'.size) .leaf t rfl ha (fun i => by
      have : ((#[] ++ Array.replicate (args.length + (fn.ntmps - args'.size)) undef : Array Value)).getD i undef = undef := by
        by_cases hi : i < args.length + (fn.ntmps - args'.size)
        · simp [hi]
        · simp [hi]
      rw [this]; exact VRel.undef _) ht
    simpa using this
  have hn : (args' ++ Array.replicate (fn.ntmps - args'.size) undef).size = fn.ntmps := by simp; omega
  have hbody : c.wpIn (FW none) 0 P (bodyPostM (FW none) 0 P fn (RetPost E.G ρ σ w v σ')) { tmps := args' ++ Array.replicate (fn.ntmps - args'.size) undef, defers := [] } w := by
    refine wpIn_mono (S.code hc (ro := none) (lo := w.heap.size) hwf (Nat.le_refl _) ⟨hT, rfl, .nil, hn⟩ r) ?_
    rintro e a' w' ⟨he, ρ', g, r', f'⟩
    dsimp only at h
    split at h
    · replace h := bind_ok h
      obtain ⟨σ2, hd, h⟩ := h
      replace h := map_ok h
      obtain ⟨l, hl, h⟩ := h
      cases h
      rw [he]
      exact leaves_ok S ok hD (Nat.le_refl _) f'.ds r' f'.t g hd hl
    · replace h := bind_ok h
      obtain ⟨σ2, hd, h⟩ := h
      replace h := map_ok h
      obtain ⟨l, hl, h⟩ := h
      cases h
      rw [he]
      exact leaves_ok S ok hD (Nat.le_refl _) f'.ds r' f'.t g hd hl
    · cases h
  exact ⟨callsIn_of_wp_marks hf hb trivial hbody, callsDIn_of_wp_marks hf hb trivial hbody⟩

/-- A round. -/
theorem round_ok (S : Sound P E R) {l : Nat} {args : List Value} {σ : St} {v : Value} {σ' : St} (h : roundA R l args σ = .ok (v, σ')) {ρ : Map} {w : World} {args' : Array Value} {L : Loc} {lp : Loop}
    (hL : ρ l = some L) (hlp : w.heap[L.blk]? = some (.loop lp)) (ha : LRel ρ args args'.toList) (hsz : args'.size = lp.params.size) (r : Rel E.G ρ σ w) :
    RoundIn (FW none) 0 P L.blk lp.fn ((lp.params.zip args').foldl (fun tmps (t, a) => tmps.setIfInBounds t a) lp.tmps) lp.assign lp.body w (RetPost E.G ρ σ w v σ') := by
  have _ := hsz
  unfold roundA at h
  split at h
  rotate_left
  · cases h
  rename_i st pending tmps params assign body hblk
  obtain ⟨O, h1, lp', h2, h3, h4, h5, h6, h7, h8, h9, h10, h11⟩ := r.blk l _ L hblk hL
  rw [hlp] at h1
  cases h1
  cases h2
  replace h := bind_ok h
  obtain ⟨t, ht, h⟩ := h
  replace h := bind_ok h
  obtain ⟨⟨x, fr1, σ1⟩, hc1, h⟩ := h
  dsimp only at h
  obtain ⟨p1, p2⟩ := paramsT_ok params args args'.toList tmps t lp.tmps h5 h11 ha ht
  have hfold : (lp.params.zip args').foldl (fun tmps (t, a) => tmps.setIfInBounds t a) lp.tmps = (params.zip args'.toList).foldl (fun tmps (t, a) => tmps.setIfInBounds t a) lp.tmps := by
    rw [h6, ← Array.foldl_toList]; simp
  refine roundIn_of_wpIn trivial ?_
  rw [hfold]
  have hF : (FW none).inRound L.blk = FW (some L.blk) := rfl
  rw [hF]
  rw [← h7] at hc1
  refine wpIn_mono (S.code hc1 (ro := some L.blk) (lo := 0) (n := lp.tmps.size) (by rw [h7]; exact h9) (Nat.zero_le _) ⟨p1, rfl, .nil, p2⟩ r) ?_
  rintro e a1 w1 ⟨he, ρ1, g1, r1, f1⟩
  split at h
  rotate_left
  · cases h
  rename_i pending1 tmps1 params1 assign1 body1 hblk1
  subst he
  have hL1 := g1.sub _ _ hL
  obtain ⟨O, k1, lp1, k2, k3, k4, k5, k6, k7, k8, k9, k10, k11⟩ := r1.blk l _ L hblk1 hL1
  subst k2
  have get1 := run_getObj (P := P) w1 _ _ k1 (by simp)
  have set1 := fun O' => run_setObj (P := P) w1 _ _ O' k1 (by simp)
  rw [setBlk_eq] at h
  simp only [ok_bind] at h
  replace h := bind_ok h
  obtain ⟨⟨x2, fr2, σ2⟩, hc2, h⟩ := h
  dsimp only at h
  obtain ⟨r2, g2⟩ := r1.update (B' := .loop .busy pending1 tmps1 params1 assign1 body1) (O' := .loop { lp1 with state := .busy }) hblk1 hL1 rfl k1 ⟨_, rfl, rfl, k4, k5, k6, k7, k8, k9, k10, k11⟩
  refine ⟨wset w1 L.blk (.loop { lp1 with state := .busy }), by simp [Instr.beginRound, Instr.getLoop, get1, set1, k3], ?_⟩
  rw [← h8] at hc2
  have f2 := f1.grow r1 (g2 0)
  refine wpIn_mono (S.code hc2 (ro := some L.blk) (lo := 0) (n := lp.tmps.size) (by rw [h8]; exact h10) (Nat.zero_le _) f2 r2) ?_
  rintro e a3 w3 ⟨he, ρ3, g3, r3, f3⟩
  have g13 : Grow σ.next ρ σ w ρ3 σ2 w3 := g1.trans ((g2 σ1.next).trans g3 (Nat.le_refl _)) g1.next
  split at h
  rotate_left
  · cases h
  rename_i st3 pending3 tmps3 params3 assign3 body3 hblk3
  have hL3 := g3.sub _ _ hL1
  obtain ⟨O, m1, lp3, m2, m3, m4, m5, m6, m7, m8, m9, m10, m11⟩ := r3.blk l _ L hblk3 hL3
  subst m2
  have get3 := run_getObj (P := P) w3 _ _ m1 (by simp)
  have set3 := fun O' => run_setObj (P := P) w3 _ _ O' m1 (by simp)
  subst he
  have fin : ∀ (st' : LoopState) (jump : Option Code) (bv : Bool) (σ5 : St), setBlk σ2 l (.loop st' jump tmps3 params3 assign3 body3) = .ok σ5 → st' = (if jump.isNone then LoopState.ready else LoopState.done) → bv = jump.isNone →
      ∃ v' w', (Instr.endRound L.blk jump).run P w3 = .ok v' w' ∧ RetPost E.G ρ σ w (.bool bv) σ5 (.returned v') w' := by
    intro st' jump bv σ5 hs hst hbv
    rw [setBlk_eq] at hs
    cases hs
    obtain ⟨r5, g5⟩ := r3.update (B' := .loop st' jump tmps3 params3 assign3 body3) (O' := .loop { lp3 with state := st', pending := jump }) hblk3 hL3 rfl m1 ⟨_, rfl, rfl, rfl, m5, m6, m7, m8, m9, m10, m11⟩
    refine ⟨.bool bv, _, ?_, .bool bv, rfl, ρ3, g13.trans (g5 σ2.next) g13.next, r5, .bool bv⟩
    subst hst; subst hbv
    simp [Instr.endRound, Instr.getLoop, get3, set3]
  split at h
  · replace h := bind_ok h
    obtain ⟨σ5, hs, h⟩ := h
    cases h
    exact fin .ready none true _ hs rfl rfl
  · replace h := bind_ok h
    obtain ⟨σ5, hs, h⟩ := h
    cases h
    exact fin .done (some .ret) false _ hs rfl rfl
  · replace h := bind_ok h
    obtain ⟨σ5, hs, h⟩ := h
    cases h
    exact fin .done (some (.exit _)) false _ hs rfl rfl
  · cases h
end
end Go.AM
