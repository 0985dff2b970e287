/- The abstract machine's control: what its recursion hands back is what the model's machine comes to. Drawn regions are AMDraw's. -/
import Derived.Test.YtpbgmoihgoeneaaGreatDoorAMCall
import Derived.RangeFuncLeaves
namespace Go.AM

/-- The fence that lets everything in, for frames of a given round. -/
def FW (ro : Option Nat) : Fence := { fn := fun _ => True, depth := none, alive := false, round := ro }

theorem FW.room (ro : Option Nat) (n : Nat) : (FW ro).room n := fun _ h => by cases h
theorem FW.depth (ro : Option Nat) : (FW ro).depth.isSome = true → 1 ≤ 0 := fun h => by cases h

/-- Deferred calls: the model's list bears marks of range-over-function loops besides; each mark's block is lo or later, and holds no call. -/
inductive DsRel (ρ : Map) (w : World) (lo : Nat) : Nat → List Deferred → List Deferred → Prop where
  | nil {hi : Nat} : DsRel ρ w lo hi [] []
  | cons {hi : Nat} {d d' : Deferred} {ds ds' : List Deferred} : DRel ρ d d' → DsRel ρ w lo hi ds ds' → DsRel ρ w lo hi (d :: ds) (d' :: ds')
  | mark {hi blk : Nat} {ds ds' : List Deferred} : lo ≤ blk → blk < hi → w.heap[blk]? = some (.deferred (some [])) → DsRel ρ w lo blk ds ds' →
      DsRel ρ w lo hi ds ({ target := .collected blk, args := #[] } :: ds')

theorem DRel.mono {ρ ρ' : Map} (s : Sub ρ ρ') {d d' : Deferred} (h : DRel ρ d d') : DRel ρ' d d' := by
  obtain ⟨f, f', c, c', h1, h2, h3, h4, h5⟩ := h
  exact ⟨f, f', c, c', h1, h2, h3.mono s, h4.mono s, h5.mono s⟩

theorem DsRel.le {ρ : Map} {w : World} {lo hi hi' : Nat} {ds ds' : List Deferred} (h : DsRel ρ w lo hi ds ds') (hle : hi ≤ hi') : DsRel ρ w lo hi' ds ds' := by
  induction h with
  | nil => exact .nil
  | cons h1 _ ih => exact .cons h1 (ih hle)
  | mark h1 h2 h3 h4 _ => exact .mark h1 (Nat.lt_of_lt_of_le h2 hle) h3 h4

theorem DsRel.keep {ρ ρ' : Map} {w w' : World} {lo hi : Nat} {ds ds' : List Deferred} (h : DsRel ρ w lo hi ds ds') (s : Sub ρ ρ')
    (k : ∀ b, b < hi → w.heap[b]? = some (.deferred (some [])) → w'.heap[b]? = some (.deferred (some []))) : DsRel ρ' w' lo hi ds ds' := by
  induction h with
  | nil => exact .nil
  | cons h1 _ ih => exact .cons (h1.mono s) (ih k)
  | mark h1 h2 h3 h4 ih => exact .mark h1 h2 (k _ h2 h3) (ih fun b hb => k b (Nat.lt_trans hb h2))

theorem size_of_some {w : World} {b : Nat} {O : Obj} (h : w.heap[b]? = some O) : b < w.heap.size := by
  rcases Nat.lt_or_ge b w.heap.size with h' | h'
  · exact h'
  · simp [Array.getElem?_eq_none h'] at h

/-- No abstract block lies where the model keeps deferred calls. -/
theorem Rel.notDeferred {G : Nat} {ρ : Map} {σ : St} {w : World} (r : Rel G ρ σ w) {blk : Nat} {o : Option (List Deferred)} (h : w.heap[blk]? = some (.deferred o)) :
    ∀ b K L, σ.heap.get b = some K → ρ b = some L → L.blk ≠ blk := by
  intro b K L h1 h2 e
  obtain ⟨O, h3, h4⟩ := r.blk b K L h1 h2
  rw [e, h] at h3
  cases h3
  cases K with
  | cells c e ro => obtain ⟨C, e', fz, h5, _⟩ := h4; cases h5
  | map es n => obtain ⟨es', h5, _⟩ := h4; cases h5
  | siter s p => obtain ⟨h5, _⟩ := h4; cases h5
  | miter m a b c => obtain ⟨m', h5, _⟩ := h4; cases h5
  | loop st pe t ps a b => obtain ⟨l, h5, _⟩ := h4; cases h5

theorem DsRel.grow {G N : Nat} {ρ ρ' : Map} {σ σ' : St} {w w' : World} (r : Rel G ρ σ w) (g : Grow N ρ σ w ρ' σ' w') {lo hi : Nat} {ds ds' : List Deferred} (h : DsRel ρ w lo hi ds ds') :
    DsRel ρ' w' lo hi ds ds' :=
  h.keep g.sub fun b _ hb => by rw [g.frame b (size_of_some hb) fun c K L h1 h2 _ => r.notDeferred hb c K L h1 h2]; exact hb

structure FrRel (ro : Option Nat) (ρ : Map) (lo n : Nat) (w : World) (fr : Fr) (a : Act) : Prop where
  t : TRel ρ fr.tmps a.tmps
  round : fr.round = ro.isSome
  ds : DsRel ρ w lo w.heap.size fr.defers a.defers
  size : a.tmps.size = n

theorem FrRel.grow {G N : Nat} {ro : Option Nat} {ρ ρ' : Map} {lo n : Nat} {σ σ' : St} {w w' : World} {fr : Fr} {a : Act} (f : FrRel ro ρ lo n w fr a) (r : Rel G ρ σ w) (g : Grow N ρ σ w ρ' σ' w') : FrRel ro ρ' lo n w' fr a :=
  ⟨f.t.mono g.sub, f.round, (f.ds.grow r g).le g.size, f.size⟩

/-- A block of which no abstract block knows. -/
theorem Rel.push {G : Nat} {ρ : Map} {σ : St} {w : World} (r : Rel G ρ σ w) (O : Obj) : Rel G ρ σ (wpush w O) ∧ ∀ N, Grow N ρ σ w ρ σ (wpush w O) := by
  have hs : w.heap.size ≤ (wpush w O).heap.size := by simp [wpush]
  have keep : ∀ b, b < w.heap.size → (wpush w O).heap[b]? = w.heap[b]? := fun b hb => by rw [heap_push, if_neg (by omega)]
  refine ⟨⟨r.glob, r.low, fun b L h => Nat.lt_of_lt_of_le (r.bnd b L h) hs, fun b B L h1 h2 => ?_, r.inj⟩, fun N => ⟨Sub.refl ρ, fun _ _ => rfl, Nat.le_refl _, hs, fun B hB _ => keep B hB, fun b K L h1 h2 => .inr ⟨b, K, L, h1, h2, id, rfl⟩, rfl, rfl, rfl⟩⟩
  obtain ⟨O', h3, h4⟩ := r.blk b B L h1 h2
  exact ⟨O', by rw [keep _ (r.bnd b L h2)]; exact h3, h4⟩

/-- A block of deferred calls is shut. -/
theorem Rel.shut {G : Nat} {ρ : Map} {σ : St} {w : World} (r : Rel G ρ σ w) {blk : Nat} {o o' : Option (List Deferred)} (h : w.heap[blk]? = some (.deferred o)) :
    Rel G ρ σ (wset w blk (.deferred o')) := by
  have nd := r.notDeferred h
  have sz : (wset w blk (.deferred o')).heap.size = w.heap.size := by simp [wset]
  refine ⟨r.glob, r.low, fun b L h => by rw [sz]; exact r.bnd b L h, fun b B L h1 h2 => ?_, r.inj⟩
  obtain ⟨O', h3, h4⟩ := r.blk b B L h1 h2
  exact ⟨O', by rw [heap_set h, if_neg (nd b B L h1 h2)]; exact h3, h4⟩

theorem Grow.shut {N : Nat} {ρ0 ρ : Map} {σ0 σ : St} {w0 w : World} (g : Grow N ρ0 σ0 w0 ρ σ w) {blk : Nat} {o o' : Option (List Deferred)} (h : w.heap[blk]? = some (.deferred o)) (hb : w0.heap.size ≤ blk) :
    Grow N ρ0 σ0 w0 ρ σ (wset w blk (.deferred o')) := by
  have sz : (wset w blk (.deferred o')).heap.size = w.heap.size := by simp [wset]
  exact ⟨g.sub, g.old, g.next, by rw [sz]; exact g.size, fun B hB hn => by rw [heap_set h, if_neg (by omega)]; exact g.frame B hB hn, g.own, g.tape, g.os, g.output⟩

def exOf : AX → Exit
  | .normal => .normal
  | .exit id => .exit id
  | .goto l => .goto l
  | .ret => .ret

def Post (G : Nat) (ro : Option Nat) (ρ : Map) (σ : St) (w : World) (lo n : Nat) (x : AX) (fr' : Fr) (σ' : St) (e : Exit) (a' : Act) (w' : World) : Prop :=
  e = exOf x ∧ ∃ ρ', Grow σ.next ρ σ w ρ' σ' w' ∧ Rel G ρ' σ' w' ∧ FrRel ro ρ' lo n w' fr' a'

def RetPost (G : Nat) (ρ : Map) (σ : St) (w : World) (v : Value) (σ' : St) (e : Ending) (w' : World) : Prop :=
  ∃ v', e = .returned v' ∧ ∃ ρ', Grow σ.next ρ σ w ρ' σ' w' ∧ Rel G ρ' σ' w' ∧ VRel ρ' v v'

def DPost (G : Nat) (ρ : Map) (σ : St) (w : World) (v : Value) (σ' : St) (e : Ending) (u : FrameMode) (w' : World) : Prop :=
  u = .returning ∧ RetPost G ρ σ w v σ' e w'

theorem Post.after {G : Nat} {ro : Option Nat} {ρ ρ1 : Map} {σ σ1 : St} {w w1 : World} {lo n : Nat} {x : AX} {fr' : Fr} {σ' : St} (g : Grow σ.next ρ σ w ρ1 σ1 w1) {e : Exit} {a' : Act} {w' : World}
    (h : Post G ro ρ1 σ1 w1 lo n x fr' σ' e a' w') : Post G ro ρ σ w lo n x fr' σ' e a' w' := by
  obtain ⟨h1, ρ', h2, h3, h4⟩ := h
  exact ⟨h1, ρ', g.trans h2 g.next, h3, h4⟩

theorem RetPost.after {G : Nat} {ρ ρ1 : Map} {σ σ1 : St} {w w1 : World} {v : Value} {σ' : St} (g : Grow σ.next ρ σ w ρ1 σ1 w1) {e : Ending} {w' : World}
    (h : RetPost G ρ1 σ1 w1 v σ' e w') : RetPost G ρ σ w v σ' e w' := by
  obtain ⟨v', h1, ρ', h2, h3, h4⟩ := h
  exact ⟨v', h1, ρ', g.trans h2 g.next, h3, h4⟩

/-- What a recursion's three parts promise. -/
structure Sound (P : Program) (E : Env) (R : Rec) : Prop where
  code : ∀ {c : Code} {fr : Fr} {σ : St} {x : AX} {fr' : Fr} {σ' : St}, R.code c fr σ = .ok (x, fr', σ') →
    ∀ {ro : Option Nat} {ρ : Map} {lo n : Nat} {a : Act} {w : World}, wfCode E.G n c = true → lo ≤ w.heap.size → FrRel ro ρ lo n w fr a → Rel E.G ρ σ w →
      c.wpIn (FW ro) 0 P (Post E.G ro ρ σ w lo n x fr' σ') a w
  loop : ∀ {c : Code} {fr : Fr} {σ : St} {x : AX} {fr' : Fr} {σ' : St}, R.code (.loop c) fr σ = .ok (x, fr', σ') →
    ∀ {ro : Option Nat} {ρ : Map} {lo n : Nat} {a : Act} {w : World}, wfCode E.G n c = true → lo ≤ w.heap.size → FrRel ro ρ lo n w fr a → Rel E.G ρ σ w →
      ∀ (b : Frame) (k : List Item) (cs : List Frame), b.roundOf = ro →
        ∃ e a' w', Post E.G ro ρ σ w lo n x fr' σ' e a' w' ∧ ArrivesIn (Machine.fenced P (FW ro)) P (lone (b.atR a (.code c :: .inLoop c :: k)) cs w) b k cs e a' w'
  call : ∀ {f : FuncId} {args : List Value} {σ : St} {v : Value} {σ' : St}, R.call f args σ = .ok (v, σ') →
    ∀ {ρ : Map} {w : World} {args' : Array Value}, LRel ρ args args'.toList → Rel E.G ρ σ w →
      CallsIn (FW none) 0 P f args' w (RetPost E.G ρ σ w v σ') ∧ CallsDIn (FW none) 0 P f args' .returning w (DPost E.G ρ σ w v σ')
  round : ∀ {l : Nat} {args : List Value} {σ : St} {v : Value} {σ' : St}, R.round l args σ = .ok (v, σ') →
    ∀ {ρ : Map} {w : World} {args' : Array Value} {L : Loc} {lp : Loop}, ρ l = some L → w.heap[L.blk]? = some (.loop lp) → LRel ρ args args'.toList → args'.size = lp.params.size → Rel E.G ρ σ w →
      RoundIn (FW none) 0 P L.blk lp.fn ((lp.params.zip args').foldl (fun tmps (t, a) => tmps.setIfInBounds t a) lp.tmps) lp.assign lp.body w (RetPost E.G ρ σ w v σ')

theorem Sound.noRec (P : Program) (E : Env) : Sound P E noRec :=
  ⟨@fun _ _ _ _ _ _ h => (by cases h), @fun _ _ _ _ _ _ h => (by cases h), @fun _ _ _ _ _ h => (by cases h), @fun _ _ _ _ _ h => (by cases h)⟩

/-! ## Operations -/

theorem fput_ok {fr fr' : Fr} {d : Option Tmp} {v : Value} (h : fput fr d v = .ok fr') :
    fr' = { fr with tmps := match d with | some d => T.setF (d + 1) fr.tmps d (some v) | none => fr.tmps } := by
  obtain ⟨t, ds, r⟩ := fr
  cases d with
  | none => cases h; rfl
  | some d => simp only [fput, forceV_eq, ok_bind, T.setM_eq] at h; cases h; rfl

theorem TRel.fput {ρ : Map} {fr fr' : Fr} {a : Act} (ht : TRel ρ fr.tmps a.tmps) {d : Option Tmp} {v v' : Value} (h : fput fr d v = .ok fr') (hd : dstOk a.tmps.size d = true) (hv : VRel ρ v v') :
    TRel ρ fr'.tmps (a.put d v').tmps := by
  rw [fput_ok h]
  cases d with
  | none => exact ht
  | some d =>
    simp only [dstOk, decide_eq_true_eq] at hd
    exact ht.put hd hv

theorem put_defers (a : Act) (d : Option Tmp) (v : Value) : (a.put d v).defers = a.defers := by cases d <;> rfl
theorem put_size (a : Act) (d : Option Tmp) (v : Value) : (a.put d v).tmps.size = a.tmps.size := by cases d <;> simp [Act.put]

theorem FrRel.fput {ro : Option Nat} {ρ : Map} {lo n : Nat} {w : World} {fr fr' : Fr} {a : Act} (f : FrRel ro ρ lo n w fr a) {d : Option Tmp} {v v' : Value} (h : AM.fput fr d v = .ok fr') (hd : dstOk n d = true) (hv : VRel ρ v v') :
    FrRel ro ρ lo n w fr' (a.put d v') := by
  have e := fput_ok h
  refine ⟨f.t.fput h (by rw [f.size]; exact hd) hv, by rw [e]; exact f.round, by rw [put_defers, e]; exact f.ds, by rw [put_size]; exact f.size⟩

theorem wanted_eq {ρ : Map} {t : T Value} {tmps : Array Value} (ht : TRel ρ t tmps) (ops : Array Oper) (o : Oper) : wantedA ops.toList t o = Region.wanted o (yielded ops tmps) := by
  unfold wantedA Region.wanted yielded
  cases o.guard with
  | none => rfl
  | some g =>
    obtain ⟨j, want⟩ := g
    simp only [nth_eq, Array.getElem?_toList]
    cases ops[j]? with
    | none => rfl
    | some oj =>
      simp only [Option.bind_some]
      cases oj.dst with
      | none => rfl
      | some d =>
        simp only [Option.bind_some]
        have hd := ht d
        have und : ∀ v, VRel ρ undef v → ∀ b, v ≠ .bool b := fun v h b e => by subst e; cases h
        have hg : tmps.getD d undef = (tmps[d]?).getD undef := by simp
        rw [hg] at hd
        cases hx : t.get d with
        | none =>
          rw [hx] at hd
          cases hy : tmps[d]? with
          | none => rfl
          | some y =>
            rw [hy] at hd
            have := und _ hd
            cases y <;> first | rfl | exact absurd rfl (this _)
        | some x =>
          rw [hx] at hd
          simp only [Option.getD_some] at hd
          cases hy : tmps[d]? with
          | none =>
            rw [hy] at hd
            cases x <;> first | rfl | (cases hd)
          | some y =>
            rw [hy] at hd
            simp only [Option.getD_some] at hd
            cases hd <;> first | rfl | (rename_i b; cases b <;> cases want <;> rfl)

section
variable {P : Program} {E : Env} {R : Rec}

/-- One operation, in the order of the text. -/
def opA (E : Env) (R : Rec) (o : Oper) (fr : Fr) (σ : St) : M (Fr × St) :=
  match cls E o.op with
  | 0 => (pureA E fr.tmps o.op).bind fun v => (fput fr o.dst v).bind fun fr => .ok (fr, σ)
  | 1 => (readA E fr.tmps σ o.op).bind fun v => (fput fr o.dst v).bind fun fr => .ok (fr, σ)
  | 2 => (allocA E fr.tmps o.op).bind fun (b, v) => (newBlk σ b).bind fun (n, σ) => (fput fr o.dst (v n)).bind fun fr => .ok (fr, σ)
  | _ => (loudA E fr.tmps σ o.op).bind fun (n, σ) => doNext R n fr o.dst σ

theorem opsA_cons {ops : List Oper} {o : Oper} {rest : List Oper} {fr : Fr} {σ : St} {r : Fr × St} (h : opsA E R ops (o :: rest) fr σ = .ok r) :
    ∃ fr1 σ1, opsA E R ops rest fr1 σ1 = .ok r ∧ (if wantedA ops fr.tmps o then opA E R o fr σ = .ok (fr1, σ1) else fput fr o.dst undef = .ok fr1 ∧ σ1 = σ) := by
  unfold opsA at h
  split at h
  · rename_i hw
    split at h
    · rename_i hc
      replace h := bind_ok h
      obtain ⟨v, hv, h⟩ := h
      replace h := bind_ok h
      obtain ⟨fr1, hf, h⟩ := h
      exact ⟨fr1, σ, h, by rw [if_pos hw]; simp [opA, hc, hv, hf]⟩
    · rename_i hc
      replace h := bind_ok h
      obtain ⟨v, hv, h⟩ := h
      replace h := bind_ok h
      obtain ⟨fr1, hf, h⟩ := h
      exact ⟨fr1, σ, h, by rw [if_pos hw]; simp [opA, hc, hv, hf]⟩
    · rename_i hc
      replace h := bind_ok h
      obtain ⟨⟨b, v⟩, hv, h⟩ := h
      replace h := bind_ok h
      obtain ⟨⟨n, σ1⟩, hn, h⟩ := h
      replace h := bind_ok h
      obtain ⟨fr1, hf, h⟩ := h
      exact ⟨fr1, σ1, h, by rw [if_pos hw]; simp [opA, hc, hv, hn, hf]⟩
    · rename_i h0 h1 h2
      replace h := bind_ok h
      obtain ⟨⟨n, σ1⟩, hv, h⟩ := h
      replace h := bind_ok h
      obtain ⟨⟨fr1, σ2⟩, hn, h⟩ := h
      refine ⟨fr1, σ2, h, ?_⟩
      rw [if_pos hw]
      unfold opA
      split
      · rename_i hc; exact absurd hc h0
      · rename_i hc; exact absurd hc h1
      · rename_i hc; exact absurd hc h2
      · simp [hv, hn]
  · rename_i hw
    replace h := bind_ok h
    obtain ⟨fr1, hf, h⟩ := h
    exact ⟨fr1, σ, h, by rw [if_neg hw]; exact ⟨hf, rfl⟩⟩

theorem about_any (ro : Option Nat) (o : Oper) (w : World) (ρ : Operand → Value) : ∀ f, o.about P w ρ = some f → (FW ro).fn f := fun _ _ => trivial

/-- How an operation goes on, whichever it is. -/
theorem next_wp (S : Sound P E R) {ro : Option Nat} {ρ : Map} {lo n : Nat} {a : Act} {w : World} {fr : Fr} {σ : St} {o : Oper} (hd : dstOk n o.dst = true)
    {N : Next} {nx : ANext} {ρ1 : Map} {σ1 : St} {w1 : World} (hrun : (execOp a.eval o).run P w = .ok N w1) (g1 : Grow σ.next ρ σ w ρ1 σ1 w1) (r1 : Rel E.G ρ1 σ1 w1) (hN : NRel ρ1 w1 nx N)
    (hnd : (∃ d, nx = .defer d) ∨ ∀ c, o.op ≠ .defer c) (f : FrRel ro ρ lo n w fr a) (r : Rel E.G ρ σ w) {fr2 : Fr} {σ2 : St} (h : doNext R nx fr o.dst σ1 = .ok (fr2, σ2)) {K : Act → World → Prop} {Q : Exit → Act → World → Prop}
    (hK : ∀ ρ2 a2 w2, Grow σ.next ρ σ w ρ2 σ2 w2 → Rel E.G ρ2 σ2 w2 → FrRel ro ρ2 lo n w2 fr2 a2 → K a2 w2) : o.wpIn (FW ro) 0 P a w K Q := by
  have f1 := f.grow r g1
  refine ⟨about_any ro o w _, ?_⟩
  have hsem : (o.semAt (FW ro).round a.eval).run P w = .ok N w1 := by
    have hro : (FW ro).round = ro := rfl
    rw [hro]
    rcases hnd with ⟨d, rfl⟩ | hnd
    · have : ro = none := by
        simp only [doNext] at h
        split at h
        · cases h
        · rename_i hr
          rw [f.round] at hr
          cases ro with
          | none => rfl
          | some l => simp at hr
      subst this
      rw [Oper.semAt_none]; exact hrun
    · rw [Oper.semAt_eq _ _ _ hnd]; exact hrun
  rw [hsem]
  cases nx with
  | value v =>
    replace h := bind_ok h
    obtain ⟨fr3, hf, h⟩ := h
    cases h
    rcases hN with ⟨v', rfl, hv⟩ | ⟨rfl, rfl⟩
    · exact hK ρ1 _ w1 g1 r1 (f1.fput hf hd hv)
    · exact hK ρ1 _ w1 g1 r1 (f1.fput hf hd (VRel.undef _))
  | call fn args =>
    obtain ⟨args', rfl, ha⟩ := hN
    replace h := bind_ok h
    obtain ⟨⟨v, σ3⟩, hc, h⟩ := h
    replace h := bind_ok h
    obtain ⟨fr3, hf, h⟩ := h
    cases h
    refine ⟨fun h => FW.depth ro h, CallsIn.mono (S.call hc ha r1).1 ?_⟩
    rintro e w2 ⟨v', rfl, ρ2, g2, r2, hv⟩
    exact hK ρ2 _ w2 (g1.trans g2 g1.next) r2 ((f1.grow r1 g2).fput hf hd hv)
  | round l args =>
    obtain ⟨L, lp, args', hL, hlp, ha, hsz, rfl⟩ := hN
    replace h := bind_ok h
    obtain ⟨⟨v, σ3⟩, hc, h⟩ := h
    replace h := bind_ok h
    obtain ⟨fr3, hf, h⟩ := h
    cases h
    refine ⟨fun h => FW.depth ro h, RoundIn.mono (S.round hc hL hlp ha hsz r1) ?_⟩
    rintro e w2 ⟨v', rfl, ρ2, g2, r2, hv⟩
    exact hK ρ2 _ w2 (g1.trans g2 g1.next) r2 ((f1.grow r1 g2).fput hf hd hv)
  | defer d =>
    obtain ⟨d', rfl, hdr⟩ := hN
    simp only [doNext] at h
    split at h
    · cases h
    replace h := bind_ok h
    obtain ⟨fr3, hf, h⟩ := h
    have e3 := fput_ok hf
    cases h
    refine hK ρ1 _ w1 g1 r1 ?_
    have f3 := f1.fput hf hd (VRel.undef _)
    have e4 : ({ a with defers := d' :: a.defers } : Act).put o.dst undef = { a.put o.dst undef with defers := d' :: (a.put o.dst undef).defers } := by
      cases o.dst <;> rfl
    rw [e4]
    exact ⟨f3.t, f3.round, .cons hdr f3.ds, f3.size⟩

theorem oper_ok (S : Sound P E R) (ok : EnvOk P E) (hD : 100 ≤ P.types.size + Made.depth) {ro : Option Nat} {ρ : Map} {lo n : Nat} {a : Act} {w : World} {fr : Fr} {σ : St} {o : Oper} (hw : wfOper E.G n o = true)
    (f : FrRel ro ρ lo n w fr a) (r : Rel E.G ρ σ w) {fr2 : Fr} {σ2 : St} (h : opA E R o fr σ = .ok (fr2, σ2)) {K : Act → World → Prop} {Q : Exit → Act → World → Prop}
    (hK : ∀ ρ2 a2 w2, Grow σ.next ρ σ w ρ2 σ2 w2 → Rel E.G ρ2 σ2 w2 → FrRel ro ρ2 lo n w2 fr2 a2 → K a2 w2) : o.wpIn (FW ro) 0 P a w K Q := by
  simp only [wfOper, Bool.and_eq_true] at hw
  obtain ⟨hc, hd⟩ := hw
  have ndef : cls E o.op ≠ 3 → ∀ c, o.op ≠ .defer c := fun h c e => h (by rw [e]; rfl)
  unfold opA at h
  split at h
  · rename_i hcl
    replace h := bind_ok h
    obtain ⟨v, hv, h⟩ := h
    replace h := bind_ok h
    obtain ⟨fr3, hf, h⟩ := h
    cases h
    obtain ⟨v', q1, q2⟩ := pure_ok ok r.glob f.t hc hv
    exact next_wp (nx := .value v) S hd (q2 w) (Grow.refl _ _ _ _) r (.inl ⟨v', rfl, q1⟩) (.inr (ndef (by omega))) f r (by simp [doNext, hf]) hK
  · rename_i hcl
    replace h := bind_ok h
    obtain ⟨v, hv, h⟩ := h
    replace h := bind_ok h
    obtain ⟨fr3, hf, h⟩ := h
    cases h
    obtain ⟨v', q1, q2⟩ := read_ok ok r f.t hc hv
    exact next_wp (nx := .value v) S hd q2 (Grow.refl _ _ _ _) r (.inl ⟨v', rfl, q1⟩) (.inr (ndef (by omega))) f r (by simp [doNext, hf]) hK
  · rename_i hcl
    replace h := bind_ok h
    obtain ⟨⟨b, vf⟩, hv, h⟩ := h
    replace h := bind_ok h
    obtain ⟨⟨m, σ1⟩, hn, h⟩ := h
    replace h := bind_ok h
    obtain ⟨fr3, hf, h⟩ := h
    cases h
    obtain ⟨s, q1, O, room, v', k, q2, q3⟩ := alloc_ok (w := w) ok r.glob f.t hc hv
    rw [newBlk_eq] at hn
    cases hn
    have rd := r.drawn k
    have gd := Grow.drawn σ.next ρ σ w k
    have q4 := q3 (addρ ρ σ.next ⟨w.heap.size, 0, room⟩) σ.next (addρ_sub _ r.fresh) (addρ_same _ _ _)
    obtain ⟨r1, g1⟩ := rd.alloc r.fresh (σ.next + 1) (Nat.lt_succ_self _) (Nat.le_succ _) room q4.1
    refine next_wp (nx := .value (vf σ.next)) (N := .value v') S hd ?_ (gd.trans (g1 σ.next (Nat.le_refl _)) (Nat.le_refl _)) r1 (.inl ⟨v', rfl, q4.2⟩) (.inr (ndef (by omega))) f r (by simp [doNext, hf]) hK
    rw [q1]
    simp [q2]
  · rename_i h0 h1 h2
    replace h := bind_ok h
    obtain ⟨⟨nx, σ1⟩, hv, h⟩ := h
    obtain ⟨N, ρ1, w1, q1, q2, q3, q4⟩ := loud_ok ok hD r f.t hc hv
    refine next_wp S hd q1 q3 q2 q4 ?_ f r h hK
    by_cases hop : ∃ c, o.op = .defer c
    · obtain ⟨c, hop⟩ := hop
      left
      rw [hop] at hv
      simp only [loudA] at hv
      replace hv := map_ok hv
      obtain ⟨d, _, hv⟩ := hv
      cases hv
      exact ⟨d, rfl⟩
    · exact .inr fun c e => hop ⟨c, e⟩

theorem ops_ok (S : Sound P E R) (ok : EnvOk P E) (hD : 100 ≤ P.types.size + Made.depth) {ro : Option Nat} {lo n : Nat} (ops : Array Oper) {fr2 : Fr} {σ2 : St} {ρ0 : Map} {σ0 : St} {w0 : World} : ∀ (rest : List Oper) (i : Nat), rest = ops.toList.drop i →
    ∀ {ρ : Map} {a : Act} {w : World} {fr : Fr} {σ : St}, allL (wfOper E.G n) rest = true → FrRel ro ρ lo n w fr a → Rel E.G ρ σ w → Grow σ0.next ρ0 σ0 w0 ρ σ w → opsA E R ops.toList rest fr σ = .ok (fr2, σ2) →
      wpOpsIn (FW ro) 0 P ops (Post E.G ro ρ0 σ0 w0 lo n .normal fr2 σ2) (List.range' i (ops.size - i)) a w
  | [], i, hrest, ρ, a, w, fr, σ, _, f, r, g, h => by
    cases h
    have : ops.size - i = 0 := by
      have := congrArg List.length hrest
      simp at this; omega
    rw [this]
    exact ⟨rfl, ρ, g, r, f⟩
  | o :: rest, i, hrest, ρ, a, w, fr, σ, hwf, f, r, g, h => by
    have hi : i < ops.size := by
      have := congrArg List.length hrest
      simp at this; omega
    have ho : ops[i]? = some o := by
      have : (ops.toList.drop i)[0]? = some o := by rw [← hrest]; rfl
      simpa using this
    have hrest' : rest = ops.toList.drop (i + 1) := by
      have : (ops.toList.drop i).tail = rest := by rw [← hrest]; rfl
      rw [← this, List.tail_drop]
    simp only [allL, Bool.and_eq_true] at hwf
    have e : ops.size - i = (ops.size - (i + 1)) + 1 := by omega
    rw [e, List.range'_succ]
    obtain ⟨fr1, σ1, h1, h2⟩ := opsA_cons h
    simp only [wpOpsIn, ho]
    rw [← wanted_eq f.t]
    split
    · rename_i hw
      rw [if_pos hw] at h2
      refine oper_ok S ok hD hwf.1 f r h2 fun ρ2 a2 w2 g2 r2 f2 => ?_
      exact ops_ok S ok hD ops rest (i + 1) hrest' hwf.2 f2 r2 (g.trans g2 g.next) h1
    · rename_i hw
      rw [if_neg hw] at h2
      obtain ⟨h2, rfl⟩ := h2
      refine ⟨about_any ro o w _, ?_⟩
      have hd : dstOk n o.dst = true := by
        have := hwf.1
        simp only [wfOper, Bool.and_eq_true] at this
        exact this.2
      exact ops_ok S ok hD ops rest (i + 1) hrest' hwf.2 (f.fput h2 hd (VRel.undef _)) r g h1

theorem wp_to {F : Fence} {n : Nat} {c : Code} {Q Q' : Exit → Act → World → Prop} {a : Act} {w : World} (h : c.wpIn F n P Q a w) (hq : ∀ e a w, Q e a w → Q' e a w) : c.wpIn F n P Q' a w := wpIn_mono h hq

/-- Drawn regions, as AMDraw proves them. -/
def DrawSound (P : Program) (E : Env) : Prop :=
  ∀ {R : Rec}, Sound P E R → ∀ {id : Nat} {ops : Array Oper} {fr : Fr} {σ : St} {fr' : Fr} {σ' : St}, regionDraw E R ops.toList fr σ = .ok (fr', σ') →
    ∀ {ro : Option Nat} {ρ : Map} {lo n : Nat} {a : Act} {w : World}, allL (wfOper E.G n) ops.toList = true → lo ≤ w.heap.size → FrRel ro ρ lo n w fr a → Rel E.G ρ σ w →
      (Code.region id ops true).wpIn (FW ro) 0 P (Post E.G ro ρ σ w lo n .normal fr' σ') a w

theorem paramsT_ok {ρ : Map} : ∀ (ps : List Tmp) (args args' : List Value) (t t' : T Value) (tmps : Array Value), TRel ρ t tmps → (∀ p ∈ ps, p < tmps.size) → LRel ρ args args' → paramsT ps args t = .ok t' →
    TRel ρ t' ((ps.zip args').foldl (fun tmps (t, a) => tmps.setIfInBounds t a) tmps) ∧ ((ps.zip args').foldl (fun tmps (t, a) => tmps.setIfInBounds t a) tmps).size = tmps.size
  | [], [], args', t, t', tmps, ht, _, ha, h => by cases ha; cases h; exact ⟨ht, rfl⟩
  | p :: ps, v :: vs, args', t, t', tmps, ht, hp, ha, h => by
    cases ha with
    | cons h1 h2 =>
      simp only [paramsT, forceV_eq, ok_bind, T.setM_eq] at h
      simp only [List.zip_cons_cons, List.foldl_cons]
      have := paramsT_ok ps vs _ _ t' (tmps.setIfInBounds p _) (ht.put (hp p (by simp)) h1) (fun q hq => by simpa using hp q (by simp [hq])) h2 h
      simpa using this
  | [], _ :: _, _, _, _, _, _, _, _, h => by cases h
  | _ :: _, [], _, _, _, _, _, _, _, h => by cases h

theorem argsT_ok {ρ : Map} : ∀ (l : List Value) (i : Nat) (pre : Array Value) (l' : List Value) (k : Nat) (t t' : T Value), i = pre.size → LRel ρ l l' → TRel ρ t (pre ++ Array.replicate (l.length + k) undef) → argsT l i t = .ok t' →
    TRel ρ t' (pre ++ l'.toArray ++ Array.replicate k undef)
  | [], i, pre, l', k, t, t', hi, hl, ht, h => by
    cases hl; cases h
    simpa using ht
  | v :: l, i, pre, l', k, t, t', hi, hl, ht, h => by
    cases hl with
    | cons h1 h2 =>
      rename_i v' l'
      simp only [argsT, forceV_eq, ok_bind, T.setM_eq] at h
      have hp := ht.put (d := i) (by simp; omega) h1
      have e : (pre ++ Array.replicate (l.length + 1 + k) undef).setIfInBounds i v' = pre.push v' ++ Array.replicate (l.length + k) undef := by
        apply Array.ext_getElem?
        intro j
        subst hi
        rw [Array.getElem?_setIfInBounds, Array.getElem?_append, Array.getElem?_append]
        simp only [Array.size_append, Array.size_replicate, Array.size_push, Array.getElem?_push, Array.getElem?_replicate]
        rcases Nat.lt_trichotomy j pre.size with hj | hj | hj
        · rw [if_neg (by omega), if_pos hj, if_pos (by omega), if_neg (by omega)]
        · subst hj
          rw [if_pos rfl, if_pos (by omega), if_pos (by omega), if_pos rfl]
        · have a1 : ¬ pre.size = j := by omega
          have a2 : ¬ j < pre.size := by omega
          have a3 : ¬ j < pre.size + 1 := by omega
          simp only [if_neg a1, if_neg a2, if_neg a3]
          by_cases hk : j - pre.size < l.length + 1 + k
          · have : j - (pre.size + 1) < l.length + k := by omega
            rw [if_pos hk, if_pos this]
          · have : ¬ j - (pre.size + 1) < l.length + k := by omega
            rw [if_neg hk, if_neg this]
      have hp' : TRel ρ (T.setF (i + 1) t i (some v)) (pre.push v' ++ Array.replicate (l.length + k) undef) := by
        rw [← e]; exact hp
      have := argsT_ok l (i + 1) (pre.push v') l' k _ t' (by simp [hi]) h2 hp' h
      simpa using this
end
end Go.AM
