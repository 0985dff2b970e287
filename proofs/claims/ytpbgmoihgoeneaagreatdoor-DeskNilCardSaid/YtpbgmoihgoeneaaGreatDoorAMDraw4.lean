/- The abstract machine's drawn regions, last part: the invariant, whatever has been taken; the recursion is sound. -/
import Derived.Test.YtpbgmoihgoeneaaGreatDoorAMDraw3
namespace Go.AM

/-- An operation that hands back a value. -/
theorem value_wp {P : Program} {ro : Option Nat} {o : Oper} {a : Act} {w w1 : World} {v' : Value} (hrun : (execOp a.eval o).run P w = .ok (.value v') w1) (hnd : ∀ c, o.op ≠ .defer c) {K : Act → World → Prop} {Q : Exit → Act → World → Prop}
    (hK : K (a.put o.dst v') w1) : o.wpIn (FW ro) 0 P a w K Q := by
  refine ⟨about_any ro o w _, ?_⟩
  rw [Oper.semAt_eq _ _ _ hnd, hrun]
  exact hK

section
variable {P : Program} {E : Env} {ops : Array Oper} {base : Nat} {F : Nat → Fr} {S : Nat → St} {V : Nat → Value} {Sg : Nat → St} {R : Rec} {bs : List Nat} {J : Nat}

def Dn (listed : Array Bool) (k : Nat) : Bool := listed.getD k true

theorem Dn_set {listed : Array Bool} {i : Nat} (hi : i < listed.size) (k : Nat) : Dn (listed.setIfInBounds i true) k = if k = i then true else Dn listed k := by
  unfold Dn
  by_cases e : k = i
  · subst e; simp [hi]
  · rw [if_neg e]; simp [Array.getElem?_setIfInBounds_ne (Ne.symm e)]

structure Inv (E : Env) (ops : Array Oper) (base : Nat) (F : Nat → Fr) (V : Nat → Value) (Sg : Nat → St) (J : Nat) (ro : Option Nat) (lo n : Nat) (ρ0 : Map) (w0 : World) (listed : Array Bool) (j : Nat) (ρ : Map) (t : T Value) (a : Act) (w : World) : Prop where
  size : listed.size = ops.size
  closed : ∀ (k : Nat) o, ops.toList[k]? = some o → Dn listed k = true → ∀ e ∈ o.after.toList, Region.binds .any e = true → Dn listed e.on = true
  jJ : j ≤ J
  loud : ∀ (k : Nat) o, ops.toList[k]? = some o → cls E o.op = 3 → (Dn listed k = true ↔ pcnt E ops.toList k < j)
  tmps : ∀ d, t.get d = tv ops.toList F V (Dn listed) d ops.size
  rel : Rel E.G ρ (XD E ops.toList base F Sg (Dn listed) j) w
  res : ∀ k, k < ops.size → ρ (base + k) ≠ none → Dn listed k = true
  next : base + ops.size ≤ (Sg j).next
  fr : FrRel ro ρ lo n w { F 0 with tmps := t } a
  grow : Grow base ρ0 (Sg 0) w0 ρ (XD E ops.toList base F Sg (Dn listed) j) w

theorem closed_bits (O : Ords E ops.toList bs) {D : Nat → Bool} (hD : ∀ (k : Nat) o, ops.toList[k]? = some o → D k = true → ∀ e ∈ o.after.toList, Region.binds .any e = true → D e.on = true) :
    ∀ (m i : Nat), i < m → ∀ o b, ops.toList[i]? = some o → bs[i]? = some b → (∀ e ∈ o.after.toList, Region.binds .any e = true → D e.on = true) → ∀ t, b.testBit t = true → D t = true
  | 0, i, hi, _, _, _, _, _, _, _ => absurd hi (Nat.not_lt_zero _)
  | m + 1, i, hi, o, b, ho, hb, he, t, ht => by
    obtain ⟨e, g1, g2, g3⟩ := O.bits i o b t ho hb ht
    have hlt := O.edge i o ho e g1 g2
    rcases g3 with rfl | ⟨b', g4, g5⟩
    · exact he e g1 g2
    · have hx : e.on < ops.toList.length := by rw [← O.len]; exact (List.getElem?_eq_some_iff.1 g4).1
      have hox := List.getElem?_eq_getElem hx
      exact closed_bits O hD m e.on (by omega) _ b' hox g4 (hD _ _ hox (he e g1 g2)) t g5

theorem lt_pcnt : ∀ {l : List Oper} {i q : Nat}, i ≤ l.length → q < pcnt E l i → ∃ k o, k < i ∧ l[k]? = some o ∧ cls E o.op = 3 ∧ pcnt E l k = q
  | l, 0, q, _, h => by have : pcnt E l 0 = 0 := by cases l <;> rfl
                        omega
  | l, i + 1, q, hi, h => by
    have hx : i < l.length := by omega
    have ho := List.getElem?_eq_getElem hx
    have hp := pcnt_succ (E := E) ho
    by_cases hq : q < pcnt E l i
    · obtain ⟨k, o, h1, h2⟩ := lt_pcnt (l := l) (i := i) (by omega) hq
      exact ⟨k, o, by omega, h2⟩
    · by_cases hc : cls E l[i].op = 3
      · rw [if_pos hc] at hp
        exact ⟨i, _, by omega, ho, hc, by omega⟩
      · rw [if_neg hc] at hp
        omega

theorem memN_iff (x : Nat) : ∀ l : List Nat, memN x l = true ↔ x ∈ l
  | [] => by simp [memN]
  | y :: l => by
    simp only [memN, List.mem_cons]
    split
    · simp [*]
    · rw [memN_iff x l]; simp [*]

variable {ro : Option Nat} {lo n : Nat} {ρ0 : Map} {w0 : World}

/-- What is so where an operation is taken. -/
structure Taken (E : Env) (ops : Array Oper) (F : Nat → Fr) (bs : List Nat) (listed : Array Bool) (j : Nat) (t : T Value) (i : Nat) (o : Oper) (b : Nat) : Prop where
  ho : ops.toList[i]? = some o
  hb : bs[i]? = some b
  lt : i < ops.size
  un : Dn listed i = false
  edges : ∀ e ∈ o.after.toList, Region.binds .any e = true → Dn listed e.on = true
  bits : ∀ k, b.testBit k = true → Dn listed k = true
  later : ∀ (k : Nat) b', bs[k]? = some b' → b'.testBit i = true → Dn listed k = false
  loud : cls E o.op = 3 → pcnt E ops.toList i = j
  same : ∀ d ∈ readsOf ops.toList o, t.get d = (F i).tmps.get d
  last : ∀ d, o.dst = some d → ∀ k, i < k → k < ops.size → (ops.toList[k]?).bind (·.dst) = some d → Dn listed k = false

theorem taken (H0 : DT E ops.toList base F S V Sg R bs J) {listed : Array Bool} {j : Nat} {ρ : Map} {t : T Value} {a : Act} {w : World} (I : Inv E ops base F V Sg J ro lo n ρ0 w0 listed j ρ t a w) {i : Nat} (hr : i ∈ Region.ready .any ops listed) :
    ∃ o b, Taken E ops F bs listed j t i o b := by
  obtain ⟨hun, o, ho, hedge⟩ := mem_ready.1 hr
  have hlt : i < ops.size := (Array.getElem?_eq_some_iff.1 ho).1
  have ho' : ops.toList[i]? = some o := by simpa using ho
  have hb := List.getElem?_eq_getElem (l := bs) (i := i) (by rw [H0.ord.len]; simpa using hlt)
  have edges : ∀ e ∈ o.after.toList, Region.binds .any e = true → Dn listed e.on = true := fun e he hbd => by
    have h1 := hedge e (by simpa using he) hbd
    unfold Dn
    by_cases hx : e.on < listed.size
    · simp [hx] at h1 ⊢; exact h1
    · simp [hx] at h1
  have bits := closed_bits H0.ord I.closed (i + 1) i (Nat.lt_succ_self _) o _ ho' hb edges
  have later : ∀ (k : Nat) b', bs[k]? = some b' → b'.testBit i = true → Dn listed k = false := fun k b' hk hbit => by
    cases hd : Dn listed k with
    | false => rfl
    | true =>
      have hkl : k < ops.toList.length := by rw [← H0.ord.len]; exact (List.getElem?_eq_some_iff.1 hk).1
      have hok := List.getElem?_eq_getElem hkl
      have := closed_bits H0.ord I.closed (k + 1) k (Nat.lt_succ_self _) _ b' hok hk (I.closed k _ hok hd) i hbit
      unfold Dn at this
      rw [hun] at this; cases this
  have before : ∀ k ok, k < i → ops.toList[k]? = some ok → mustKeep E ops.toList ok o = true → Dn listed k = true := fun k ok hk hok hm =>
    bits k (H0.ord.keep k i ok o _ hk hok ho' hb hm)
  have behind : ∀ k ok, i < k → ops.toList[k]? = some ok → mustKeep E ops.toList o ok = true → Dn listed k = false := fun k ok hk hok hm => by
    have hkl : k < ops.toList.length := (List.getElem?_eq_some_iff.1 hok).1
    have hbk := List.getElem?_eq_getElem (l := bs) (i := k) (by rw [H0.ord.len]; exact hkl)
    exact later k _ hbk (H0.ord.keep i k o ok _ hk ho' hok hbk hm)
  refine ⟨o, _, ho', hb, hlt, hun, edges, bits, later, fun hc => ?_, fun d hd => ?_, fun d hd k hk hks hkd => ?_⟩
  · have hge : j ≤ pcnt E ops.toList i := by
      rcases Nat.lt_or_ge (pcnt E ops.toList i) j with h | h
      · have := (I.loud i o ho' hc).2 h
        unfold Dn at this
        rw [hun] at this; cases this
      · exact h
    rcases Nat.lt_or_ge j (pcnt E ops.toList i) with h | h
    · obtain ⟨k, ok, h1, h2, h3, h4⟩ := lt_pcnt (E := E) (l := ops.toList) (i := i) (by simp; omega) h
      have := before k ok h1 h2 (by simp [mustKeep, hc, h3])
      have := (I.loud k ok h2 h3).1 this
      omega
    · omega
  · rw [I.tmps d, F_tmps H0 d i (by simp; omega)]
    have e1 := tv_upto (V := V) (F := F) (ops := ops.toList) (D := Dn listed) (d := d) (i := i) ops.size (by omega) fun k h1 h2 h3 => by
      cases hok : ops.toList[k]? with
      | none => rw [hok] at h3; cases h3
      | some ok =>
        rw [hok] at h3
        have h3 : ok.dst = some d := h3
        by_cases e : k = i
        · subst e; exact hun
        · exact behind k ok (by omega) hok (by simp [mustKeep, h3, (memN_iff d _).2 hd])
    rw [e1]
    refine tv_congr i fun k hk hkd => ?_
    cases hok : ops.toList[k]? with
    | none => rw [hok] at hkd; cases hkd
    | some ok =>
      rw [hok] at hkd
      have h3 : ok.dst = some d := hkd
      exact before k ok hk hok (by simp [mustKeep, h3, (memN_iff d _).2 hd])
  · cases hok : ops.toList[k]? with
    | none => rw [hok] at hkd; cases hkd
    | some ok =>
      rw [hok] at hkd
      have h3 : ok.dst = some d := hkd
      exact behind k ok hk hok (by simp [mustKeep, h3, hd])

/-- The invariant goes on. -/
theorem Inv.on (H0 : DT E ops.toList base F S V Sg R bs J) {listed : Array Bool} {j : Nat} {ρ : Map} {t : T Value} {a : Act} {w : World} (I : Inv E ops base F V Sg J ro lo n ρ0 w0 listed j ρ t a w) {i : Nat} {o : Oper} {b : Nat} (K : Taken E ops F bs listed j t i o b)
    {j' : Nat} (hj' : j' = j + if cls E o.op = 3 then 1 else 0) {ρ' : Map} {fr3 : Fr} {a' : Act} {w' : World} (hput : fput { F 0 with tmps := t } o.dst (V i) = .ok fr3)
    (rel : Rel E.G ρ' (XD E ops.toList base F Sg (Dn (listed.setIfInBounds i true)) j') w') (res : ∀ k, k < ops.size → k ≠ i → ρ' (base + k) ≠ none → ρ (base + k) ≠ none)
    (next : base + ops.size ≤ (Sg j').next) (fr : FrRel ro ρ' lo n w' fr3 a') (grow : Grow base ρ0 (Sg 0) w0 ρ' (XD E ops.toList base F Sg (Dn (listed.setIfInBounds i true)) j') w') :
    Inv E ops base F V Sg J ro lo n ρ0 w0 (listed.setIfInBounds i true) j' ρ' fr3.tmps a' w' := by
  have hsz : i < listed.size := by rw [I.size]; exact K.lt
  have hset := Dn_set (listed := listed) hsz
  have hpi := pcnt_succ (E := E) K.ho
  have hfr : fr3 = { F 0 with tmps := fr3.tmps } := by
    obtain ⟨h1, h2, _⟩ := fput_get hput
    cases fr3
    simp only at h1 h2
    rw [h1, h2]
  refine ⟨by simp [I.size], ?_, ?_, ?_, ?_, rel, ?_, next, by rw [← hfr]; exact fr, grow⟩
  · intro k ok hok hd e he hbd
    rw [hset] at hd ⊢
    by_cases e1 : e.on = i
    · rw [if_pos e1]
    · rw [if_neg e1]
      by_cases e2 : k = i
      · subst e2
        rw [K.ho] at hok; cases hok
        exact K.edges e he hbd
      · rw [if_neg e2] at hd
        exact I.closed k ok hok hd e he hbd
  · rw [hj']
    split
    · rename_i hc
      have h1 := K.loud hc
      rw [if_pos hc] at hpi
      have h2 := pcnt_mono (E := E) (ops := ops.toList) (i := i + 1) (k := ops.toList.length) (by simp; exact K.lt) (Nat.le_refl _)
      have h3 := H0.J_eq
      omega
    · exact I.jJ
  · intro k ok hok hc
    rw [hset]
    by_cases e2 : k = i
    · subst e2
      rw [K.ho] at hok; cases hok
      rw [if_pos rfl]
      have := K.loud hc
      rw [if_pos hc] at hj'
      simp; omega
    · rw [if_neg e2, I.loud k ok hok hc, hj']
      split
      · rename_i hci
        have h1 := K.loud hci
        have h2 := pcnt_succ (E := E) hok
        rw [if_pos hc] at h2
        rw [if_pos hci] at hpi
        have hkl : k < ops.toList.length := (List.getElem?_eq_some_iff.1 hok).1
        have hil : i < ops.toList.length := by simp; exact K.lt
        rcases Nat.lt_or_ge k i with h | h
        · have := pcnt_mono (E := E) (ops := ops.toList) (i := k + 1) (k := i) (by omega) (by omega)
          omega
        · have := pcnt_mono (E := E) (ops := ops.toList) (i := i + 1) (k := k) (by omega) (by omega)
          omega
      · rw [Nat.add_zero]
  · intro d
    rw [(fput_get hput).2.2 d]
    dsimp only
    by_cases hd : o.dst = some d
    · rw [if_pos hd]
      have e1 := tv_upto (V := V) (F := F) (ops := ops.toList) (D := Dn (listed.setIfInBounds i true)) (d := d) (i := i + 1) ops.size K.lt fun k h1 h2 h3 => by
        rw [hset, if_neg (by omega)]
        exact K.last d hd k (by omega) h2 h3
      rw [e1]
      unfold tv
      rw [if_pos]
      rw [hset, if_pos rfl, K.ho]
      exact ⟨rfl, hd⟩
    · rw [if_neg hd, I.tmps d]
      refine tv_congr _ fun k hk hkd => ?_
      rw [hset]
      by_cases e2 : k = i
      · subst e2
        rw [K.ho] at hkd
        exact absurd hkd hd
      · rw [if_neg e2]
  · intro k hk hne
    rw [hset]
    by_cases e2 : k = i
    · rw [if_pos e2]
    · rw [if_neg e2]
      exact I.res k hk (res k hk e2 hne)

/-- One operation taken. -/
theorem take_ok (Sd : Sound P E R) (ok : EnvOk P E) (hD : 100 ≤ P.types.size + Made.depth) (H0 : DT E ops.toList base F S V Sg R bs J) (hwf : allL (wfOper E.G n) ops.toList = true) {listed : Array Bool} {j : Nat} {ρ : Map} {t : T Value} {a : Act} {w : World}
    (I : Inv E ops base F V Sg J ro lo n ρ0 w0 listed j ρ t a w) {i : Nat} (hr : i ∈ Region.ready .any ops listed) {K : Act → World → Prop} {Q : Exit → Act → World → Prop}
    (hK : ∀ j' ρ' t' a' w', Inv E ops base F V Sg J ro lo n ρ0 w0 (listed.setIfInBounds i true) j' ρ' t' a' w' → K a' w') : wpOpIn (FW ro) 0 P ops Q i K a w := by
  obtain ⟨o, b, H⟩ := taken H0 I hr
  have ho : ops[i]? = some o := by simpa using H.ho
  have hil : i < ops.toList.length := by simp; exact H.lt
  have hwo := allL_mem hwf (List.mem_of_getElem? H.ho)
  simp only [wfOper, Bool.and_eq_true] at hwo
  obtain ⟨hclosed, hdst⟩ := hwo
  have hsz : i < listed.size := by rw [I.size]; exact H.lt
  have hset := Dn_set (listed := listed) hsz
  have hsame : Same t (F i).tmps o.op := same_of_reads H.same
  have hwant : Region.wanted o (yielded ops a.tmps) = wantedA ops.toList (F i).tmps o := by rw [← wanted_eq I.fr.t, wantedA_congr H.same]
  have ndef : cls E o.op ≠ 3 → ∀ c, o.op ≠ .defer c := fun h c e => h (by rw [e]; rfl)
  obtain ⟨fr3, hput⟩ : ∃ fr3, fput { F 0 with tmps := t } o.dst (V i) = .ok fr3 := by
    cases o.dst with
    | none => exact ⟨_, rfl⟩
    | some d => exact ⟨_, by simp only [fput, forceV_eq, ok_bind, T.setM_eq]; rfl⟩
  have iff := fun (D : Nat → Bool) => XD_iff H0 (D := D) I.jJ
  have Xnext : ∀ (D : Nat → Bool) j, (XD E ops.toList base F Sg D j).next = (Sg j).next := fun D j => addAll_next _ _ _
  -- a state that knows less
  have less : ∀ (D : Nat → Bool) b B, ρ b ≠ none → (XD E ops.toList base F Sg D j).heap.get b = some B → (XD E ops.toList base F Sg (Dn listed) j).heap.get b = some B := by
    intro D b B hne h
    rcases (iff D b B).1 h with h | ⟨k, h1, h2, h3, h4, h5⟩
    · exact (iff _ b B).2 (.inl h)
    · subst h2
      exact (iff _ _ B).2 (.inr ⟨k, h1, rfl, I.res k (by simpa using h1) hne, h4, h5⟩)
  have SX : ∀ b B, pcnt E ops.toList i = j → ((S i).heap.get b = some B ↔ (XD E ops.toList base F Sg (fun k => decide (k < i)) j).heap.get b = some B) := by
    intro b B hp
    rw [(S_iff H0 i (by omega)).2 b B, iff, hp]
    constructor
    · rintro (h | ⟨k, h1, h2, h3, h4⟩)
      · exact .inl h
      · exact .inr ⟨k, by omega, h2, by simpa using h1, by omega, h4⟩
    · rintro (h | ⟨k, h1, h2, h3, h4, h5⟩)
      · exact .inl h
      · have h3 : k < i := by simpa using h3
        have := pcnt_mono (E := E) (ops := ops.toList) (i := k) (k := i) (by omega) (by omega)
        exact .inr ⟨k, h3, h2, by omega, h5⟩
  have relS : pcnt E ops.toList i = j → Rel E.G ρ (S i) w := fun hp =>
    I.rel.congr (by rw [Xnext, (S_iff H0 i (by omega)).1, hp]; exact Nat.le_refl _) fun b B hne h => less _ b B hne ((SX b B hp).1 h)
  -- the state with an operation more that makes nothing
  have grown : ∀ {ρ' : Map} {X : St} {w' : World}, madeB E ops.toList F i = none → Rel E.G ρ' (XD E ops.toList base F Sg (Dn listed) j) w' → Grow base ρ0 (Sg 0) w0 ρ' (XD E ops.toList base F Sg (Dn listed) j) w' →
      Rel E.G ρ' (XD E ops.toList base F Sg (Dn (listed.setIfInBounds i true)) j) w' ∧ Grow base ρ0 (Sg 0) w0 ρ' (XD E ops.toList base F Sg (Dn (listed.setIfInBounds i true)) j) w' := by
    intro ρ' X w' hm r g
    have h : ∀ b B, ρ' b ≠ none → (XD E ops.toList base F Sg (Dn (listed.setIfInBounds i true)) j).heap.get b = some B → (XD E ops.toList base F Sg (Dn listed) j).heap.get b = some B := by
      intro b B _ h
      rcases (iff _ b B).1 h with h | ⟨k, h1, h2, h3, h4, h5⟩
      · exact (iff _ b B).2 (.inl h)
      · rw [hset] at h3
        by_cases e : k = i
        · subst e; rw [hm] at h5; cases h5
        · rw [if_neg e] at h3
          exact (iff _ b B).2 (.inr ⟨k, h1, h2, h3, h4, h5⟩)
    exact ⟨r.congr (by rw [Xnext, Xnext]; exact Nat.le_refl _) h, g.congr (by rw [Xnext, Xnext]; exact Nat.le_refl _) h⟩
  have quiet : ∀ v', VRel ρ (V i) v' → cls E o.op ≠ 3 → madeB E ops.toList F i = none → K (a.put o.dst v') w := by
    intro v' hv hc hm
    obtain ⟨r1, g1⟩ := grown (X := S i) hm I.rel I.grow
    exact hK j ρ fr3.tmps _ w (I.on H0 H (by rw [if_neg hc, Nat.add_zero]) hput r1 (fun k _ _ h => h) I.next (I.fr.fput hput hdst hv) g1)
  unfold wpOpIn
  rw [ho]
  dsimp only
  rw [hwant]
  rcases (H0.step i o b H.ho H.hb).2 with ⟨hw, hcase⟩ | ⟨hw, hv, hs, hs'⟩
  · rw [if_pos hw]
    rcases hcase with ⟨hc, hv, hs⟩ | ⟨hc, hv, hs, hnote⟩ | ⟨hc, B, vf, hv, hvk, hs, hnote⟩ | ⟨hc, nx, s', hv, hnd, hdo, hs⟩
    · -- it looks at its operands alone
      rw [← pureA_congr hsame] at hv
      obtain ⟨v', q1, q2⟩ := pure_ok ok I.rel.glob I.fr.t hclosed hv
      exact value_wp (q2 w) (ndef (by omega)) (quiet v' q1 (by omega) (not_made H.ho (.inr (by omega))))
    · -- it reads
      have : ∃ v', VRel ρ (V i) v' ∧ (execOp a.eval o).run P w = .ok (.value v') w := by
        by_cases hp : pcnt E ops.toList i = j
        · rw [← readA_congr hsame] at hv
          exact read_ok ok (relS hp) I.fr.t hclosed hv
        · have h1 : loudLo E b ops.toList 0 0 0 ≤ j := loudLo_le _ _ _ _ (Nat.zero_le _) fun k ok' hok hck hbit => by
            have := (I.loud k ok' hok hck).1 (H.bits k (by simpa using hbit))
            omega
          have h2 : j ≤ loudHi E i ops.toList bs 0 := le_loudHi _ _ _ H0.ord.len (by have := I.jJ; have := H0.J_eq; omega) fun k ok' b' hok hbk hck hbit => by
            have h3 := H.later k b' hbk hbit
            rcases Nat.lt_or_ge (pcnt E ops.toList k) j with h | h
            · have := (I.loud k ok' hok hck).2 h
              rw [h3] at this; cases this
            · omega
          have h3 := hnote j I.jJ h1 h2 (Ne.symm hp)
          rw [← readA_congr hsame] at h3
          refine read_ok ok (I.rel.congr (X' := Sg j) (by rw [Xnext]; exact Nat.le_refl _) fun b B _ h => (iff _ b B).2 (.inl h)) I.fr.t hclosed h3
      obtain ⟨v', q1, q2⟩ := this
      exact value_wp q2 (ndef (by omega)) (quiet v' q1 (by omega) (not_made H.ho (.inr (by omega))))
    · -- it makes a block
      rw [← allocA_congr hsame] at hv
      obtain ⟨s, q1, O, room, v', k, q2, q3⟩ := alloc_ok (w := w) ok I.rel.glob I.fr.t hclosed hv
      have hfree : ρ (base + i) = none := by
        cases hx : ρ (base + i) with
        | none => rfl
        | some L => have := I.res i H.lt (by rw [hx]; simp)
                    rw [H.un] at this; cases this
      have q4 := q3 (addρ ρ (base + i) ⟨w.heap.size, 0, room⟩) (base + i) (addρ_sub _ hfree) (addρ_same _ _ _)
      have hlt : base + i < (XD E ops.toList base F Sg (Dn listed) j).next := by rw [Xnext]; have := I.next; have := H.lt; omega
      obtain ⟨r1, g1⟩ := (I.rel.drawn k).alloc hfree (XD E ops.toList base F Sg (Dn listed) j).next hlt (Nat.le_refl _) room q4.1
      have g2 := (I.grow.trans (Grow.drawn base ρ _ w k) (Nat.le_refl _)).trans (g1 base (Nat.le_add_right _ _)) (Nat.le_refl _)
      have hm : madeB E ops.toList F i = some B := is_made H.ho hw hc (by rw [← allocA_congr hsame]; exact hv)
      have hget : ∀ c C, addρ ρ (base + i) ⟨w.heap.size, 0, room⟩ c ≠ none → (XD E ops.toList base F Sg (Dn (listed.setIfInBounds i true)) j).heap.get c = some C →
          (T.setF (base + i + 1) (XD E ops.toList base F Sg (Dn listed) j).heap (base + i) (some B)).get c = some C := by
        intro c C _ h
        rw [T.get_put]
        rcases (iff _ c C).1 h with h | ⟨k', h1, h2, h3, h4, h5⟩
        · by_cases e : c = base + i
          · rw [if_pos e]
            have h2 : j ≤ loudHi E i ops.toList bs 0 := le_loudHi _ _ _ H0.ord.len (by have := I.jJ; have := H0.J_eq; omega) fun k ok' b' hok hbk hck hbit => by
              have h3 := H.later k b' hbk hbit
              rcases Nat.lt_or_ge (pcnt E ops.toList k) j with h | h
              · have := (I.loud k ok' hok hck).2 h
                rw [h3] at this; cases this
              · omega
            rcases Nat.lt_or_ge (pcnt E ops.toList i) j with h6 | h6
            · rw [e, (hnote j I.jJ).2 h6 h2] at h; exact h
            · rw [e, (hnote j I.jJ).1 h6] at h; cases h
          · rw [if_neg e]
            exact (iff _ c C).2 (.inl h)
        · by_cases e : c = base + i
          · rw [if_pos e]
            have : k' = i := by omega
            subst this
            rw [hm] at h5; exact h5
          · rw [if_neg e]
            rw [hset, if_neg (fun e' => e (by rw [← e']; exact h2))] at h3
            exact (iff _ c C).2 (.inr ⟨k', h1, h2, h3, h4, h5⟩)
      refine value_wp (w1 := wpush { w with drawn := k } O) (v' := v') (by rw [q1]; simp [q2]) (ndef (by omega)) ?_
      refine hK j _ fr3.tmps _ _ (I.on H0 H (by rw [if_neg (by omega), Nat.add_zero]) hput (r1.congr (by rw [Xnext, Xnext]; exact Nat.le_refl _) hget) ?_ I.next ?_ (g2.congr (by rw [Xnext, Xnext]; exact Nat.le_refl _) hget))
      · intro k' _ hne h
        have : ¬ base + k' = base + i := by omega
        simp only [addρ] at h
        rw [if_neg this] at h
        exact h
      · refine ((I.fr.grow I.rel (Grow.drawn base ρ _ w k)).grow (I.rel.drawn k) (g1 base (Nat.le_add_right _ _))).fput hput hdst ?_
        rw [hvk]; exact q4.2
    · -- it writes, or calls
      have hp := H.loud hc
      rw [← loudA_congr hsame] at hv
      have rS := relS hp
      obtain ⟨N, ρ1, w1, q1, q2, q3, q4⟩ := loud_ok ok hD rS I.fr.t hclosed hv
      have hpi := pcnt_succ (E := E) H.ho
      rw [if_pos hc] at hpi
      have hJ : j + 1 ≤ J := by
        have h2 := pcnt_mono (E := E) (ops := ops.toList) (i := i + 1) (k := ops.toList.length) (by omega) (Nat.le_refl _)
        have h3 := H0.J_eq
        omega
      have hSn : (S i).next = (Sg j).next := by rw [(S_iff H0 i (by omega)).1, hp]
      have hs : Sg (j + 1) = S (i + 1) := by rw [← hp]; exact hs
      refine next_wp Sd hdst q1 q3 q2 q4 ?_ I.fr rS (hdo _ _ hput) fun ρ2 a2 w2 g2 r2 f2 => ?_
      · by_cases hop : ∃ c, o.op = .defer c
        · obtain ⟨c, hop⟩ := hop
          left
          rw [hop] at hv
          simp only [loudA] at hv
          replace hv := map_ok hv
          obtain ⟨d, _, hv⟩ := hv
          cases hv
          exact ⟨d, rfl⟩
        · exact .inr fun c e => hop ⟨c, e⟩
      · have hj := join (X2 := XD E ops.toList base F Sg (Dn (listed.setIfInBounds i true)) (j + 1)) I.rel (fun b B hne h => less _ b B hne ((SX b B hp).1 h)) g2 r2 (fun c C hne h => by
            rcases (XD_iff H0 hJ c C).1 h with h | ⟨k, h1, h2, h3, h4, h5⟩
            · left; rw [← hs]; exact h
            · right
              subst h2
              have hki : k ≠ i := fun e => by subst e; omega
              rw [hset, if_neg hki] at h3
              have hkm : i < k := by
                rcases Nat.lt_or_ge i k with h | h
                · exact h
                · have := pcnt_mono (E := E) (ops := ops.toList) (i := k) (k := i) h (by omega)
                  omega
              refine ⟨(iff _ _ C).2 (.inr ⟨k, h1, rfl, h3, by omega, h5⟩), ?_, by rw [hSn]; have := I.next; simp at h1; omega⟩
              cases hx : (S i).heap.get (base + k) with
              | none => rfl
              | some C' =>
                rcases ((S_iff H0 i (by omega)).2 _ C').1 hx with h6 | ⟨k', q1, q2, _⟩
                · rw [hp, ((made_spec H0 h5).2 j I.jJ).1 (by omega)] at h6; cases h6
                · omega)
            (by rw [Xnext, hs]) (by rw [Xnext, Xnext, ← hSn, hs]; exact g2.next)
        refine hK (j + 1) ρ2 fr3.tmps a2 w2 (I.on H0 H (by rw [if_pos hc]) hput hj.1 (fun k hk _ h => ?_) ?_ f2 (I.grow.trans hj.2 ?_))
        · rw [← g2.old (base + k) (by rw [hSn]; have := I.next; omega)]; exact h
        · rw [hs]; have := I.next; have := g2.next; omega
        · rw [hSn]; have := I.next; omega
  · -- it is not carried out
    rw [if_neg (by rw [hw]; simp)]
    refine ⟨about_any ro o w _, ?_⟩
    have hm := not_made (E := E) (F := F) H.ho (.inl hw)
    have hv' : VRel ρ (V i) undef := by rw [hv]; exact VRel.undef _
    by_cases hc : cls E o.op = 3
    · have hp := H.loud hc
      have hpi := pcnt_succ (E := E) H.ho
      rw [if_pos hc] at hpi
      have hJ : j + 1 ≤ J := by
        have h2 := pcnt_mono (E := E) (ops := ops.toList) (i := i + 1) (k := ops.toList.length) (by omega) (Nat.le_refl _)
        have h3 := H0.J_eq
        omega
      have hSn : (S i).next = (Sg j).next := by rw [(S_iff H0 i (by omega)).1, hp]
      have hs : Sg (j + 1) = S i := by rw [← hs, ← hp]; exact hs' hc
      have h : ∀ b B, ρ b ≠ none → (XD E ops.toList base F Sg (Dn (listed.setIfInBounds i true)) (j + 1)).heap.get b = some B → (XD E ops.toList base F Sg (Dn listed) j).heap.get b = some B := by
        intro b B hne h
        rcases (XD_iff H0 hJ b B).1 h with h | ⟨k, h1, h2, h3, h4, h5⟩
        · rw [hs] at h
          exact less _ b B hne ((SX b B hp).1 h)
        · have hki : k ≠ i := fun e => by subst e; omega
          rw [hset, if_neg hki] at h3
          exact (iff _ b B).2 (.inr ⟨k, h1, h2, h3, by omega, h5⟩)
      have hn : (XD E ops.toList base F Sg (Dn listed) j).next ≤ (XD E ops.toList base F Sg (Dn (listed.setIfInBounds i true)) (j + 1)).next := by rw [Xnext, Xnext, hs, hSn]; exact Nat.le_refl _
      exact hK (j + 1) ρ fr3.tmps _ w (I.on H0 H (by rw [if_pos hc]) hput (I.rel.congr hn h) (fun k _ _ h => h) (by rw [hs, hSn]; exact I.next) (I.fr.fput hput hdst hv') (I.grow.congr hn h))
    · exact quiet undef hv' hc hm

/-- How many are left. -/
def left (listed : Array Bool) : Nat → Nat
  | 0 => 0
  | k + 1 => left listed k + (if Dn listed k then 0 else 1)

theorem left_set {listed : Array Bool} {i : Nat} (hi : i < listed.size) (hu : Dn listed i = false) : ∀ k, left (listed.setIfInBounds i true) k + (if i < k then 1 else 0) = left listed k
  | 0 => by simp [left]
  | k + 1 => by
    have ih := left_set hi hu k
    simp only [left, Dn_set hi]
    by_cases e : k = i
    · subst e
      rw [if_neg (Nat.lt_irrefl _)] at ih
      rw [if_pos rfl, if_pos (Nat.lt_succ_self _), hu]
      simp; omega
    · rw [if_neg e]
      by_cases h : i < k
      · have h' : i < k + 1 := by omega
        rw [if_pos h] at ih; rw [if_pos h']; omega
      · have h' : ¬ i < k + 1 := by omega
        rw [if_neg h] at ih; rw [if_neg h']; omega

theorem left_zero {listed : Array Bool} : ∀ k, left listed k = 0 → ∀ t, t < k → Dn listed t = true
  | 0, _, t, h => absurd h (Nat.not_lt_zero _)
  | k + 1, h, t, ht => by
    simp only [left] at h
    by_cases e : t = k
    · subst e
      cases hd : Dn listed t with
      | true => rfl
      | false => rw [hd] at h; simp at h
    · exact left_zero k (by omega) t (by omega)

/-- Where nothing is ready everything has been taken. -/
theorem all_taken (H0 : DT E ops.toList base F S V Sg R bs J) {listed : Array Bool} (hsz : listed.size = ops.size) (hr : Region.ready .any ops listed = []) : ∀ t, t < ops.size → Dn listed t = true := by
  intro t
  induction t using Nat.strongRecOn with
  | _ t ih =>
    intro ht
    cases hd : Dn listed t with
    | true => rfl
    | false =>
      obtain ⟨o, ho⟩ : ∃ o, ops[t]? = some o := ⟨_, Array.getElem?_eq_getElem ht⟩
      have : t ∈ Region.ready .any ops listed := mem_ready.2 ⟨hd, o, ho, fun e he hb => by
        have hlt := H0.ord.edge t o (by simpa using ho) e (by simpa using he) hb
        have h1 := ih e.on hlt (by omega)
        unfold Dn at h1
        have hx : e.on < listed.size := by omega
        simp [hx] at h1 ⊢
        exact h1⟩
      rw [hr] at this; cases this

theorem any_ok (Sd : Sound P E R) (ok : EnvOk P E) (hD : 100 ≤ P.types.size + Made.depth) (H0 : DT E ops.toList base F S V Sg R bs J) (hwf : allL (wfOper E.G n) ops.toList = true) {Q : Exit → Act → World → Prop}
    (hQ : ∀ listed j ρ t a w, Inv E ops base F V Sg J ro lo n ρ0 w0 listed j ρ t a w → (∀ k, k < ops.size → Dn listed k = true) → Q .normal a w) :
    ∀ (fuel : Nat) (listed : Array Bool) (j : Nat) (ρ : Map) (t : T Value) (a : Act) (w : World), left listed ops.size ≤ fuel → Inv E ops base F V Sg J ro lo n ρ0 w0 listed j ρ t a w → wpAnyIn (FW ro) 0 P .any ops Q fuel listed a w
  | 0, listed, j, ρ, t, a, w, hl, I => by
    have hall := left_zero (listed := listed) ops.size (by omega)
    refine ⟨?_, hQ listed j ρ t a w I hall⟩
    cases hr : Region.ready .any ops listed with
    | nil => rfl
    | cons i l =>
      have hi : i ∈ Region.ready .any ops listed := by rw [hr]; simp
      obtain ⟨h1, o, h2, _⟩ := mem_ready.1 hi
      have := hall i (Array.getElem?_eq_some_iff.1 h2).1
      unfold Dn at this
      rw [h1] at this; cases this
  | fuel + 1, listed, j, ρ, t, a, w, hl, I => by
    refine ⟨fun hr => hQ listed j ρ t a w I (all_taken H0 I.size hr), fun i hi => ?_⟩
    refine take_ok Sd ok hD H0 hwf I hi fun j' ρ' t' a' w' I' => ?_
    refine any_ok Sd ok hD H0 hwf hQ fuel _ j' ρ' t' a' w' ?_ I'
    obtain ⟨h1, o, h2, _⟩ := mem_ready.1 hi
    have hlt := (Array.getElem?_eq_some_iff.1 h2).1
    have := left_set (listed := listed) (i := i) (by rw [I.size]; exact hlt) h1 ops.size
    rw [if_pos hlt] at this
    omega
end

theorem draw_ok {P : Program} {E : Env} (ok : EnvOk P E) (hD : 100 ≤ P.types.size + Made.depth) : DrawSound P E := by
  intro R Sd id ops fr σ fr' σ' h ro ρ lo n a w hwf _ f r
  unfold regionDraw at h
  split at h
  · cases h
  rename_i hok
  have hok : regionOk E ops.toList = true := by simpa using hok
  dsimp only at h
  simp only [forceN_eq, ok_bind] at h
  replace h := bind_ok h
  obtain ⟨⟨fr1, σ1, snaps, notes⟩, hdr, h⟩ := h
  dsimp only at h
  split at h
  rotate_left
  · cases h
  rename_i hnotes
  cases h
  have O := ords hok
  obtain ⟨F, S, V, g1, g2, g3, g4, ⟨more, g5⟩, _, g7, g8⟩ := trace (E := E) (R := R) O.len _ _ 0 0 fr _ _ [] hdr (Nat.zero_le _) (by simp) (by simp) (by cases ops.toList <;> rfl) rfl
  let Sg : Nat → St := fun j => (snaps.reverse[j]?).getD default
  have hsn : ∀ j s, snaps.reverse[j]? = some s → Sg j = s := fun j s hs => by simp only [Sg, hs, Option.getD_some]
  have hJl : ∀ j, j ≤ pcnt E ops.toList ops.toList.length → snaps.reverse[j]? = some (Sg j) := fun j hj => by
    have : j < snaps.reverse.length := by rw [List.length_reverse, g7]; omega
    rw [List.getElem?_eq_getElem this]
    simp only [Sg, List.getElem?_eq_getElem this, Option.getD_some]
  have note : ∀ x ∈ notes, ∀ j, j ≤ pcnt E ops.toList ops.toList.length → NoteAt E x (Sg j) j := fun x hx j hj => by
    have := noteOk_spec _ 0 (notesOk_spec hnotes x hx) j _ (hJl j hj)
    rwa [Nat.zero_add] at this
  have H0 : DT E ops.toList σ.next F S V Sg R (beforeL ops.toList []) (pcnt E ops.toList ops.toList.length) := by
    refine ⟨O, rfl, ?_, fun k o b ho hb => ?_⟩
    · rw [g2]
      refine (hsn 0 _ ?_).symm
      rw [g5]; simp
    · obtain ⟨h1, h2⟩ := g8 k o b (Nat.zero_le _) ho hb
      refine ⟨h1, ?_⟩
      rcases h2 with ⟨hw, ⟨hc, q1, q2⟩ | ⟨hc, q1, q2, q3⟩ | ⟨hc, B, vf, q1, q2, q3, q4⟩ | ⟨hc, nx, s', q1, q2, q3, q4⟩⟩ | ⟨hw, q1, q2, q3⟩
      · exact .inl ⟨hw, .inl ⟨hc, q1, q2⟩⟩
      · exact .inl ⟨hw, .inr (.inl ⟨hc, q1, q2, fun j hj => note _ q3 j hj⟩)⟩
      · exact .inl ⟨hw, .inr (.inr (.inl ⟨hc, B, vf, q1, q2, q3, fun j hj => note _ q4 j hj⟩))⟩
      · exact .inl ⟨hw, .inr (.inr (.inr ⟨hc, nx, s', q1, q2, q3, hsn _ _ q4⟩))⟩
      · exact .inr ⟨hw, q1, q2, fun hc => hsn _ _ (q3 hc)⟩
  have hlen : ops.toList.length = ops.size := by simp
  have hS0 : Sg 0 = ⟨σ.heap, σ.next + ops.toList.length⟩ := by rw [← H0.s0, g2]
  refine wpIn_region_any ok.mixed ?_
  have I0 : Inv E ops σ.next F V Sg (pcnt E ops.toList ops.toList.length) ro lo n ρ { w with drawn := w.drawn + 1 } (Array.replicate ops.size false) 0 ρ fr.tmps a { w with drawn := w.drawn + 1 } := by
    have hd : ∀ k, k < ops.size → Dn (Array.replicate ops.size false) k = false := fun k hk => by simp [Dn, hk]
    have hsub : ∀ b B, (XD E ops.toList σ.next F Sg (Dn (Array.replicate ops.size false)) 0).heap.get b = some B → (Sg 0).heap.get b = some B := fun b B h => by
      rcases (XD_iff H0 (Nat.zero_le _) b B).1 h with h | ⟨t, h1, h2, h3, _⟩
      · exact h
      · rw [hd t (by omega)] at h3; cases h3
    have r0 : Rel E.G ρ (Sg 0) { w with drawn := w.drawn + 1 } := (r.drawn _).congr (by rw [hS0]; exact Nat.le_add_right _ _) (fun b B _ h => by rw [hS0] at h; exact h)
    have Xn : (Sg 0).next ≤ (XD E ops.toList σ.next F Sg (Dn (Array.replicate ops.size false)) 0).next := by rw [show (XD E ops.toList σ.next F Sg (Dn (Array.replicate ops.size false)) 0).next = (Sg 0).next from addAll_next _ _ _]; exact Nat.le_refl _
    refine ⟨by simp, ?_, Nat.zero_le _, ?_, ?_, r0.congr Xn fun b B _ h => hsub b B h, ?_, by rw [hS0]; simp, ?_, (Grow.refl _ _ _ _).congr Xn fun b B _ h => hsub b B h⟩
    · intro k o ho hk
      rw [hd k (by have := (List.getElem?_eq_some_iff.1 ho).1; omega)] at hk; cases hk
    · intro k o ho _
      rw [hd k (by have := (List.getElem?_eq_some_iff.1 ho).1; omega)]
      simp
    · intro d
      rw [← g1]
      exact (tv_upto (F := F) (V := V) (ops := ops.toList) (D := Dn (Array.replicate ops.size false)) (d := d) (i := 0) ops.size (Nat.zero_le _) fun t _ h _ => hd t h).symm
    · intro k hk hne
      cases hx : ρ (σ.next + k) with
      | none => exact absurd hx hne
      | some L => have := r.low _ _ hx
                  omega
    · rw [g1]
      exact f.grow r (Grow.drawn σ.next ρ σ w _)
  refine any_ok Sd ok hD H0 hwf (fun listed j ρ' t a' w' I hall => ?_) ops.size _ 0 ρ fr.tmps a _ ?_ I0
  · -- all of them taken
    have hj : j = pcnt E ops.toList ops.toList.length := by
      rcases Nat.lt_or_ge j (pcnt E ops.toList ops.toList.length) with h | h
      · obtain ⟨k, o, h1, h2, h3, h4⟩ := lt_pcnt (E := E) (l := ops.toList) (Nat.le_refl _) h
        have := (I.loud k o h2 h3).1 (hall k (by omega))
        omega
      · have := I.jJ; omega
    have Xn : (XD E ops.toList σ.next F Sg (Dn listed) j).next = (Sg j).next := addAll_next _ _ _
    obtain ⟨s1, s2⟩ := S_iff H0 ops.toList.length (Nat.le_refl _)
    rw [g4, ← hj] at s1
    have hsub : ∀ b B, ρ' b ≠ none → σ'.heap.get b = some B → (XD E ops.toList σ.next F Sg (Dn listed) j).heap.get b = some B := fun b B _ h => by
      rw [← g4] at h
      rw [XD_iff H0 I.jJ]
      rcases (s2 b B).1 h with h | ⟨t, h1, h2, h3, h4⟩
      · rw [← hj] at h; exact .inl h
      · exact .inr ⟨t, h1, h2, hall t (by omega), by omega, h4⟩
    have gfin := I.grow.congr (X' := σ') (by rw [Xn, s1]; exact Nat.le_refl _) hsub
    refine ⟨rfl, ρ', ?_, I.rel.congr (by rw [Xn, s1]; exact Nat.le_refl _) hsub, ?_⟩
    · have g0 : Grow σ.next ρ σ w ρ (Sg 0) { w with drawn := w.drawn + 1 } := (Grow.drawn σ.next ρ σ w _).congr (by rw [hS0]; exact Nat.le_add_right _ _) (fun b B _ h => by rw [hS0] at h; exact h)
      exact g0.trans gfin (Nat.le_refl _)
    · have hF0 : (F 0).defers = fr.defers ∧ (F 0).round = fr.round := by rw [g1]; exact ⟨rfl, rfl⟩
      have hend : ∀ k, k ≤ ops.size → (F k).defers = (F 0).defers ∧ (F k).round = (F 0).round := by
        intro k
        induction k with
        | zero => intro _; exact ⟨rfl, rfl⟩
        | succ k ih =>
          intro hk
          obtain ⟨o, b, ho, hb⟩ := bs_some H0 (k := k) (by omega)
          obtain ⟨q1, q2, _⟩ := fput_get (H0.step k o b ho hb).1
          have := ih (by omega)
          exact ⟨q1.trans this.1, q2.trans this.2⟩
      have he := hend ops.size (Nat.le_refl _)
      rw [hlen] at g3
      refine ⟨fun d => ?_, ?_, ?_, I.fr.size⟩
      · have h1 := I.fr.t d
        have h2 := F_tmps H0 d ops.size (by omega)
        have h3 := I.tmps d
        dsimp only at h1
        rw [h3, tv_congr (D' := fun _ => true) ops.size fun t ht _ => hall t ht, ← h2, g3] at h1
        exact h1
      · rw [← g3, he.2]; exact I.fr.round
      · rw [← g3, he.1]; exact I.fr.ds
  · have : ∀ k, left (Array.replicate ops.size false) k ≤ k := fun k => by
      induction k with
      | zero => simp [left]
      | succ k ih => simp only [left]; split <;> omega
    exact this _

/-- **THE ABSTRACT MACHINE IS SOUND.** -/
theorem sound {P : Program} {E : Env} (ok : EnvOk P E) (hD : 100 ≤ P.types.size + Made.depth) (k : Nat) : Sound P E (run E k) := Sound.run (draw_ok ok hD) ok hD k

end Go.AM
