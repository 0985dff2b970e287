/- The abstract machine's operations that read memory: each is the model's. -/
import Derived.Test.YtpbgmoihgoeneaaGreatDoorAMOps3
namespace Go.AM
section
variable {P : Program} {E : Env} {ρ : Map} {G : Nat} {σ : St} {w : World}

theorem takeExact_ok {α : Type} : ∀ {n : Nat} {l vs : List α}, takeExact n l = .ok vs → vs.length = n ∧ ∀ (j : Nat) v, vs[j]? = some v → l[j]? = some v
  | 0, l, vs, h => by cases l <;> (simp [takeExact] at h; subst h; simp)
  | n + 1, [], vs, h => by simp [takeExact, bad] at h
  | n + 1, x :: l, vs, h => by
    simp only [takeExact] at h
    replace h := map_ok h
    obtain ⟨vs', h1, rfl⟩ := h
    obtain ⟨g1, g2⟩ := takeExact_ok h1
    refine ⟨by simp [g1], fun j v hj => ?_⟩
    cases j with
    | zero => simpa using hj
    | succ j => simpa using g2 j v (by simpa using hj)

theorem cellsAt_ok {b : Nat} {c : List Value} {e : TypeId} {ro : Bool} (h : cellsAt σ b = .ok (c, e, ro)) : σ.heap.get b = some (.cells c e ro) := by
  unfold cellsAt at h
  split at h
  · cases h; assumption
  · cases h

theorem readN_ok (r : Rel G ρ σ w) {b o n : Nat} {L : Loc} (hL : ρ b = some L) {vs : List Value} (h : readN σ ⟨b, o, none⟩ n = .ok vs) :
    vs.length = n ∧ ∃ C e fz vs', w.heap[L.blk]? = some (.cells C e fz) ∧ LRel ρ vs vs' ∧ ∀ (j : Nat) v, vs'[j]? = some v → C[L.sh + o + j]? = some v := by
  unfold readN at h
  simp only [Option.isSome_none, Bool.false_eq_true, if_false] at h
  replace h := bind_ok h
  obtain ⟨⟨c, e, ro⟩, hc, h⟩ := h
  have hb := cellsAt_ok hc
  obtain ⟨g1, g2⟩ := takeExact_ok h
  obtain ⟨O, h1, C, e', fz, rfl, h2, h3⟩ := r.blk b _ L hb hL
  refine ⟨g1, C, e', fz, ?_⟩
  have hv : ∀ (j : Nat), j < n → ∃ v v', vs[j]? = some v ∧ C[L.sh + o + j]? = some v' ∧ VRel ρ v v' := by
    intro j hj
    have hj' : j < vs.length := by omega
    have e1 : vs[j]? = some vs[j] := by simp [hj']
    have e2 := g2 j _ e1
    rw [List.getElem?_drop] at e2
    obtain ⟨v', e3, e4⟩ := h2 _ _ e2
    exact ⟨_, v', e1, by rw [Nat.add_assoc]; exact e3, e4⟩
  refine ⟨(List.range n).map fun j => (C[L.sh + o + j]?).getD undef, h1, ?_, ?_⟩
  · refine LRel.of_get (by simp [g1]) ?_
    intro i x y hx hy
    have hi : i < n := by
      rcases Nat.lt_or_ge i n with h' | h'
      · exact h'
      · simp [h'] at hy
    obtain ⟨v, v', f1, f2, f3⟩ := hv i hi
    simp [hi, f2] at hy
    rw [f1] at hx; cases hx; subst hy; exact f3
  · intro j v hj
    have hi : j < n := by
      rcases Nat.lt_or_ge j n with h' | h'
      · exact h'
      · simp [h'] at hj
    obtain ⟨_, v', f1, f2, f3⟩ := hv j hi
    simp [hi, f2] at hj
    subst hj; exact f2

theorem run_readN (r : Rel G ρ σ w) {b o n : Nat} {L : Loc} (hL : ρ b = some L) {vs : List Value} (h : readN σ ⟨b, o, none⟩ n = .ok vs) :
    vs.length = n ∧ ∃ vs', LRel ρ vs vs' ∧ ∀ w' : World, w'.heap = w.heap → (loadCells ⟨L.blk, L.sh + o, none⟩ n).run P w' = .ok vs'.toArray w' := by
  obtain ⟨g1, C, e, fz, vs', h1, h2, h3⟩ := readN_ok r hL h
  exact ⟨g1, vs', h2, fun w' hw => run_loadCells (by rw [hw]; exact h1) _ n vs' (by rw [← h2.length, g1]) h3⟩

theorem readN_zero {a : Addr} {vs : List Value} (h : readN σ a 0 = .ok vs) : vs = [] := by
  unfold readN at h
  split at h
  · cases h
  · replace h := bind_ok h
    obtain ⟨⟨c, e, ro⟩, hc, h⟩ := h
    exact List.eq_nil_of_length_eq_zero (takeExact_ok h).1

theorem loadVar_ok (ok : EnvOk P E) (r : Rel G ρ σ w) {t : TypeId} {b o : Nat} {L : Loc} (hL : ρ b = some L) {v : Value} (h : loadVarA E σ t ⟨b, o, none⟩ = .ok v) :
    ∃ v', VRel ρ v v' ∧ (loadVar t ⟨L.blk, L.sh + o, none⟩).run P w = .ok v' w := by
  unfold loadVarA at h
  replace h := bind_ok h
  obtain ⟨i, hi, h⟩ := h
  have ha := run_agg ok (ti_ok hi) w
  have hz := run_size ok (ti_ok hi) w
  split at h
  · rename_i hagg
    replace h := map_ok h
    obtain ⟨vs, h1, rfl⟩ := h
    obtain ⟨g1, vs', g2, g3⟩ := run_readN (P := P) r hL h1
    refine ⟨.agg vs'.toArray, .agg (by simpa [mkAgg] using g2), ?_⟩
    simp [loadVar, ha, hz, hagg, g3 w rfl]
  · rename_i hagg
    replace h := bind_ok h
    obtain ⟨vs, h1, h⟩ := h
    obtain ⟨g1, C, e, fz, vs', f1, f2, f3⟩ := readN_ok r hL h1
    split at h
    · cases h
      cases f2 with
      | cons q1 q2 =>
        rename_i y m
        cases q2
        refine ⟨y, q1, ?_⟩
        have := f3 0 y rfl
        simp only [Nat.add_zero] at this
        simp [loadVar, ha, hagg, cell_of f1, this]
    · cases h

/-! ## Maps -/

theorem keyEq_ok {k e k' e' : Value} {b : Bool} (hk : VRel ρ k k') (he : VRel ρ e e') {i : TI} (hkk : keyKind i k = .ok ()) (h : keyEq k e = .ok b) : Instr.sameNow i.und k' e' = some b := by
  unfold keyKind at hkk
  unfold keyEq at h
  split at h
  · cases hk; cases he
    split at h
    · rename_i hq; cases h
      split at hkk <;> simp_all [Instr.sameNow, bad]
    · cases h
  · cases hk; cases he
    cases h
    split at hkk <;> simp_all [Instr.sameNow, bad, bytesEq_eq, byteArray_beq]
  · cases hk; cases he
    cases h
    split at hkk <;> simp_all [Instr.sameNow, bad]
  · cases h

def FRel (ρ : Map) : Option (Nat × Value) → Option (Nat × Value) → Prop
  | none, none => True
  | some (i, v), some (j, u) => i = j ∧ VRel ρ v u
  | _, _ => False

theorem findE_ok {k k' : Value} (hk : VRel ρ k k') {i : TI} (hkk : keyKind i k = .ok ()) : ∀ {es es' : List MapEntry} (_ : ERel ρ es es') {n : Nat} {r : Option (Nat × Value)}, findE k es n = .ok r →
    ∃ r', Instr.findNow i.und k' es' n = some r' ∧ FRel ρ r r' := by
  intro es es' hr
  induction hr with
  | nil => intro n r h; simp [findE] at h; subst h; exact ⟨none, rfl, trivial⟩
  | @cons e e' l l' h1 h2 h3 _ ih =>
    intro n r h
    simp only [findE] at h
    replace h := bind_ok h
    obtain ⟨b, hb, h⟩ := h
    have := keyEq_ok hk h1 hkk hb
    split at h
    · rename_i hbt; subst hbt; cases h
      exact ⟨some (n, e'.val), by simp [Instr.findNow, this], rfl, h2⟩
    · rename_i hbf
      have hbf' : b = false := by simpa using hbf
      subst hbf'
      obtain ⟨r', g1, g2⟩ := ih h
      exact ⟨r', by simp [Instr.findNow, this, g1], g2⟩

theorem keyKind_inv {i : TI} {k : Value} (h : keyKind i k = .ok ()) : (∃ kk kk' n, i.und = .int kk ∧ k = .int kk' n) ∨ (∃ s, i.und = .string ∧ k = .string s) ∨ (∃ b, i.und = .bool ∧ k = .bool b) := by
  unfold keyKind at h
  split at h
  · exact .inl ⟨_, _, _, ‹_›, rfl⟩
  · exact .inr (.inl ⟨_, ‹_›, rfl⟩)
  · exact .inr (.inr ⟨_, ‹_›, rfl⟩)
  · cases h

theorem checkKey_ok (ok : EnvOk P E) {i : TI} {t : TypeId} (hi : E.ty t = some i) {k k' : Value} (hk : VRel ρ k k') (hkk : keyKind i k = .ok ()) (b : Bool) (w : World) : (Instr.checkKey b 10000 t k').run P w = .ok () w := by
  have hu := run_und ok hi w
  generalize hD : 10000 = D
  obtain ⟨D', rfl⟩ : ∃ k, D = k + 1 := ⟨9999, by omega⟩
  rcases keyKind_inv hkk with ⟨a, b, n, h1, rfl⟩ | ⟨s, h1, rfl⟩ | ⟨s, h1, rfl⟩ <;> cases hk <;> (rw [Instr.checkKey]; simp [hu, h1])

theorem mapAt_ok (r : Rel G ρ σ w) {m : Nat} {L : Loc} (hL : ρ m = some L) {es : List MapEntry} {n : Nat} (h : mapAt σ m = .ok (es, n)) :
    σ.heap.get m = some (.map es n) ∧ ∃ es', w.heap[L.blk]? = some (.map es' n) ∧ ERel ρ es es'.toList := by
  unfold mapAt at h
  split at h
  · rename_i hb
    cases h
    obtain ⟨O, h1, es', rfl, h2⟩ := r.blk m _ L hb hL
    exact ⟨hb, es', h1, h2⟩
  · cases h

theorem run_getObj (w : World) (b : Nat) (O : Obj) (h : w.heap[b]? = some O) (hn : ∀ C e fz, O ≠ .cells C e fz) : (getObj b).run P w = .ok O w := by
  unfold getObj
  simp only [Sem.run, h]

theorem run_setObj (w : World) (b : Nat) (O O' : Obj) (h : w.heap[b]? = some O) (hn : ∀ C e fz, O ≠ .cells C e fz) : (setObj b O').run P w = .ok () (wset w b O') := by
  unfold setObj
  simp only [Sem.run, h]
  cases O <;> first | exact absurd rfl (hn _ _ _) | rfl

theorem mapTI_ok {t : TypeId} {ki ei : TI} (h : mapTI E t = .ok (ki, ei)) : ∃ i k e, E.ty t = some i ∧ i.und = .map k e ∧ E.ty k = some ki ∧ E.ty e = some ei := by
  unfold mapTI at h
  replace h := bind_ok h
  obtain ⟨i, hi, h⟩ := h
  split at h
  · rename_i k e hund
    replace h := bind_ok h
    obtain ⟨ki', hk, h⟩ := h
    replace h := map_ok h
    obtain ⟨ei', he, h⟩ := h
    cases h
    exact ⟨i, k, e, ti_ok hi, hund, ti_ok hk, ti_ok he⟩
  · cases h

theorem lookup_ok (ok : EnvOk P E) (r : Rel G ρ σ w) {t : TypeId} {x x' ix ix' : Value} {b : Bool} {v : Value} (hx : VRel ρ x x') (hix : VRel ρ ix ix') (h : lookupA E σ t x ix b = .ok v) :
    ∃ v', VRel ρ v v' ∧ (Instr.lookup t x' ix' b).run P w = .ok v' w := by
  unfold lookupA at h
  replace h := bind_ok h
  obtain ⟨⟨ki, ei⟩, hm, h⟩ := h
  replace h := bind_ok h
  obtain ⟨⟨⟩, hkk, h⟩ := h
  replace h := bind_ok h
  obtain ⟨z, hz, h⟩ := h
  replace h := map_ok h
  obtain ⟨q, hq, h⟩ := h
  obtain ⟨i, k, e, h1, h2, h3, h4⟩ := mapTI_ok hm
  have hu := run_und ok h1 w
  have hku := run_und ok h3 w
  have hzr := run_zero ok h4 hz w
  have hck := fun b => checkKey_ok ok h3 hix hkk b w
  split at hq
  · cases hq
    cases hx
    dsimp only at h
    subst h
    refine ⟨if b then .tuple #[z, .bool false] else z, ?_, ?_⟩
    · cases b
      · exact zero_rel ρ hz
      · exact .tuple (.cons (zero_rel ρ hz) (.cons (.bool _) .nil))
    · simp [Instr.lookup, hu, h2, hck, Instr.findKey, hku, hzr, Instr.findNow]
  · rename_i m
    replace hq := bind_ok hq
    obtain ⟨⟨es, n⟩, hes, hq⟩ := hq
    cases hx with
    | map hL =>
      obtain ⟨_, es', f1, f2⟩ := mapAt_ok r hL hes
      obtain ⟨q', hf, hr⟩ := findE_ok hix hkk f2 hq
      have hget := run_getObj (P := P) w _ _ f1 (by simp)
      cases q with
      | none =>
        cases q' with
        | none =>
          subst h
          refine ⟨if b then .tuple #[z, .bool false] else z, ?_, by simp [Instr.lookup, hu, h2, hget, hck, Instr.findKey, hku, hf, hzr]⟩
          cases b
          · exact zero_rel ρ hz
          · exact .tuple (.cons (zero_rel ρ hz) (.cons (.bool _) .nil))
        | some _ => exact hr.elim
      | some p =>
        obtain ⟨pi, pv⟩ := p
        cases q' with
        | none => exact hr.elim
        | some p' =>
          obtain ⟨pi', pv'⟩ := p'
          subst h
          refine ⟨if b then .tuple #[pv', .bool true] else pv', ?_, by simp [Instr.lookup, hu, h2, hget, hck, Instr.findKey, hku, hf]⟩
          cases b
          · exact hr.2
          · exact .tuple (.cons hr.2 (.cons (.bool _) .nil))
  · cases hq

/-! ## Bytes -/

theorem bytes_loop {f : Value → ByteArray → Sem (ForInStep ByteArray)} (hf : ∀ n s w, (f (.int .u8 n) s).run P w = .ok (.yield (s.push (UInt8.ofNat n.toNat))) w) :
    ∀ (cs : List Value) (l : List UInt8), mapE byteOf cs = .ok l → ∀ (s : ByteArray) (w : World), ((forIn cs s f : Sem ByteArray)).run P w = .ok ⟨(s.data.toList ++ l).toArray⟩ w
  | [], l, h, s, w => by
    simp [mapE] at h; subst h
    simp
  | c :: cs, l, h, s, w => by
    simp only [mapE] at h
    replace h := bind_ok h
    obtain ⟨b, hb, h⟩ := h
    replace h := map_ok h
    obtain ⟨l', hl, rfl⟩ := h
    unfold byteOf at hb
    split at hb
    · rename_i n
      cases hb
      simp only [List.forIn_cons, Sem.run_bind, hf, Result.andThen_ok]
      rw [bytes_loop hf cs l' hl]
      simp [ByteArray.push]
    · cases hb

theorem mapE_rel {l l' : List Value} {m : List UInt8} (hr : LRel ρ l l') (h : mapE byteOf l = .ok m) : mapE byteOf l' = .ok m := by
  induction l generalizing l' m with
  | nil => cases hr; exact h
  | cons x l ih =>
    cases hr with
    | cons h1 h2 =>
      simp only [mapE] at h ⊢
      replace h := bind_ok h
      obtain ⟨b, hb, h⟩ := h
      replace h := map_ok h
      obtain ⟨m', hm, rfl⟩ := h
      unfold byteOf at hb
      split at hb
      · cases h1
        simp only [byteOf]
        cases hb
        rw [ih h2 hm]; rfl
      · cases hb

theorem bytesToString_ok (r : Rel G ρ σ w) {x x' : Value} {l : List UInt8} (hx : VRel ρ x x') (hns : ∀ s, x ≠ .string s) (h : bytesAt σ x = .ok l) : (Conv.bytesToString x').run P w = .ok (.string ⟨l.toArray⟩) w := by
  unfold bytesAt at h
  split at h
  · exact absurd rfl (hns _)
  · cases h; cases hx; simp [Conv.bytesToString]; rfl
  · rename_i a n c
    replace h := bind_ok h
    obtain ⟨cs, h1, h2⟩ := h
    have main : ∀ b o L, a = ⟨b, o, none⟩ → ρ b = some L → ∀ c', (Conv.bytesToString (.slice (some ⟨L.blk, L.sh + o, none⟩) n c')).run P w = .ok (.string ⟨l.toArray⟩) w := by
      rintro b o L rfl hL c'
      obtain ⟨g1, cs', g2, g3⟩ := run_readN (P := P) r hL h1
      simp only [Conv.bytesToString, Sem.run_bind, g3 w rfl, Result.andThen_ok]
      rw [← Array.forIn_toList, bytes_loop (P := P) (fun _ _ _ => rfl) cs' l (mapE_rel g2 h2) .empty w]
      simp
    cases hx with
    | slice hc hL => exact main _ _ _ rfl hL _
    | grow hL _ _ => exact main _ _ _ rfl hL _
    | grow0 => have := readN_zero h1; subst this; simp [mapE] at h2; subst h2; simp [Conv.bytesToString, loadCells, loadCellsFrom]; rfl
    | zero => have := readN_zero h1; subst this; simp [mapE] at h2; subst h2; simp [Conv.bytesToString, loadCells, loadCellsFrom]; rfl
  · cases h

theorem convert_ok (ok : EnvOk P E) (r : Rel G ρ σ w) {src dst : TypeId} {x x' : Value} {v : Value} (hx : VRel ρ x x') (h : convertA E σ src dst x = .ok v) :
    ∃ v', VRel ρ v v' ∧ (convert src dst x').run P w = .ok v' w := by
  unfold convertA at h
  replace h := bind_ok h
  obtain ⟨i, hi, h⟩ := h
  replace h := bind_ok h
  obtain ⟨j, hj, h⟩ := h
  have hui := run_und ok (ti_ok hi) w
  have huj := run_und ok (ti_ok hj) w
  split at h
  · rename_i k k' n hund
    cases hx; cases h
    refine ⟨_, .int _ _, ?_⟩
    simp [convert, hui, huj, hund, Conv.intToInt, wrapF_eq]
  · rename_i k' n hund
    cases hx; cases h
    refine ⟨_, .string _, ?_⟩
    simp [convert, hui, huj, hund, Conv.intToString]
  · rename_i s hund
    cases hx; cases h
    refine ⟨_, .string _, ?_⟩
    simp [convert, hui, huj, hund]
  · rename_i x _ _ _ e h1 h2 hn1 hn2
    replace h := bind_ok h
    obtain ⟨ej, hej, h⟩ := h
    have hue := run_und ok (ti_ok hej) w
    split at h
    · rename_i hk
      replace h := map_ok h
      obtain ⟨l, hl, rfl⟩ := h
      have hns : ∀ s, x ≠ .string s := fun s => hn2 s
      have := bytesToString_ok (P := P) r hx hns hl
      refine ⟨_, .string _, ?_⟩
      simp only [convert, Sem.run_bind, hui, huj, Result.andThen_ok, h1, h2]
      cases hx <;> first
        | exact absurd rfl (hn1 _ _)
        | exact absurd rfl (hn2 _)
        | (simp [hue, hk, this])
    · cases h
  · cases h

/-! ## len, min, max -/

theorem len_ok (ok : EnvOk P E) (r : Rel G ρ σ w) {t : TypeId} {x x' : Value} {v : Value} (hx : VRel ρ x x') (h : lenA E t σ x = .ok v) (ts : Array TypeId) (ht : ts[0]? = some t) (args : Array Value)
    (ha : args[0]? = some x') : ∃ v', VRel ρ v v' ∧ ∀ ty, (Builtin.len_ ts ty args).run P w = .ok v' w := by
  unfold lenA at h
  replace h := bind_ok h
  obtain ⟨i, hi, h⟩ := h
  have hu := run_und ok (ti_ok hi) w
  split at h
  · rename_i s hund
    cases hx; cases h
    refine ⟨_, .int _ _, fun ty => ?_⟩
    have hs : s.data.toList.length = s.size := Array.length_toList
    simp [Builtin.len_, ht, ha, hu, hund, hs]
    rfl
  · rename_i n e hund
    cases h
    refine ⟨_, .int _ _, fun ty => ?_⟩
    simp [Builtin.len_, ht, ha, hu, hund]
    rfl
  · rename_i e a n c hund
    cases h
    have : ∃ a' c', x' = .slice a' n c' := by cases hx <;> exact ⟨_, _, rfl⟩
    obtain ⟨a', c', rfl⟩ := this
    refine ⟨_, .int _ _, fun ty => ?_⟩
    simp [Builtin.len_, ht, ha, hu, hund]
    rfl
  · rename_i hund
    cases hx; cases h
    refine ⟨_, .int _ _, fun ty => ?_⟩
    simp [Builtin.len_, ht, ha, hu, hund]
    rfl
  · rename_i m hund
    replace h := map_ok h
    obtain ⟨⟨es, n⟩, hm, rfl⟩ := h
    cases hx with
    | map hL =>
      obtain ⟨_, es', f1, f2⟩ := mapAt_ok r hL hm
      have hget := run_getObj (P := P) w _ _ f1 (by simp)
      have hlen : es.length = es'.size := by
        have : ∀ {a b : List MapEntry}, ERel ρ a b → a.length = b.length := by
          intro a b hab
          induction hab with
          | nil => rfl
          | cons _ _ _ _ ih => simp [ih]
        rw [this f2]; simp
      refine ⟨_, .int _ _, fun ty => ?_⟩
      simp [Builtin.len_, ht, ha, hu, hund, hget, hlen]
      rfl
  · cases h

theorem fold_ok {f : Value → Value → M Value} {g : Value → Value → Sem Value} (hfg : ∀ x y x' y' v, VRel ρ x x' → VRel ρ y y' → f x y = .ok v → ∃ v', VRel ρ v v' ∧ (g x' y').run P w = .ok v' w) :
    ∀ {l l' : List Value} (_ : LRel ρ l l') {x x' v : Value} (_ : VRel ρ x x') (_ : foldE f x l = .ok v), ∃ v', VRel ρ v v' ∧ (l'.foldlM g x').run P w = .ok v' w := by
  intro l
  induction l with
  | nil => intro l' hl x x' v hx h; cases hl; simp [foldE] at h; subst h; exact ⟨x', hx, rfl⟩
  | cons y l ih =>
    intro l' hl x x' v hx h
    cases hl with
    | cons h1 h2 =>
      simp only [foldE] at h
      replace h := bind_ok h
      obtain ⟨z, hz, h⟩ := h
      obtain ⟨z', g1, g2⟩ := hfg _ _ _ _ _ hx h1 hz
      obtain ⟨v', g3, g4⟩ := ih h2 g1 h
      exact ⟨v', g3, by simp [g2, g4]⟩

theorem min2_ok {x y x' y' v : Value} (hx : VRel ρ x x') (hy : VRel ρ y y') (h : min2A x y = .ok v) : ∃ v', VRel ρ v v' ∧ (Builtin.min2 x' y').run P w = .ok v' w := by
  unfold min2A at h
  split at h
  · cases hx; cases hy; cases h; exact ⟨_, .int _ _, rfl⟩
  · cases h
theorem max2_ok {x y x' y' v : Value} (hx : VRel ρ x x') (hy : VRel ρ y y') (h : max2A x y = .ok v) : ∃ v', VRel ρ v v' ∧ (Builtin.max2 x' y').run P w = .ok v' w := by
  unfold max2A at h
  split at h
  · cases hx; cases hy; cases h; exact ⟨_, .int _ _, rfl⟩
  · cases h

theorem quietBuiltin_ok (ok : EnvOk P E) (r : Rel G ρ σ w) {b : Builtin} {ts : Array TypeId} {args : List Value} {args' : Array Value} (ha : LRel ρ args args'.toList) {v : Value}
    (h : quietBuiltinA E b ts.toList args σ = .ok v)   : ∃ v', VRel ρ v v' ∧ ∀ ty cs, (builtin b ts ty cs args').run P w = .ok (.value v') w := by
  unfold quietBuiltinA at h
  split at h
  · rename_i t ts' x args hts
    cases ha' : args'.toList with
    | nil => rw [ha'] at ha; cases ha
    | cons x' l' =>
      rw [ha'] at ha
      cases ha with
      | cons h1 h2 =>
        have hts0 : ts[0]? = some t := by
          have : ts.toList[0]? = some t := by rw [hts]; rfl
          simpa using this
        have ha0 : args'[0]? = some x' := by
          have : args'.toList[0]? = some x' := by rw [ha']; rfl
          simpa using this
        obtain ⟨v', g1, g2⟩ := len_ok ok r h1 h ts hts0 args' ha0
        exact ⟨v', g1, fun ty cs => by simp [builtin, g2]⟩
  · rename_i x args
    cases ha' : args'.toList with
    | nil => rw [ha'] at ha; cases ha
    | cons x' l' =>
      rw [ha'] at ha
      cases ha with
      | cons h1 h2 =>
        obtain ⟨v', g1, g2⟩ := fold_ok (P := P) (w := w) (g := Builtin.min2) (fun _ _ _ _ _ a b c => min2_ok a b c) h2 h1 h
        exact ⟨v', g1, fun ty cs => by simp [builtin, Builtin.min_, ha', g2]⟩
  · rename_i x args
    cases ha' : args'.toList with
    | nil => rw [ha'] at ha; cases ha
    | cons x' l' =>
      rw [ha'] at ha
      cases ha with
      | cons h1 h2 =>
        obtain ⟨v', g1, g2⟩ := fold_ok (P := P) (w := w) (g := Builtin.max2) (fun _ _ _ _ _ a b c => max2_ok a b c) h2 h1 h
        exact ⟨v', g1, fun ty cs => by simp [builtin, Builtin.max_, ha', g2]⟩
  · cases h

/-- AN OPERATION THAT READS MEMORY. -/
theorem read_ok (ok : EnvOk P E) (r : Rel E.G ρ σ w) {t : T Value} {a : Act} (ht : TRel ρ t a.tmps) {o : Oper} (hc : allL (closedO E.G) o.op.operands.toList = true) {v : Value}
    (h : readA E t σ o.op = .ok v) : ∃ v', VRel ρ v v' ∧ (execOp a.eval o).run P w = .ok (.value v') w := by
  have hg := r.glob
  obtain ⟨dst, op, type, pos, after, guard⟩ := o
  dsimp only at hc h
  have val : ∀ (s : Sem Value), (∃ v', VRel ρ v v' ∧ s.run P w = .ok v' w) → ∃ v', VRel ρ v v' ∧ (do pure (Next.value (← s)) : Sem Next).run P w = .ok (.value v') w := by
    rintro s ⟨v', h1, h2⟩
    exact ⟨v', h1, by simp [h2]⟩
  cases op <;> simp only [readA, bad] at h <;> try (cases h; done)
  case load ty x =>
    simp only [Op.operands, allL, Bool.and_eq_true] at hc
    replace h := bind_ok h
    obtain ⟨ad, had, h⟩ := h
    obtain ⟨b, o, L, rfl, _, hL, hx'⟩ := addrOf_ok (ev_rel hg ht hc.1) had
    refine val _ ?_
    obtain ⟨v', g1, g2⟩ := loadVar_ok ok r hL h
    exact ⟨v', g1, by simp [Instr.loadAt, hx', Instr.sureAddr, g2]⟩
  case lookup ty x ix b =>
    simp only [Op.operands, allL, Bool.and_eq_true] at hc
    exact val _ (lookup_ok ok r (ev_rel hg ht hc.1) (ev_rel hg ht hc.2.1) h)
  case convert src dst x =>
    simp only [Op.operands, allL, Bool.and_eq_true] at hc
    exact val _ (convert_ok ok r (ev_rel hg ht hc.1) h)
  case call c =>
    obtain ⟨callee, args, ats⟩ := c
    dsimp only at h
    split at h
    · rename_i _ b
      simp only [Op.operands, Call.operands] at hc
      have hc' : allL (closedO E.G) args.toList = true := allL_of fun x hx => allL_mem hc (by simp [hx])
      have := quietBuiltin_ok ok r (args' := args.map a.eval) (by simpa using evs_rel hg ht hc') h
      obtain ⟨v', g1, g2⟩ := this
      exact ⟨v', g1, by simp [execOp, resolve, invoke, g2]⟩
    · cases h

end
end Go.AM
