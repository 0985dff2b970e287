/- The abstract machine's drawn regions, first part: what an operation looks at; values that are the same; what the run in the text's order leaves behind; what the order's check says. -/
import Derived.Test.YtpbgmoihgoeneaaGreatDoorAMRun3
import Derived.OrdersIn
namespace Go.AM
section
variable {E : Env}

/-! ## An operation looks at its operands alone -/

theorem ev_congr {t t' : T Value} {x : Operand} (h : ∀ d, x = .tmp d → t.get d = t'.get d) : ev t x = ev t' x := by
  cases x with
  | tmp d => simp only [ev, h d rfl]
  | _ => rfl

theorem mapL_congr {α β : Type} {f g : α → β} : ∀ {l : List α}, (∀ x ∈ l, f x = g x) → mapL f l = mapL g l
  | [], _ => rfl
  | x :: l, h => by simp only [mapL]; rw [h x (by simp), mapL_congr fun y hy => h y (by simp [hy])]

theorem optV_congr {t t' : T Value} {x : Option Operand} (h : ∀ y, x = some y → ev t y = ev t' y) : optV t x = optV t' x := by
  cases x with
  | none => rfl
  | some y => simp only [optV, h y rfl]

def Same (t t' : T Value) (o : Op) : Prop := ∀ x ∈ o.operands.toList, ev t x = ev t' x

theorem Same.parts {t t' : T Value} {ps : List (Nat × Operand)} (h : ∀ x ∈ ps.map (·.2), ev t x = ev t' x) : mapL (fun p => (p.1, ev t p.2)) ps = mapL (fun p => (p.1, ev t' p.2)) ps :=
  mapL_congr fun p hp => by rw [h p.2 (List.mem_map.2 ⟨p, hp, rfl⟩)]

theorem pureA_congr {t t' : T Value} {o : Op} (h : Same t t' o) : pureA E t o = pureA E t' o := by
  unfold Same at h
  cases o with
  | build ty ps => simp only [pureA]; rw [Same.parts fun x hx => h x (by simpa [Op.operands] using hx)]
  | makeFunc fn first captured =>
    have h1 := mapL_congr (f := ev t) (g := ev t') (l := first.toList) fun x hx => h x (by simp only [Op.operands, Array.toList_append]; exact List.mem_append_left _ hx)
    have h2 := mapL_congr (f := ev t) (g := ev t') (l := captured.toList) fun x hx => h x (by simp only [Op.operands, Array.toList_append]; exact List.mem_append_right _ hx)
    simp only [pureA, h1, h2]
  | slice ty x lo hi mx =>
    have h0 : ev t x = ev t' x := h x (by simp [Op.operands])
    have h1 : optV t lo = optV t' lo := optV_congr fun y e => h y (by subst e; simp [Op.operands])
    have h2 : optV t hi = optV t' hi := optV_congr fun y e => h y (by subst e; simp [Op.operands])
    have h3 : optV t mx = optV t' mx := optV_congr fun y e => h y (by subst e; simp [Op.operands])
    simp only [pureA, h0, h1, h2, h3]
  | _ =>
    simp only [Op.operands, List.mem_cons, List.not_mem_nil, or_false, forall_eq_or_imp, forall_eq, false_imp_iff, implies_true] at h
    simp only [pureA, h]

theorem call_args {t t' : T Value} {c : Call} (h : ∀ x ∈ c.operands.toList, ev t x = ev t' x) : mapL (ev t) c.args.toList = mapL (ev t') c.args.toList :=
  mapL_congr fun x hx => h x (by unfold Call.operands; cases c.callee <;> simp_all)

theorem readA_congr {t t' : T Value} {σ : St} {o : Op} (h : Same t t' o) : readA E t σ o = readA E t' σ o := by
  unfold Same at h
  cases o with
  | call c =>
    have := call_args (t := t) (t' := t') (c := c) (by simpa [Op.operands] using h)
    simp only [readA, this]
  | _ =>
    simp only [Op.operands, List.mem_cons, List.not_mem_nil, or_false, forall_eq_or_imp, forall_eq, false_imp_iff, implies_true] at h
    simp only [readA, h]

theorem allocA_congr {t t' : T Value} {o : Op} (h : Same t t' o) : allocA E t o = allocA E t' o := by
  unfold Same at h
  cases o with
  | buildSlice ty len ps => simp only [allocA]; rw [Same.parts fun x hx => h x (by simpa [Op.operands] using hx)]
  | makeMap ty r => cases r <;> simp only [allocA]
  | _ =>
    simp only [Op.operands, List.mem_cons, List.not_mem_nil, or_false, forall_eq_or_imp, forall_eq, false_imp_iff, implies_true] at h
    simp only [allocA, h]

theorem loudA_congr {t t' : T Value} {σ : St} {o : Op} (h : Same t t' o) : loudA E t σ o = loudA E t' σ o := by
  unfold Same at h
  cases o with
  | call c =>
    simp only [Op.operands] at h
    have h1 := call_args h
    obtain ⟨callee, args, ats⟩ := c
    simp only [loudA, callA]
    unfold Call.operands at h
    cases callee with
    | builtin b => simp only [h1]
    | _ => first
      | (rename_i x; have h2 : ev t x = ev t' x := h x (by simp); simp only [h1, h2])
      | (rename_i x y; have h2 : ev t x = ev t' x := h x (by simp); simp only [h1, h2])
      | simp only [h1]
  | defer c =>
    simp only [Op.operands] at h
    have h1 := call_args h
    obtain ⟨callee, args, ats⟩ := c
    simp only [loudA, deferA]
    unfold Call.operands at h
    cases callee with
    | builtin b => simp only [h1]
    | _ => first
      | (rename_i x; have h2 : ev t x = ev t' x := h x (by simp); simp only [h1, h2])
      | (rename_i x y; have h2 : ev t x = ev t' x := h x (by simp); simp only [h1, h2])
      | simp only [h1]
  | _ =>
    simp only [Op.operands, List.mem_cons, List.not_mem_nil, or_false, forall_eq_or_imp, forall_eq, false_imp_iff, implies_true] at h
    simp only [loudA, h]

theorem wantedA_congr {ops : List Oper} {t t' : T Value} {o : Oper} (h : ∀ d ∈ readsOf ops o, t.get d = t'.get d) : wantedA ops t o = wantedA ops t' o := by
  unfold wantedA
  unfold readsOf at h
  cases hg : o.guard with
  | none => rfl
  | some g =>
    obtain ⟨j, want⟩ := g
    rw [hg] at h
    dsimp only at h ⊢
    cases hn : nth ops j with
    | none => rfl
    | some oj =>
      rw [hn] at h
      dsimp only at h ⊢
      cases hd : oj.dst with
      | none => rfl
      | some d =>
        rw [hd] at h
        dsimp only at h ⊢
        rw [h d (by simp)]

theorem tmpsOf_mem {d : Nat} : ∀ {l : List Operand}, Operand.tmp d ∈ l → d ∈ tmpsOf l
  | [], h => by simp at h
  | x :: l, h => by
    rcases List.mem_cons.1 h with h | h
    · subst h; simp [tmpsOf]
    · have h' := tmpsOf_mem h
      cases x <;> first | exact h' | exact List.mem_cons_of_mem _ h'

theorem same_of_reads {ops : List Oper} {t t' : T Value} {o : Oper} (h : ∀ d ∈ readsOf ops o, t.get d = t'.get d) : Same t t' o.op := fun x hx =>
  ev_congr fun d e => h d (by
    subst e
    exact List.mem_append_right _ (tmpsOf_mem hx))

/-! ## The same -/
theorem bytes_ext {a b : ByteArray} (h : bytesEq a.data.toList b.data.toList = true) : a = b := by
  rw [bytesEq_eq] at h
  have h := eq_of_beq h
  cases a; cases b
  congr
  exact Array.toList_inj.1 h

mutual
theorem sameV_ok (a b : Value) (h : sameV a b = true) : a = b := by
  unfold sameV at h
  split at h <;> try simp only [Bool.and_eq_true, beq_iff_eq] at h
  · rw [h]
  · rw [h.1, h.2]
  · rw [bytes_ext h]
  · rfl
  · rw [h.1, h.2]
  · rw [h.1, h.2]
  · rw [h.1.1.1, h.1.1.2, h.1.2, h.2]
  · rw [h]
  · rename_i fn a c fn' a' c'
    rw [h.1.1, sameL_ok a a' h.1.2, sameL_ok c c' h.2]
  · rfl
  · rename_i t v t' v'
    rw [h.1, sameV_ok v v' h.2]
  · rfl
  · rename_i a b
    rw [sameL_ok a b h]
  · rename_i a b
    rw [sameL_ok a b h]
  · cases h
theorem sameL_ok (l m : List Value) (h : sameL l m = true) : l = m := by
  unfold sameL at h
  split at h
  · rfl
  · rename_i x l y m
    simp only [Bool.and_eq_true] at h
    rw [sameV_ok x y h.1, sameL_ok l m h.2]
  · cases h
end

theorem sameBlk_ok {a b : Blk} (h : sameBlk a b = true) : a = b := by
  unfold sameBlk at h
  split at h <;> try simp only [Bool.and_eq_true, beq_iff_eq] at h
  · rw [h.1.1, h.1.2, sameL_ok _ _ h.2]
  · rw [h]
  · cases h

/-! ## Counting -/

theorem cls_le (o : Op) : cls E o ≤ 3 := by
  cases o <;> simp only [cls] <;> try omega
  · split <;> omega
  · split <;> omega

/-- How many loud operations there are among the first k. -/
def pcnt (E : Env) : List Oper → Nat → Nat
  | _, 0 => 0
  | [], _ + 1 => 0
  | o :: l, k + 1 => (if cls E o.op = 3 then 1 else 0) + pcnt E l k

theorem pcnt_succ : ∀ {ops : List Oper} {k : Nat} {o : Oper}, ops[k]? = some o → pcnt E ops (k + 1) = pcnt E ops k + (if cls E o.op = 3 then 1 else 0)
  | [], k, o, h => by simp at h
  | x :: l, 0, o, h => by simp at h; subst h; cases l <;> simp [pcnt]
  | x :: l, k + 1, o, h => by
    have := pcnt_succ (ops := l) (k := k) (o := o) (by simpa using h)
    show (if cls E x.op = 3 then 1 else 0) + pcnt E l (k + 1) = (if cls E x.op = 3 then 1 else 0) + pcnt E l k + _
    omega

theorem pcnt_mono {ops : List Oper} {i k : Nat} (h : i ≤ k) (hk : k ≤ ops.length) : pcnt E ops i ≤ pcnt E ops k := by
  induction k with
  | zero => have : i = 0 := by omega
            subst this; exact Nat.le_refl _
  | succ k ih =>
    rcases Nat.lt_or_ge k i with h1 | h1
    · have : i = k + 1 := by omega
      subst this; exact Nat.le_refl _
    · have := pcnt_succ (E := E) (ops := ops) (k := k) (List.getElem?_eq_getElem (by omega))
      have := ih h1 (by omega)
      omega

theorem loudLo_le {b j : Nat} : ∀ (l : List Oper) (i q acc : Nat), acc ≤ j → (∀ k o, l[k]? = some o → cls E o.op = 3 → b.testBit (i + k) = true → q + pcnt E l k + 1 ≤ j) → loudLo E b l i q acc ≤ j
  | [], i, q, acc, h, _ => h
  | o :: l, i, q, acc, h, hk => by
    unfold loudLo
    split
    · rename_i hc
      have hc : cls E o.op = 3 := by simpa using hc
      refine loudLo_le l (i + 1) (q + 1) _ ?_ fun k o' h1 h2 h3 => ?_
      · split
        · rename_i hb
          have := hk 0 o rfl hc (by simpa using hb)
          simpa [pcnt] using this
        · exact h
      · have := hk (k + 1) o' (by simpa using h1) h2 (by rw [← h3]; congr 1; omega)
        simp only [pcnt, hc, if_true] at this
        omega
    · rename_i hc
      have hc : ¬ cls E o.op = 3 := by simpa using hc
      refine loudLo_le l (i + 1) q _ h fun k o' h1 h2 h3 => ?_
      have := hk (k + 1) o' (by simpa using h1) h2 (by rw [← h3]; congr 1; omega)
      simp only [pcnt, hc, if_false] at this
      omega

theorem le_loudHi {i j : Nat} : ∀ (l : List Oper) (bs : List Nat) (q : Nat), bs.length = l.length → j ≤ q + pcnt E l l.length → (∀ (k : Nat) o b, l[k]? = some o → bs[k]? = some b → cls E o.op = 3 → b.testBit i = true → j ≤ q + pcnt E l k) → j ≤ loudHi E i l bs q
  | [], bs, q, _, h, _ => by simpa [loudHi, pcnt] using h
  | o :: l, [], q, hl, _, _ => by simp at hl
  | o :: l, b :: bs, q, hl, h, hk => by
    unfold loudHi
    simp only [List.length_cons, pcnt] at h hl
    split
    · rename_i hc
      have hc : cls E o.op = 3 := by simpa using hc
      split
      · rename_i hb
        have := hk 0 o b rfl rfl hc hb
        simpa [pcnt] using this
      · refine le_loudHi l bs (q + 1) (by omega) (by rw [if_pos hc] at h; omega) fun k o' b' h1 h2 h3 h4 => ?_
        have := hk (k + 1) o' b' (by simpa using h1) (by simpa using h2) h3 h4
        simp only [pcnt, hc, if_true] at this
        omega
    · rename_i hc
      have hc : ¬ cls E o.op = 3 := by simpa using hc
      refine le_loudHi l bs q (by omega) (by rw [if_neg hc] at h; omega) fun k o' b' h1 h2 h3 h4 => ?_
      have := hk (k + 1) o' b' (by simpa using h1) (by simpa using h2) h3 h4
      simp only [pcnt, hc, if_false] at this
      omega

/-! ## Orders -/

/-- What the check of a region's order says. -/
structure Ords (E : Env) (ops : List Oper) (bs : List Nat) : Prop where
  len : bs.length = ops.length
  edge : ∀ (k : Nat) o, ops[k]? = some o → ∀ e ∈ o.after.toList, Region.binds .any e = true → e.on < k
  bits : ∀ (k : Nat) o b t, ops[k]? = some o → bs[k]? = some b → b.testBit t = true → ∃ e ∈ o.after.toList, Region.binds .any e = true ∧ (e.on = t ∨ ∃ b', bs[e.on]? = some b' ∧ b'.testBit t = true)
  keep : ∀ (i k : Nat) oi ok b, i < k → ops[i]? = some oi → ops[k]? = some ok → bs[k]? = some b → mustKeep E ops oi ok = true → b.testBit i = true

def bitsOf (acc : List Nat) (o : Oper) : Nat := o.after.toList.foldl (fun s e => if Region.binds .any e then s ||| 2 ^ e.on ||| (nth acc e.on).getD 0 else s) 0

theorem beforeL_eq : ∀ (l : List Oper) (acc : List Nat), ∃ out, beforeL l acc = acc ++ out ∧ out.length = l.length ∧ ∀ (k : Nat) o, l[k]? = some o → out[k]? = some (bitsOf (acc ++ out.take k) o)
  | [], acc => ⟨[], by simp [beforeL], rfl, by simp⟩
  | o :: l, acc => by
    obtain ⟨out, h1, h2, h3⟩ := beforeL_eq l (acc ++ [bitsOf acc o])
    refine ⟨bitsOf acc o :: out, ?_, by simp [h2], ?_⟩
    · show beforeL l (acc ++ [bitsOf acc o]) = _
      rw [h1]; simp
    · intro k o' hk
      cases k with
      | zero => simp at hk; subst hk; simp
      | succ k =>
        have := h3 k o' (by simpa using hk)
        simpa using this

theorem bitsOf_spec (acc : List Nat) (o : Oper) (t : Nat) (h : (bitsOf acc o).testBit t = true) : ∃ e ∈ o.after.toList, Region.binds .any e = true ∧ (e.on = t ∨ ∃ b', acc[e.on]? = some b' ∧ b'.testBit t = true) := by
  have gen : ∀ (l : List Edge) (s : Nat), (l.foldl (fun s e => if Region.binds .any e then s ||| 2 ^ e.on ||| (nth acc e.on).getD 0 else s) s).testBit t = true →
      s.testBit t = true ∨ ∃ e ∈ l, Region.binds .any e = true ∧ (e.on = t ∨ ∃ b', acc[e.on]? = some b' ∧ b'.testBit t = true) := by
    intro l
    induction l with
    | nil => intro s h; exact .inl h
    | cons e l ih =>
      intro s h
      rw [List.foldl_cons] at h
      rcases ih _ h with h1 | ⟨e', h2, h3⟩
      · split at h1
        · rename_i hb
          rw [Nat.testBit_or, Nat.testBit_or, Nat.testBit_two_pow] at h1
          simp only [Bool.or_eq_true, decide_eq_true_eq] at h1
          rcases h1 with (h1 | h1) | h1
          · exact .inl h1
          · exact .inr ⟨e, by simp, hb, .inl h1⟩
          · rw [nth_eq] at h1
            cases hx : acc[e.on]? with
            | none => rw [hx] at h1; simp at h1
            | some b' => rw [hx] at h1; exact .inr ⟨e, by simp, hb, .inr ⟨b', hx, h1⟩⟩
        · exact .inl h1
      · exact .inr ⟨e', by simp [h2], h3⟩
  rcases gen _ 0 h with h1 | h1
  · simp at h1
  · exact h1

theorem keptAll_spec {ops : List Oper} {oj : Oper} {bj : Nat} : ∀ (l : List Oper) (i0 : Nat), keptAll E ops oj bj l i0 = true → ∀ (i : Nat) oi, l[i]? = some oi → mustKeep E ops oi oj = true → bj.testBit (i0 + i) = true
  | [], i0, _, i, oi, h, _ => by simp at h
  | o :: l, i0, hk, i, oi, h, hm => by
    simp only [keptAll] at hk
    split at hk
    · cases hk
    · rename_i hb
      cases i with
      | zero =>
        simp at h; subst h
        simp only [hm, Bool.true_and, Bool.not_eq_true', Bool.not_eq_false] at hb
        simpa using hb
      | succ i =>
        have := keptAll_spec l (i0 + 1) hk i oi (by simpa using h) hm
        rw [← this]; congr 1; omega

theorem edgesOk_spec {j : Nat} : ∀ (l : List Edge), edgesOk j l = true → ∀ e ∈ l, Region.binds .any e = true → e.on < j
  | [], _, e, he, _ => by simp at he
  | x :: l, h, e, he, hb => by
    simp only [edgesOk, Bool.and_eq_true, Bool.or_eq_true, Bool.not_eq_true', decide_eq_true_eq] at h
    rcases List.mem_cons.1 he with rfl | he
    · rcases h.1 with h1 | h1
      · rw [hb] at h1; cases h1
      · exact h1
    · exact edgesOk_spec l h.2 e he hb

theorem regionOk_spec {ops : List Oper} : ∀ (rest : List Oper) (bs : List Nat) (seen : List Oper) (j : Nat), j = seen.length → regionOkFrom E ops rest bs seen j = true →
    ∀ (k : Nat) o b, rest[k]? = some o → bs[k]? = some b → edgesOk (j + k) o.after.toList = true ∧ keptAll E ops o b (seen ++ rest.take k) 0 = true
  | [], bs, seen, j, _, _, k, o, b, h, _ => by simp at h
  | x :: rest, [], seen, j, _, h, k, o, b, _, hb => by simp at hb
  | x :: rest, c :: bs, seen, j, hj, h, k, o, b, ho, hb => by
    simp only [regionOkFrom, Bool.and_eq_true] at h
    cases k with
    | zero =>
      simp at ho hb; subst ho; subst hb
      exact ⟨h.1.1, by simpa using h.1.2⟩
    | succ k =>
      have := regionOk_spec rest bs (seen ++ [x]) (j + 1) (by simp [hj]) h.2 k o b (by simpa using ho) (by simpa using hb)
      refine ⟨by rw [show j + (k + 1) = j + 1 + k by omega]; exact this.1, by simpa using this.2⟩

theorem ords {ops : List Oper} (h : regionOk E ops = true) : Ords E ops (beforeL ops []) := by
  obtain ⟨out, h1, h2, h3⟩ := beforeL_eq ops []
  simp only [List.nil_append] at h1 h3
  rw [h1]
  unfold regionOk at h
  rw [h1] at h
  have spec := regionOk_spec ops out [] 0 rfl h
  have some_of : ∀ (k : Nat) o, ops[k]? = some o → ∃ b, out[k]? = some b := fun k o hk => ⟨_, h3 k o hk⟩
  have edge : ∀ (k : Nat) o, ops[k]? = some o → ∀ e ∈ o.after.toList, Region.binds .any e = true → e.on < k := fun k o hk e he hb => by
    obtain ⟨b, hb'⟩ := some_of k o hk
    have := edgesOk_spec _ (spec k o b hk hb').1 e he hb
    omega
  refine ⟨h2, edge, fun k o b t hk hb ht => ?_, fun i k oi ok b hik hi hk hb hm => ?_⟩
  · have e := h3 k o hk
    rw [hb] at e
    cases e
    obtain ⟨e, g1, g2, g3⟩ := bitsOf_spec _ o t ht
    refine ⟨e, g1, g2, g3.imp id ?_⟩
    rintro ⟨b', g4, g5⟩
    refine ⟨b', ?_, g5⟩
    have := edge k o hk e g1 g2
    rwa [List.getElem?_take, if_pos this] at g4
  · have := (spec k ok b hk hb).2
    simp only [List.nil_append] at this
    have := keptAll_spec _ 0 this i oi (by rw [List.getElem?_take, if_pos hik]; exact hi) hm
    simpa using this
end
end Go.AM
