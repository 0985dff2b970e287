/- The abstract machine's other operations that write memory, and its calls: each is the model's. -/
import Derived.Test.YtpbgmoihgoeneaaGreatDoorAMAppend
namespace Go.AM
section
variable {P : Program} {E : Env} {ρ : Map} {G : Nat} {σ : St} {w : World}

theorem copy_ok (ok : EnvOk P E) (r : Rel G ρ σ w) {dType : TypeId} {d d' x x' v : Value} {σ' : St} (hd : VRel ρ d d') (hx : VRel ρ x x') (h : copyA E σ dType d x = .ok (v, σ'))
    (ts args : Array _) (hts0 : ts[0]? = some dType) (ha0 : args[0]? = some d') (ha1 : args[1]? = some x') (ty : TypeId) :
    ∃ v' w', (Builtin.copy_ ts ty args).run P w = .ok v' w' ∧ Rel G ρ σ' w' ∧ (∀ N, Grow N ρ σ w ρ σ' w') ∧ VRel ρ v v' := by
  unfold copyA at h
  replace h := bind_ok h
  obtain ⟨⟨e, j⟩, hej, h⟩ := h
  unfold elemTI at hej
  replace hej := bind_ok hej
  obtain ⟨i, hi, hej⟩ := hej
  split at hej
  case h_2 => cases hej
  rename_i e' hund
  replace hej := map_ok hej
  obtain ⟨j', hj, hej⟩ := hej
  cases hej
  have hu := run_und ok (ti_ok hi) w
  have hsz := run_size ok (ti_ok hj) w
  dsimp only at h
  split at h
  case h_2 => cases h
  rename_i base dLen dCap
  replace h := bind_ok h
  obtain ⟨sl, hsl, h⟩ := h
  have hlen := srcLen_ok (P := P) hx hsl w
  have hmin : Nat.min sl dLen = if sl ≤ dLen then sl else dLen := by
    split
    · exact Nat.min_eq_left ‹_›
    · exact Nat.min_eq_right (by omega)
  rw [← hmin] at h
  split at h
  · rename_i hn0
    cases h
    have hfirst : (Builtin.firstCells j.size 0 x').run P w = .ok #[] w := by
      unfold srcLen at hsl
      split at hsl
      · cases hx <;> simp [Builtin.firstCells, loadCells, loadCellsFrom]
      · cases hx; simp [Builtin.firstCells]
      · cases hsl
    have hb : ∃ base' c', d' = .slice base' dLen c' := by cases hd <;> exact ⟨_, _, rfl⟩
    obtain ⟨base', c', rfl⟩ := hb
    refine ⟨.int .i64 0, w, ?_, r, fun N => Grow.refl _ _ _ _, .int _ _⟩
    cases base' <;> simp [Builtin.copy_, hts0, ha0, ha1, hu, hund, hlen, hn0, hsz, hfirst, storeCells, goInt]
  · rename_i hn0
    replace h := bind_ok h
    obtain ⟨cs, hcs, h⟩ := h
    obtain ⟨g1, cs', g2, g3⟩ := srcCells_ok (P := P) r hx hsl (Nat.min_le_left _ _) hcs
    split at h
    · rename_i a
      replace h := map_ok h
      obtain ⟨σ1, hw, h⟩ := h
      cases h
      have fin : ∀ b o L c', a = ⟨b, o, none⟩ → ρ b = some L → d' = .slice (some ⟨L.blk, L.sh + o, none⟩) dLen c' →
          ∃ v' w', (Builtin.copy_ ts ty args).run P w = .ok v' w' ∧ Rel G ρ σ' w' ∧ (∀ N, Grow N ρ σ w ρ σ' w') ∧ VRel ρ (goInt (Nat.min sl dLen)) v' := by
        rintro b o L c' rfl hL rfl
        obtain ⟨w', f1, f2, f3⟩ := writeN_ok (P := P) r hL g2 hw
        refine ⟨goInt (Nat.min sl dLen), w', ?_, f2, f3, .int _ _⟩
        simp [Builtin.copy_, hts0, ha0, ha1, hu, hund, hlen, hsz, g3 w rfl, f1]
      cases hd with
      | slice hc hL => exact fin _ _ _ _ rfl hL rfl
      | grow hL h1 h2 => exact fin _ _ _ _ rfl hL rfl
      | grow0 => exact absurd (Nat.le_zero.1 (Nat.min_le_right sl 0)) hn0
      | zero => exact absurd (Nat.le_zero.1 (Nat.min_le_right sl 0)) hn0
    · cases h

/-! ## Maps that are written -/

theorem findNow_get {kind : TypeDesc} {k : Value} : ∀ {es : List MapEntry} {n i : Nat} {v : Value}, Instr.findNow kind k es n = some (some (i, v)) → n ≤ i ∧ ∃ e, es[i - n]? = some e ∧ Instr.sameNow kind k e.key = some true
  | [], n, i, v, h => by simp [Instr.findNow] at h
  | e :: es, n, i, v, h => by
    simp only [Instr.findNow] at h
    split at h
    · rename_i hs
      cases h
      exact ⟨Nat.le_refl _, e, by simp, hs⟩
    · obtain ⟨g1, e', g2, g3⟩ := findNow_get h
      refine ⟨by omega, e', ?_, g3⟩
      rw [show i - n = (i - (n + 1)) + 1 from by omega]
      simpa using g2
    · cases h

theorem sameBits_of {kind : TypeDesc} {a b : Value} (h : Instr.sameNow kind a b = some true) : Instr.sameBits 10000 b a = true := by
  generalize 10000 = D
  unfold Instr.sameNow at h
  split at h
  · split at h
    · rename_i hk
      subst hk
      have := Option.some.inj h
      have := eq_of_beq this
      subst this
      cases D <;> simp [Instr.sameBits]
    · cases h
  · have := Option.some.inj h
    rename_i a b
    rw [byteArray_beq] at this
    have hab := ByteArray.ext (Array.toList_inj.1 (eq_of_beq this))
    subst hab
    have hself : (a == a) = true := by rw [byteArray_beq]; simp
    cases D <;> simp [Instr.sameBits, hself]
  · have := Option.some.inj h
    have := eq_of_beq this
    subst this
    cases D <;> simp [Instr.sameBits]
  · cases h

theorem ERel.modNth {l l' : List MapEntry} (h : ERel ρ l l') {f g : MapEntry → MapEntry} (hfg : ∀ e e', VRel ρ e.key e'.key → VRel ρ e.val e'.val → e.born = e'.born →
    VRel ρ (f e).key (g e').key ∧ VRel ρ (f e).val (g e').val ∧ (f e).born = (g e').born) (n : Nat) : ERel ρ (modNth f l n) (l'.modify n g) := by
  induction h generalizing n with
  | nil => simpa [AM.modNth] using ERel.nil
  | @cons e e' l l' h1 h2 h3 h4 ih =>
    cases n with
    | zero =>
      obtain ⟨a, b, c⟩ := hfg e e' h1 h2 h3
      simpa [AM.modNth] using ERel.cons a b c h4
    | succ n => simpa [AM.modNth] using ERel.cons h1 h2 h3 (ih n)

theorem ERel.snoc {l l' : List MapEntry} (h : ERel ρ l l') {e e' : MapEntry} (h1 : VRel ρ e.key e'.key) (h2 : VRel ρ e.val e'.val) (h3 : e.born = e'.born) : ERel ρ (l ++ [e]) (l' ++ [e']) := by
  induction h with
  | nil => exact .cons h1 h2 h3 .nil
  | cons a b c _ ih => exact .cons a b c ih

theorem ERel.erase {l l' : List MapEntry} (h : ERel ρ l l') (n : Nat) : ERel ρ (eraseNth l n) (l'.eraseIdx n) := by
  induction h generalizing n with
  | nil => simpa [eraseNth] using ERel.nil
  | cons a b c h4 ih =>
    cases n with
    | zero => simpa [eraseNth] using h4
    | succ n => simpa [eraseNth] using ERel.cons a b c (ih n)

theorem mapUpdate_ok (ok : EnvOk P E) (r : Rel G ρ σ w) {t : TypeId} {x x' k k' v v' : Value} {σ' : St} (hx : VRel ρ x x') (hk : VRel ρ k k') (hv : VRel ρ v v') (h : mapUpdateA E σ t x k v = .ok σ') :
    ∃ w', (Instr.mapUpdate t x' k' v').run P w = .ok () w' ∧ Rel G ρ σ' w' ∧ ∀ N, Grow N ρ σ w ρ σ' w' := by
  unfold mapUpdateA at h
  replace h := bind_ok h
  obtain ⟨⟨ki, ei⟩, hm, h⟩ := h
  replace h := bind_ok h
  obtain ⟨⟨⟩, hkk, h⟩ := h
  obtain ⟨i, kt, e, h1, h2, h3, h4⟩ := mapTI_ok hm
  have hu := run_und ok h1 w
  have hku := run_und ok h3 w
  have hck := fun b => checkKey_ok ok h3 hk hkk b w
  split at h
  · rename_i m
    replace h := bind_ok h
    obtain ⟨⟨es, c⟩, hes, h⟩ := h
    replace h := bind_ok h
    obtain ⟨q, hq, h⟩ := h
    cases hx with
    | @map _ L hL =>
      obtain ⟨hbk, es', f1, f2⟩ := mapAt_ok r hL hes
      obtain ⟨q', hf, hr⟩ := findE_ok hk hkk f2 hq
      have hget := run_getObj (P := P) w _ _ f1 (by simp)
      have hset := fun O' => run_setObj (P := P) w _ _ O' f1 (by simp)
      cases q with
      | none =>
        cases q' with
        | some _ => exact hr.elim
        | none =>
          dsimp only at h
          rw [setBlk_eq] at h; cases h
          have ho : ORel G ρ (.map (es ++ [{ key := k, val := v, born := c }]) (c + 1)) L (.map (es'.push { key := k', val := v', born := c }) (c + 1)) :=
            ⟨_, rfl, by simpa using f2.snoc (e := { key := k, val := v, born := c }) (e' := { key := k', val := v', born := c }) hk hv rfl⟩
          obtain ⟨u1, u2⟩ := r.update hbk hL rfl f1 ho
          exact ⟨_, by simp [Instr.mapUpdate, hu, h2, hget, hck, Instr.findKey, hku, hf, hset], u1, u2⟩
      | some p =>
        obtain ⟨pi, pv⟩ := p
        cases q' with
        | none => exact hr.elim
        | some p' =>
          obtain ⟨pi', pv'⟩ := p'
          obtain ⟨rfl, hpv⟩ := hr
          dsimp only at h
          rw [setBlk_eq] at h; cases h
          obtain ⟨_, e0, he0, hsame⟩ := findNow_get hf
          have he0' : es'[pi]? = some e0 := by simpa using he0
          have hbits := sameBits_of hsame
          have ho : ORel G ρ (.map (modNth (fun e => { e with key := k, val := v }) es pi) c) L (.map (es'.modify pi fun e => { e with key := k', val := v' }) c) :=
            ⟨_, rfl, by simpa using f2.modNth (f := fun e => { e with key := k, val := v }) (g := fun e => { e with key := k', val := v' }) (fun e e' _ _ h3 => ⟨hk, hv, h3⟩) pi⟩
          obtain ⟨u1, u2⟩ := r.update hbk hL rfl f1 ho
          exact ⟨_, by simp [Instr.mapUpdate, hu, h2, hget, hck, Instr.findKey, hku, hf, hset, he0', Instr.keyThatStays, hbits], u1, u2⟩
  · cases h

theorem delete_ok (ok : EnvOk P E) (r : Rel G ρ σ w) {t : TypeId} {x x' k k' : Value} {σ' : St} (hx : VRel ρ x x') (hk : VRel ρ k k') (h : deleteA E σ t x k = .ok σ')
    (ts args : Array _) (hts0 : ts[0]? = some t) (ha0 : args[0]? = some x') (ha1 : args[1]? = some k') (ty : TypeId) :
    ∃ w', (Builtin.delete_ ts ty args).run P w = .ok (.tuple #[]) w' ∧ Rel G ρ σ' w' ∧ ∀ N, Grow N ρ σ w ρ σ' w' := by
  unfold deleteA at h
  replace h := bind_ok h
  obtain ⟨⟨ki, ei⟩, hm, h⟩ := h
  replace h := bind_ok h
  obtain ⟨⟨⟩, hkk, h⟩ := h
  obtain ⟨i, kt, e, h1, h2, h3, h4⟩ := mapTI_ok hm
  have hu := run_und ok h1 w
  have hku := run_und ok h3 w
  have hck := fun b => checkKey_ok ok h3 hk hkk b w
  split at h
  · cases h; cases hx
    exact ⟨w, by simp [Builtin.delete_, hts0, ha0, ha1, hu, h2, hck], r, fun N => Grow.refl _ _ _ _⟩
  · rename_i m
    replace h := bind_ok h
    obtain ⟨⟨es, c⟩, hes, h⟩ := h
    replace h := bind_ok h
    obtain ⟨q, hq, h⟩ := h
    cases hx with
    | @map _ L hL =>
      obtain ⟨hbk, es', f1, f2⟩ := mapAt_ok r hL hes
      obtain ⟨q', hf, hr⟩ := findE_ok hk hkk f2 hq
      have hget := run_getObj (P := P) w _ _ f1 (by simp)
      have hset := fun O' => run_setObj (P := P) w _ _ O' f1 (by simp)
      cases q with
      | none =>
        cases q' with
        | some _ => exact hr.elim
        | none =>
          cases h
          exact ⟨w, by simp [Builtin.delete_, hts0, ha0, ha1, hu, h2, hget, hck, Instr.findKey, hku, hf, hset, wset_same f1], r, fun N => Grow.refl _ _ _ _⟩
      | some p =>
        obtain ⟨pi, pv⟩ := p
        cases q' with
        | none => exact hr.elim
        | some p' =>
          obtain ⟨pi', pv'⟩ := p'
          obtain ⟨rfl, hpv⟩ := hr
          dsimp only at h
          rw [setBlk_eq] at h; cases h
          have ho : ORel G ρ (.map (eraseNth es pi) c) L (.map (es'.eraseIdxIfInBounds pi) c) :=
            ⟨_, rfl, by
              have h5 := f2.erase pi
              have h6 : (es'.eraseIdxIfInBounds pi).toList = es'.toList.eraseIdx pi := by
                unfold Array.eraseIdxIfInBounds
                split
                · simp
                · rename_i hlt
                  rw [List.eraseIdx_of_length_le (by simpa using hlt)]
              rw [h6]; exact h5⟩
          obtain ⟨u1, u2⟩ := r.update hbk hL rfl f1 ho
          exact ⟨_, by simp [Builtin.delete_, hts0, ha0, ha1, hu, h2, hget, hck, Instr.findKey, hku, hf, hset], u1, u2⟩
  · cases h

/-! ## Ranges, and bytes that become shared -/

theorem range_ok (ok : EnvOk P E) (r : Rel G ρ σ w) {t : TypeId} {x x' v : Value} {σ' : St} (hx : VRel ρ x x') (h : rangeA E σ t x = .ok (v, σ')) :
    ∃ v' ρ' w', (Instr.range t x').run P w = .ok v' w' ∧ Rel G ρ' σ' w' ∧ Grow σ.next ρ σ w ρ' σ' w' ∧ VRel ρ' v v' := by
  unfold rangeA at h
  replace h := bind_ok h
  obtain ⟨i, hi, h⟩ := h
  replace h := bind_ok h
  obtain ⟨B, hB, h⟩ := h
  replace h := bind_ok h
  obtain ⟨⟨n, σ1⟩, hn, h⟩ := h
  cases h
  obtain ⟨rfl, rfl⟩ := newBlk_inv hn
  have hu := run_und ok (ti_ok hi) w
  have fin : ∀ O, (Instr.range t x').run P w = .ok (.pointer (some ⟨w.heap.size, 0, none⟩)) (wpush w O) → (∀ ρ', Sub ρ ρ' → ORel G ρ' B ⟨w.heap.size, 0, 0⟩ O) →
      ∃ v' ρ' w', (Instr.range t x').run P w = .ok v' w' ∧ Rel G ρ' ⟨T.setF (σ.next + 1) σ.heap σ.next (some B), σ.next + 1⟩ w' ∧
        Grow σ.next ρ σ w ρ' ⟨T.setF (σ.next + 1) σ.heap σ.next (some B), σ.next + 1⟩ w' ∧ VRel ρ' (.pointer (some ⟨σ.next, 0, none⟩)) v' := by
    intro O hrun ho
    obtain ⟨r2, g2⟩ := r.alloc r.fresh (σ.next + 1) (Nat.lt_succ_self _) (Nat.le_succ _) 0 (ho (addρ ρ σ.next ⟨w.heap.size, 0, 0⟩) (addρ_sub _ r.fresh))
    exact ⟨_, _, _, hrun, r2, g2 _ (Nat.le_refl _), by simpa using VRel.ptr (o := 0) (addρ_same ρ σ.next ⟨w.heap.size, 0, 0⟩)⟩
  split at hB
  · rename_i s hund
    cases hB; cases hx
    exact fin (.stringIter s 0) (by simp [Instr.range, hu, hund]; rfl) (fun ρ' _ => ⟨rfl, rfl⟩)
  · rename_i hund
    cases hB; cases hx
    exact fin (.mapIter none 0 #[] 0) (by simp [Instr.range, hu, hund]; rfl) (fun ρ' _ => ⟨none, rfl, rfl, .nilMap⟩)
  · rename_i m hund
    replace hB := map_ok hB
    obtain ⟨⟨es, c⟩, hm, rfl⟩ := hB
    cases hx with
    | map hL =>
      obtain ⟨_, es', f1, f2⟩ := mapAt_ok r hL hm
      have hget := run_getObj (P := P) w _ _ f1 (by simp)
      exact fin (.mapIter (some _) c #[] c) (by simp [Instr.range, hu, hund, hget]; rfl) (fun ρ' hs => ⟨_, rfl, rfl, .map (hs _ _ hL)⟩)
  · cases hB

theorem next_ok (r : Rel G ρ σ w) {x x' v : Value} {b : Bool} {σ' : St} (hx : VRel ρ x x') (h : nextA σ x b = .ok (v, σ')) (ty : TypeId) :
    ∃ v' w', (Instr.next x' b ty).run P w = .ok v' w' ∧ Rel G ρ σ' w' ∧ (∀ N, Grow N ρ σ w ρ σ' w') ∧ VRel ρ v v' := by
  unfold nextA at h
  split at h
  case h_2 => cases h
  rename_i it
  cases hx with
  | @ptr _ _ L hL =>
    split at h
    · rename_i s pos hb
      obtain ⟨O, f1, rfl, hsh⟩ := r.blk it _ L hb hL
      have hget := run_getObj (P := P) w _ _ f1 (by simp)
      have hset := fun O' => run_setObj (P := P) w _ _ O' f1 (by simp)
      have hlen : s.data.toList.length = s.size := Array.length_toList
      rw [hlen] at h
      split at h
      · rename_i hlt
        split at h
        rename_i cc width hdec
        rw [forceN_eq] at h
        simp only [ok_bind] at h
        rw [setBlk_eq] at h
        cases h
        obtain ⟨u1, u2⟩ := r.update (B' := .siter s (pos + width)) (O' := .stringIter s (pos + width)) hb hL rfl f1 ⟨rfl, hsh⟩
        refine ⟨.tuple #[.bool true, goInt pos, .int .i32 cc], _, ?_, u1, u2, .tuple (.cons (.bool _) (.cons (.int _ _) (.cons (.int _ _) .nil)))⟩
        simp [Instr.next, hsh, hget, hlt, hdec, hset]
      · rename_i hlt
        cases h
        refine ⟨.tuple #[.bool false], w, ?_, r, fun N => Grow.refl _ _ _ _, .tuple (.cons (.bool _) .nil)⟩
        simp [Instr.next, hsh, hget, hlt]
    · rename_i since seen last hb
      cases h
      obtain ⟨O, f1, m', rfl, hsh, hm⟩ := r.blk it _ L hb hL
      cases hm
      have hget := run_getObj (P := P) w _ _ f1 (by simp)
      refine ⟨.tuple #[.bool false], w, ?_, r, fun N => Grow.refl _ _ _ _, .tuple (.cons (.bool _) .nil)⟩
      simp [Instr.next, hsh, hget]
    · rename_i m since seen last hb
      obtain ⟨O, f1, m', rfl, hsh, hm⟩ := r.blk it _ L hb hL
      replace h := bind_ok h
      obtain ⟨⟨es, clock⟩, hes, h⟩ := h
      cases hm with
      | @map _ LM hLM =>
        obtain ⟨-, es', f2, f3⟩ := mapAt_ok r hLM hes
        have hget := run_getObj (P := P) w _ _ f1 (by simp)
        have hget2 := run_getObj (P := P) w _ _ f2 (by simp)
        have hset := fun O' => run_setObj (P := P) w _ _ O' f1 (by simp)
        dsimp only at h
        split at h
        · split at h
          · rename_i hse
            cases h
            have hes0 : es'.toList = [] := by cases hl : es'.toList with
              | nil => rfl
              | cons _ _ => rw [hl] at f3; cases f3
            have hes1 : es' = #[] := Array.toList_inj.1 hes0
            have hseen : seen = [] := by simpa using hse
            subst hes1; subst hseen
            refine ⟨.tuple #[.bool false], w, ?_, r, fun N => Grow.refl _ _ _ _, .tuple (.cons (.bool _) .nil)⟩
            simp [Instr.next, hsh, hget, hget2, Question.forced]
          · cases h
        · rename_i e0
          split at h
          · rename_i hborn
            cases hl : es'.toList with
            | nil => rw [hl] at f3; cases f3
            | cons e1 l1 =>
              rw [hl] at f3
              cases f3 with
              | cons g1 g2 g3 g4 =>
                cases g4
                have hes1 : es' = #[e1] := Array.toList_inj.1 (by rw [hl])
                subst hes1
                split at h
                · rename_i hse
                  have hseen : seen = [] := by simpa using hse
                  subst hseen
                  rw [setBlk_eq] at h
                  cases h
                  obtain ⟨u1, u2⟩ := r.update (B' := .miter (some m) since [e0.born] clock) (O' := .mapIter (some LM.blk) since #[e0.born] clock) hb hL rfl f1 ⟨_, rfl, hsh, .map hLM⟩
                  refine ⟨.tuple #[.bool true, e1.key, e1.val], _, ?_, u1, u2, .tuple (.cons (.bool _) (.cons g1 (.cons g2 .nil)))⟩
                  have hb1 : e1.born < since := by rw [← g3]; exact hborn
                  have hb2 : ¬ (since ≤ e1.born) := by omega
                  simp [Instr.next, hsh, hget, hget2, hb1, hb2, Question.forced, hset, g3]
                · rename_i hse
                  split at h
                  · rename_i hse2
                    cases h
                    have hseen : seen = [e0.born] ∧ e0.born < last := by simpa using hse2
                    obtain ⟨rfl, hlast⟩ := hseen
                    rw [g3] at hlast
                    refine ⟨.tuple #[.bool false], w, ?_, r, fun N => Grow.refl _ _ _ _, .tuple (.cons (.bool _) .nil)⟩
                    have hlast' : ¬ (last ≤ e1.born) := by omega
                    simp [Instr.next, hsh, hget, hget2, Question.forced, g3, hlast']
                  · cases h
          · cases h
        · cases h
    · cases h

theorem convertSlice_ok (ok : EnvOk P E) (r : Rel G ρ σ w) {src dst : TypeId} {x x' v : Value} (hx : VRel ρ x x') (h : convertSliceA E σ src dst x = .ok v) :
    ∃ v' w', (convert src dst x').run P w = .ok v' w' ∧ Rel G ρ σ w' ∧ (∀ N, Grow N ρ σ w ρ σ w') ∧ VRel ρ v v' := by
  unfold convertSliceA at h
  replace h := bind_ok h
  obtain ⟨j, hj, h⟩ := h
  split at h
  case h_2 => cases h
  rename_i e a n c hund
  replace h := bind_ok h
  obtain ⟨ej, hej, h⟩ := h
  split at h
  case h_2 => cases h
  rename_i hu8
  split at h
  case isFalse => cases h
  rename_i hcond
  have hcond' : src = dst ∧ n ≠ 0 := by simpa using hcond
  obtain ⟨rfl, hn⟩ := hcond'
  replace h := bind_ok h
  obtain ⟨⟨cs, ce, ro⟩, hc, h⟩ := h
  dsimp only at h
  split at h
  · cases h
  rename_i hro
  have hro' : ro = false := by simpa using hro
  subst hro'
  cases h
  have hb := cellsAt_ok hc
  have huj := run_und ok (ti_ok hj) w
  have hue := run_und ok (ti_ok hej) w
  have fin : ∀ b o L c', a = ⟨b, o, none⟩ → ρ b = some L → x' = .slice (some ⟨L.blk, L.sh + o, none⟩) n c' → ∃ v' w', (convert src src x').run P w = .ok v' w' ∧ Rel G ρ σ w' ∧ (∀ N, Grow N ρ σ w ρ σ w') ∧ VRel ρ (.slice (some a) n c) v' := by
    rintro b o L c' rfl hL rfl
    obtain ⟨O, f1, C, fe, fz, rfl, h2, h3⟩ := r.blk b _ L hb hL
    obtain ⟨q1, q2, q3⟩ := h3 rfl
    have hm := run_markStringish (P := P) f1 (L.sh + o)
    have ho : ORel G ρ (.cells cs ce false) L (.cells C fe (if fz.1 == fz.2 then (C.size, C.size + 1) else (min fz.1 C.size, max fz.2 (C.size + 1)))) := by
      refine ⟨C, fe, _, rfl, h2, fun _ => ⟨q1, q2, ?_⟩⟩
      split
      · right; exact q1
      · rename_i hne
        have hne' : fz.1 ≠ fz.2 := by simpa using hne
        right
        have := q3.resolve_left hne'
        simp only [Nat.le_min]
        exact ⟨this, q1⟩
    have hput : ∀ (N : Nat), put σ b (some (.cells cs ce false)) = put σ b (some (.cells cs ce false)) := fun _ => rfl
    obtain ⟨u1, u2⟩ := r.update hb hL rfl f1 ho
    obtain ⟨v1, v2⟩ := r.same hb u1 u2
    exact ⟨_, _, by simp [convert, huj, hund, hue, hu8, hm], v1, v2, hx⟩
  cases hx with
  | slice hc hL => exact fin _ _ _ _ rfl hL rfl
  | grow hL h1 h2 => exact fin _ _ _ _ rfl hL rfl
  | grow0 => exact absurd rfl hn
  | zero => exact absurd rfl hn
end
end Go.AM
