/- The abstract machine's append is the model's. -/
import Derived.Test.YtpbgmoihgoeneaaGreatDoorAMLoud
namespace Go.AM
section
variable {P : Program} {E : Env} {ρ : Map} {G : Nat} {σ : St} {w : World}

theorem newBlk_inv {σ σ' : St} {B : Blk} {n : Nat} (h : newBlk σ B = .ok (n, σ')) : n = σ.next ∧ σ' = ⟨T.setF (σ.next + 1) σ.heap σ.next (some B), σ.next + 1⟩ := by
  rw [newBlk_eq] at h; cases h; exact ⟨rfl, rfl⟩

theorem takeExact_all {α : Type} : ∀ (n : Nat) (l : List α), l.length = n → takeExact n l = .ok l
  | 0, l, h => by have := List.eq_nil_of_length_eq_zero h; subst this; rfl
  | n + 1, [], h => by simp at h
  | n + 1, x :: l, h => by simp only [takeExact]; rw [takeExact_all n l (by simpa using h)]; rfl

theorem repl_length {α : Type} (m : Nat) (zs : List α) : (repl m zs).length = m * zs.length := by
  induction m with
  | zero => simp [repl]
  | succ m ih => simp [repl, ih, Nat.add_mul]; omega

/-- A new array that append makes. -/
theorem append_made (r : Rel G ρ σ w) {cs cs' : List Value} {rest : List Value} {e : TypeId} (hc : LRel ρ cs cs') {n cap sz : Nat} (hn : cs.length = n * sz) (hcap : n ≤ cap) (hrest : rest.length = (cap - n) * sz) {σ' : St} {b : Nat}
    (hb : newBlk σ (.cells cs e false) = .ok (b, σ')) {k : Nat} (s : Sem Value)
    (hs : s.run P w = .ok (.slice (some ⟨w.heap.size, 0, none⟩) n cap) (wpush { w with drawn := k } (.cells (cs' ++ rest).toArray e))) :
    ∃ v' ρ' w', s.run P w = .ok v' w' ∧ Rel G ρ' σ' w' ∧ Grow σ.next ρ σ w ρ' σ' w' ∧ VRel ρ' (.slice (some ⟨b, 0, none⟩) n (GROW + sz)) v' := by
  obtain ⟨rfl, rfl⟩ := newBlk_inv hb
  have r1 := r.drawn k
  have g1 := Grow.drawn σ.next ρ σ w k
  have ho : ORel G (addρ ρ σ.next ⟨w.heap.size, 0, (cs' ++ rest).length⟩) (.cells cs e false) ⟨w.heap.size, 0, (cs' ++ rest).length⟩ (.cells (cs' ++ rest).toArray e (0, 0)) :=
    orel_cells (hc.mono (addρ_sub _ r.fresh)) (.inl rfl)
  obtain ⟨r2, g2⟩ := r1.alloc r.fresh (σ.next + 1) (Nat.lt_succ_self _) (Nat.le_succ _) _ ho
  refine ⟨_, _, _, hs, r2, g1.trans (g2 σ.next (Nat.le_refl _)) (Nat.le_refl _), ?_⟩
  have hl := hc.length
  have := VRel.grow (ρ := addρ ρ σ.next ⟨w.heap.size, 0, (cs' ++ rest).length⟩) (b := σ.next) (o := 0) (n := n) (c := cap) (e := sz) (addρ_same _ _ _) hcap (by
    simp only [List.length_append]
    have : cap * sz = n * sz + (cap - n) * sz := by rw [← Nat.add_mul]; congr 1; omega
    omega)
  simpa using this

theorem append_ok (ok : EnvOk P E) (r : Rel G ρ σ w) {sType xType : TypeId} {s s' x x' v : Value} {σ' : St} (hs : VRel ρ s s') (hx : VRel ρ x x') (h : appendA E σ sType xType s x = .ok (v, σ'))
    (ts args : Array _) (hts0 : ts[0]? = some sType) (hts1 : ts[1]? = some xType) (ha0 : args[0]? = some s') (ha1 : args[1]? = some x') (ty : TypeId) :
    ∃ v' ρ' w', (Builtin.append_ ts ty args).run P w = .ok v' w' ∧ Rel G ρ' σ' w' ∧ Grow σ.next ρ σ w ρ' σ' w' ∧ VRel ρ' v v' := by
  unfold appendA at h
  replace h := bind_ok h
  obtain ⟨⟨e, j⟩, hej, h⟩ := h
  replace h := bind_ok h
  obtain ⟨z, hz, h⟩ := h
  unfold elemTI at hej
  replace hej := bind_ok hej
  obtain ⟨i, hi, hej⟩ := hej
  split at hej
  case h_2 => cases hej
  rename_i e' hund
  replace hej := map_ok hej
  obtain ⟨j', hj, hej⟩ := hej
  cases hej
  split at h
  · cases h
  rename_i hcond
  have hpos : 0 < j.size ∧ 0 < j.bytes ∧ (vcells z).length = j.size := by
    simp only [Bool.or_eq_true, decide_eq_true_eq, not_or] at hcond
    refine ⟨by omega, by omega, by simpa using hcond.2⟩
  have hzc : vcells z = z.cells.toList := vcells_closed (zeroOf_ok hz).2
  have hzs : z.cells.size = j.size := by have := hpos.2.2; rw [hzc] at this; simpa using this
  split at h
  case h_2 => cases h
  rename_i base sLen sCap
  replace h := bind_ok h
  obtain ⟨⟨n, new⟩, hsrc, h⟩ := h
  obtain ⟨xi, hxi, hnl, new', hnew, hcases⟩ := appendSrc_ok (P := P) r hx hsrc
  dsimp only at h
  split at h
  · cases h
  rename_i hlong
  have hlong' : (sLen + n) * j.bytes ≤ 1099511627776 ∧ new.all scalarV = true := by
    simp only [Bool.or_eq_true, decide_eq_true_eq, not_or] at hlong
    exact ⟨by omega, by simpa using hlong.2⟩
  obtain ⟨hbytes, hscal⟩ := hlong'
  have hnbytes : n * j.bytes ≤ 1099511627776 := Nat.le_trans (Nat.mul_le_mul_right _ (Nat.le_add_left n sLen)) hbytes
  have hnl' : new'.length = n * j.size := by rw [← hnew.length]; exact hnl
  have hsrcG : (isIntTy xi = true ∧ (∃ k, x' = .int k (n : Int)) ∧ n ≤ 1099511627776 ∧ new' = repl n z.cells.toList) ∨
      (isIntTy xi = false ∧ (∀ w' : World, w'.heap = w.heap → (Builtin.lenOf x').run P w' = .ok n w') ∧ (∀ w' : World, w'.heap = w.heap → (Builtin.firstCells j.size n x').run P w' = .ok new'.toArray w')) := by
    rcases hcases with ⟨a, b, c, z', hz', d, _⟩ | q
    · rw [hz] at hz'; cases hz'; exact .inl ⟨a, b, c, d⟩
    · exact .inr q
  have hsrcW : (isIntTy xi = true ∧ (∃ k, x' = .int k (n : Int)) ∧ n ≤ 1099511627776 ∧ new' = repl n z.cells.toList) ∨
      (isIntTy xi = false ∧ (Builtin.lenOf x').run P w = .ok n w ∧ (Builtin.firstCells j.size n x').run P w = .ok new'.toArray w) := by
    rcases hsrcG with q | ⟨q1, q2, q3⟩
    · exact .inl q
    · exact .inr ⟨q1, q2 w rfl, q3 w rfl⟩
  split at h
  · -- nil
    split at h
    · cases h
    rename_i hnil
    have hnil' : sLen = 0 ∧ sCap = 0 := by
      constructor <;> (simp at hnil; omega)
    obtain ⟨rfl, rfl⟩ := hnil'
    cases hs
    split at h
    · rename_i hn0
      cases h
      subst hn0
      have := run_append_in (P := P) ok (ti_ok hi) hund (ti_ok hj) hxi hz (base := none) (sLen := 0) (sCap := 0) hpos.1 (by omega) hnbytes hnl' hsrcW (w' := w) rfl ts args hts0 hts1 ha0 ha1 ty
      exact ⟨_, ρ, w, this, r, Grow.refl _ _ _ _, .nilSlice _ _⟩
    · rename_i hn0
      replace h := bind_ok h
      obtain ⟨⟨b, σ1⟩, hb, h⟩ := h
      rw [forceN_eq] at h
      cases h
      obtain ⟨cap, hge, hrun⟩ := run_append_new (P := P) (w := w) ok (ti_ok hi) hund (ti_ok hj) hxi hz hzs hpos.1 hpos.2.1 (by omega) (base := none) (sLen := 0) (sCap := 0) (old := []) (by omega) hbytes
        (fun w' _ => rfl) hsrcG ts args hts0 hts1 ha0 ha1 ty
      rw [Nat.zero_add] at hrun hge
      exact append_made r hnew hnl hge (by rw [repl_length]; simp [hzs]) hb _ hrun
  · rename_i a
    split at h
    · -- nothing more
      rename_i hn0
      split at h
      · rename_i hle
        cases h
        subst hn0
        have hnew0 : new' = [] := List.eq_nil_of_length_eq_zero (by rw [hnl']; simp)
        have fin : ∀ a' c', s' = .slice (some a') sLen c' → sLen ≤ c' → ∃ v' ρ' w', (Builtin.append_ ts ty args).run P w = .ok v' w' ∧ Rel G ρ' σ w' ∧ Grow σ.next ρ σ w ρ' σ w' ∧ VRel ρ' (.slice (some a) sLen sCap) v' := by
          rintro a' c' rfl hc'
          have := run_append_in (P := P) ok (ti_ok hi) hund (ti_ok hj) hxi hz (base := some a') (sLen := sLen) (sCap := c') hpos.1 (by omega) hnbytes hnl' hsrcW (w' := w) (by rw [hnew0]; simp [storeCells]) ts args hts0 hts1 ha0 ha1 ty
          exact ⟨_, ρ, w, this, r, Grow.refl _ _ _ _, hs⟩
        cases hs with
        | slice hc hL => exact fin _ _ rfl hle
        | grow hL h1 h2 => exact fin _ _ rfl h1
        | grow0 => exact fin _ _ rfl (Nat.le_refl _)
        | zero => exact fin _ _ rfl (Nat.le_refl _)
      · cases h
    · rename_i hn0
      split at h
      · cases h
      replace h := bind_ok h
      obtain ⟨⟨c, ce, ro⟩, hc, h⟩ := h
      have hb := cellsAt_ok hc
      dsimp only at h
      split at h
      · -- it may grow
        rename_i hG
        split at h
        · cases h
        rename_i hcapj
        have hcapj' : sCap = GROW + j.size := by simpa using hcapj
        split at h
        · cases h
        rename_i hend
        have hend' : ro = false ∧ a.off + sLen * j.size = c.length := by
          simp only [Bool.or_eq_true, decide_eq_true_eq, not_or] at hend
          exact ⟨by simpa using hend.1, by simpa using hend.2⟩
        obtain ⟨rfl, hhw⟩ := hend'
        rw [eraseBlk_eq] at h
        simp only [ok_bind] at h
        replace h := bind_ok h
        obtain ⟨⟨b, σ1⟩, hbn, h⟩ := h
        rw [forceN_eq] at h
        cases h
        have hnx : (put σ a.block none).next = σ.next := rfl
        -- a new array
        have grownew : ∀ a' c' old', s' = .slice (some a') sLen c' → c' < sLen + n → LRel ρ (c.drop a.off) old' → (∀ w', w'.heap = w.heap → (Builtin.firstCells j.size sLen (.slice (some a') sLen c')).run P w' = .ok old'.toArray w') →
            ∃ v' ρ' w', (Builtin.append_ ts ty args).run P w = .ok v' w' ∧ Rel G ρ' σ1 w' ∧ Grow σ.next ρ σ w ρ' σ1 w' ∧ VRel ρ' (.slice (some ⟨b, 0, none⟩) (sLen + n) (GROW + j.size)) v' := by
          rintro a' c' old' rfl hlt hold hrun0
          obtain ⟨cap, hge, hrun⟩ := run_append_new (P := P) (w := w) ok (ti_ok hi) hund (ti_ok hj) hxi hz hzs hpos.1 hpos.2.1 (by omega) (base := some a') (sLen := sLen) (sCap := c') hlt hbytes hrun0 hsrcG ts args hts0 hts1 ha0 ha1 ty
          obtain ⟨re, ge⟩ := r.erase a.block
          have hlen : (c.drop a.off ++ new).length = (sLen + n) * j.size := by simp [hnl, Nat.add_mul]; omega
          obtain ⟨v', ρ', w', f1, f2, f3, f4⟩ := append_made (P := P) re (hold.append hnew) hlen hge (by rw [repl_length]; simp [hzs]) hbn _ hrun
          exact ⟨v', ρ', w', f1, f2, (ge σ.next).trans f3 (Nat.le_refl _), f4⟩
        cases hs with
        | slice hlt _ => omega
        | zero => simp [GROW] at hG
        | @grow0 _ a' e' =>
          have hd : c.drop a.off = [] := by
            apply List.drop_eq_nil_of_le; omega
          refine grownew a' 0 [] rfl (by omega) (by rw [hd]; exact .nil) (fun w' _ => by simp only [Builtin.firstCells, Nat.zero_mul]; rfl)
        | @grow bb o _ c' e' L hL hn hroom =>
          have he : e' = j.size := by omega
          subst he
          obtain ⟨O, h1, C, fe, fz, rfl, h2, h3⟩ := r.blk bb _ L hb hL
          obtain ⟨q1, q2, q3⟩ := h3 rfl
          dsimp only at hhw hb
          have hoff : (sLen + n) * j.size = sLen * j.size + n * j.size := Nat.add_mul _ _ _
          by_cases hin : sLen + n ≤ c'
          · -- in place
            have hin2 : (sLen + n) * j.size ≤ c' * j.size := Nat.mul_le_mul_right _ hin
            have hl := hnew.length
            have hst := run_storeCells (P := P) (L.sh + o + sLen * j.size) new' 0 w C h1 (by omega) (fun k hk1 hk2 => by omega) (oneCell_rel hnew hscal)
            have hrun := run_append_in (P := P) ok (ti_ok hi) hund (ti_ok hj) hxi hz (base := some ⟨L.blk, L.sh + o, none⟩) (sLen := sLen) (sCap := c') hpos.1 hin hnbytes hnl' hsrcW
              (w' := wset w L.blk (.cells (cput C (L.sh + o + sLen * j.size) new') fe fz)) (by dsimp only; rw [addr_add]; exact hst) ts args hts0 hts1 ha0 ha1 ty
            have hdl : (c.drop o).length = sLen * j.size := by simp; omega
            have ho : ORel G ρ (.cells (c.drop o ++ new) e false) ⟨L.blk, L.sh + o, L.room - o⟩ (.cells (cput C (L.sh + o + sLen * j.size) new') fe fz) := by
              refine orel_put (c := c.drop o) (L := ⟨L.blk, L.sh + o, L.room - o⟩) ?_ ⟨by dsimp only; omega, by dsimp only; rw [hdl]; omega, by dsimp only; omega⟩ hnew (by dsimp only; omega) (by dsimp only; rw [List.length_append, hdl]; omega) ?_
              · intro k v hk
                rw [List.getElem?_drop] at hk
                obtain ⟨v', e1, e2⟩ := h2 _ _ hk
                exact ⟨v', by rw [← e1]; congr 1; dsimp only; omega, e2⟩
              · intro k v hk
                rw [List.getElem?_append, hdl] at hk
                by_cases hlt : k < sLen * j.size
                · rw [if_pos hlt] at hk
                  rw [if_neg (by omega)]; exact hk
                · rw [if_neg hlt] at hk
                  have : k - sLen * j.size < new.length := by
                    rcases Nat.lt_or_ge (k - sLen * j.size) new.length with h' | h'
                    · exact h'
                    · simp [List.getElem?_eq_none h'] at hk
                  rw [if_pos ⟨by omega, by omega⟩]; exact hk
            obtain ⟨f1, f2⟩ := r.rename (b := bb) (B := .cells c ce false) (B' := .cells (c.drop o ++ new) e false) (L := L) (L' := ⟨L.blk, L.sh + o, L.room - o⟩) hb hL rfl rfl h1 (ho.mono (addρ_sub _ r.fresh))
            obtain ⟨rfl, rfl⟩ := newBlk_inv hbn
            refine ⟨_, _, _, hrun, f1, f2, ?_⟩
            have := VRel.grow (ρ := addρ ρ σ.next ⟨L.blk, L.sh + o, L.room - o⟩) (b := σ.next) (o := 0) (n := sLen + n) (c := c') (e := j.size) (addρ_same _ _ _) hin (by dsimp only; omega)
            simpa [put] using this
          · -- a new array
            have hdl : (c.drop o).length = sLen * j.size := by simp; omega
            have hread : readN σ ⟨bb, o, none⟩ (sLen * j.size) = .ok (c.drop o) := by
              simp only [readN, Option.isSome_none, Bool.false_eq_true, if_false]
              rw [hc]
              simp only [ok_bind]
              exact takeExact_all _ _ hdl
            obtain ⟨_, old', f1, f2⟩ := run_readN (P := P) r hL hread
            exact grownew _ _ old' rfl (by omega) f1 f2
      · rename_i hG
        split at h
        · -- exact, room
          rename_i hroom
          replace h := bind_ok h
          obtain ⟨σ1, hw, h⟩ := h
          rw [forceN_eq] at h
          cases h
          cases hs with
          | @slice bb o _ _ L hc' hL =>
            rw [addr_add] at hw
            obtain ⟨w', f1, f2, f3⟩ := writeN_ok (P := P) r hL hnew hw
            have hrun := run_append_in (P := P) ok (ti_ok hi) hund (ti_ok hj) hxi hz (base := some ⟨L.blk, L.sh + o, none⟩) (sLen := sLen) (sCap := sCap) hpos.1 hroom hnbytes hnl' hsrcW
              (w' := w') (by dsimp only; rw [addr_add, Nat.add_assoc]; exact f1) ts args hts0 hts1 ha0 ha1 ty
            exact ⟨_, ρ, w', hrun, f2, f3 _, .slice hc' hL⟩
          | zero => omega
          | grow => omega
          | grow0 => omega
        · rename_i hroom
          replace h := bind_ok h
          obtain ⟨old, hold, h⟩ := h
          replace h := bind_ok h
          obtain ⟨⟨b, σ1⟩, hbn, h⟩ := h
          rw [forceN_eq] at h
          cases h
          have hol := (takeExact_ok hold).1
          have hlen : (old ++ new).length = (sLen + n) * j.size := by simp [hnl, Nat.add_mul, hol]
          have fin : ∀ a' c' old', s' = .slice (some a') sLen c' → c' < sLen + n → LRel ρ old old' → (∀ w' : World, w'.heap = w.heap → (Builtin.firstCells j.size sLen (.slice (some a') sLen c')).run P w' = .ok old'.toArray w') →
              ∃ v' ρ' w', (Builtin.append_ ts ty args).run P w = .ok v' w' ∧ Rel G ρ' σ1 w' ∧ Grow σ.next ρ σ w ρ' σ1 w' ∧ VRel ρ' (.slice (some ⟨b, 0, none⟩) (sLen + n) (GROW + j.size)) v' := by
            rintro a' c' old' rfl hlt hold hrun0
            obtain ⟨cap, hge, hrun⟩ := run_append_new (P := P) (w := w) ok (ti_ok hi) hund (ti_ok hj) hxi hz hzs hpos.1 hpos.2.1 (by omega) (base := some a') (sLen := sLen) (sCap := c') hlt hbytes hrun0 hsrcG ts args hts0 hts1 ha0 ha1 ty
            exact append_made (P := P) r (hold.append hnew) hlen hge (by rw [repl_length]; simp [hzs]) hbn _ hrun
          cases hs with
          | @slice bb o _ _ L hc' hL =>
            have hread : readN σ ⟨bb, o, none⟩ (sLen * j.size) = .ok old := by
              simp only [readN, Option.isSome_none, Bool.false_eq_true, if_false]
              rw [hc]
              exact hold
            obtain ⟨_, old', f1, f2⟩ := run_readN (P := P) r hL hread
            exact fin _ _ old' rfl (by omega) f1 f2
          | zero =>
            have : old = [] := List.eq_nil_of_length_eq_zero (by rw [hol]; simp)
            subst this
            exact fin _ _ [] rfl (by omega) .nil (fun w' _ => by simp only [Builtin.firstCells, Nat.zero_mul]; rfl)
          | grow => omega
          | grow0 => omega
end
end Go.AM
