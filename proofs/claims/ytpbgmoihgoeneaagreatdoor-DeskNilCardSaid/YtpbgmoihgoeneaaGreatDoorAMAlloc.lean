/- The abstract machine's operations that make a block: each is the model's. -/
import Derived.Test.YtpbgmoihgoeneaaGreatDoorAMRead
namespace Go.AM
section
variable {P : Program} {E : Env} {ρ : Map} {G : Nat}

theorem orel_cells {c l rest : List Value} {e e' : TypeId} {fz : Nat × Nat} {B : Nat} (h : LRel ρ c l) (hf : fz.1 = fz.2 ∨ (l ++ rest).length ≤ fz.1) :
    ORel G ρ (.cells c e false) ⟨B, 0, (l ++ rest).length⟩ (.cells (l ++ rest).toArray e' fz) := by
  refine ⟨_, e', fz, rfl, ?_, fun _ => ⟨by simp, by simp [h.length], by simpa using hf⟩⟩
  intro i v hi
  obtain ⟨y, h1, h2⟩ := h.get hi
  refine ⟨y, ?_, h2⟩
  have hlt : i < l.length := by
    rcases Nat.lt_or_ge i l.length with h' | h'
    · exact h'
    · simp [List.getElem?_eq_none h'] at h1
  have : (l ++ rest)[i]? = some y := by rw [List.getElem?_append_left hlt]; exact h1
  simpa using this

theorem orel_whole {c l : List Value} {e e' : TypeId} {B : Nat} (h : LRel ρ c l) : ORel G ρ (.cells c e false) ⟨B, 0, l.length⟩ (.cells l.toArray e' (0, 0)) := by
  have := orel_cells (G := G) (e := e) (e' := e') (B := B) (rest := []) h (fz := (0, 0)) (.inl rfl)
  simpa using this

theorem repl_nil {α : Type} : ∀ n : Nat, repl n ([] : List α) = []
  | 0 => rfl
  | n + 1 => by simp [repl, repl_nil n]

theorem repl_range (z : List Value) : ∀ c : Nat, (List.range (c * z.length)).map (fun i => z.toArray[i % z.length]!) = repl c z
  | 0 => by simp [repl]
  | c + 1 => by
    have h : (c + 1) * z.length = z.length + c * z.length := by rw [Nat.add_mul]; omega
    rw [h, List.range_add, List.map_append, List.map_map]
    have h1 : (List.range z.length).map (fun i => z.toArray[i % z.length]!) = z := by
      apply List.ext_getElem
      · simp
      · intro i h1 h2
        simp at h1
        simp [Nat.mod_eq_of_lt h1, h1]
    have h2 : (List.range (c * z.length)).map ((fun i => z.toArray[i % z.length]!) ∘ fun x => z.length + x) = repl c z := by
      rw [← repl_range z c]
      apply List.map_congr_left
      intro i _
      simp
    rw [h1, h2]; rfl

theorem zero_cells (z : Value) (c : Nat) : ((Array.range (c * z.cells.size)).map (fun i => z.cells[i % z.cells.size]!)).toList = repl c z.cells.toList := by
  have := repl_range z.cells.toList c
  simpa using this

theorem vcells_closed {z : Value} (_h : closedV z = true) : vcells z = z.cells.toList := by cases z <;> rfl

theorem freeze_of {w : World} {B : Nat} {C : Array Value} {e : TypeId} {fz : Nat × Nat} (h : w.heap[B]? = some (.cells C e fz)) (n : Nat) :
    w.freeze ⟨B, n, none⟩ 1 = wset w B (.cells C e (if fz.1 == fz.2 then (n, n + 1) else (min fz.1 n, max fz.2 (n + 1)))) := by
  have hB : B < w.heap.size := by
    rcases Nat.lt_or_ge B w.heap.size with h' | h'
    · exact h'
    · simp [Array.getElem?_eq_none h'] at h
  have hv : w.heap[B] = .cells C e fz := by simpa [hB] using h
  unfold World.freeze wset
  rw [if_neg (by omega)]
  congr 1
  apply Array.ext_getElem?
  intro i
  by_cases hi : B = i
  · subst hi; simp [Array.getElem_modify, hB, hv]
  · rw [Array.getElem?_setIfInBounds_ne hi]; simp [Array.getElem?_modify, hi]

theorem run_markStringish {w : World} {B : Nat} {C : Array Value} {e : TypeId} {fz : Nat × Nat} (h : w.heap[B]? = some (.cells C e fz)) (o : Nat) :
    (markStringish ⟨B, o, none⟩).run P w = .ok () (wset w B (.cells C e (if fz.1 == fz.2 then (C.size, C.size + 1) else (min fz.1 C.size, max fz.2 (C.size + 1))))) := by
  have hs : w.shape? B = some (e, C.size) := by simp [World.shape?, h]
  simp only [markStringish, Sem.run_bind, run_shape, hs, Result.andThen_ok, run_freeze]
  rw [freeze_of h]

theorem wset_push (w : World) (O O' : Obj) : wset (wpush w O) w.heap.size O' = wpush w O' := by
  simp only [wset, wpush]
  congr 1
  apply Array.ext_getElem?
  intro i
  by_cases hi : w.heap.size = i
  · subst hi; simp
  · rw [Array.getElem?_setIfInBounds_ne hi]
    simp only [Array.getElem?_push]
    rw [if_neg (Ne.symm hi), if_neg (Ne.symm hi)]

/-- What an operation that makes a block comes to. -/
def Makes (P : Program) (G : Nat) (ρ : Map) (w : World) (B : Blk) (vf : Nat → Value) (s : Sem Value) : Prop :=
  ∃ O room v' k, s.run P w = .ok v' (wpush { w with drawn := k } O) ∧
    ∀ ρ' n, Sub ρ ρ' → ρ' n = some ⟨w.heap.size, 0, room⟩ → ORel G ρ' B ⟨w.heap.size, 0, room⟩ O ∧ VRel ρ' (vf n) v'

theorem makes_var {w : World} {c : List Value} {l : Array Value} {e e' : TypeId} (h : LRel ρ c l.toList) (s : Sem Value)
    (hs : s.run P w = .ok (.pointer (some ⟨w.heap.size, 0, none⟩)) (wpush w (.cells l e' (0, 0)))) : Makes P G ρ w (.cells c e false) (fun b => .pointer (some ⟨b, 0, none⟩)) s := by
  refine ⟨_, l.toList.length, _, w.drawn, hs, fun ρ' n hsub hn => ⟨?_, ?_⟩⟩
  · have := orel_whole (G := G) (e := e) (e' := e') (B := w.heap.size) (h.mono hsub)
    simpa using this
  · have := VRel.ptr (o := 0) hn
    simpa using this

theorem alloc_ok (ok : EnvOk P E) {w : World} (hg : Glob E.G ρ) {t : T Value} {a : Act} (ht : TRel ρ t a.tmps) {o : Oper} (hc : allL (closedO E.G) o.op.operands.toList = true) {B : Blk} {vf : Nat → Value}
    (h : allocA E t o.op = .ok (B, vf)) : ∃ s : Sem Value, execOp a.eval o = (do pure (Next.value (← s))) ∧ Makes P E.G ρ w B vf s := by
  obtain ⟨dst, op, type, pos, after, guard⟩ := o
  dsimp only at hc h
  cases op <;> simp only [allocA, bad] at h <;> try (cases h; done)
  case alloc e =>
    replace h := bind_ok h
    obtain ⟨i, hi, h⟩ := h
    replace h := map_ok h
    obtain ⟨z, hz, h⟩ := h
    cases h
    refine ⟨_, rfl, makes_var (l := z.cells) (e' := e) ((zero_rel ρ hz).cells) _ ?_⟩
    simp [Instr.alloc, run_zero ok (ti_ok hi) hz, newVar, newRow]
    rfl
  case box e x =>
    cases h
    simp only [Op.operands, allL, Bool.and_eq_true] at hc
    refine ⟨_, rfl, makes_var (l := (a.eval x).cells) (e' := e) ((ev_rel hg ht hc.1).cells) _ ?_⟩
    simp [Instr.box, newVar, newRow]
    rfl
  case buildSlice ty len parts =>
    have hp : allL (closedO E.G) (parts.toList.map (·.2)) = true := by simpa [Op.operands] using hc
    have hpr := parts_rel hg ht hp
    refine ⟨_, rfl, ?_⟩
    unfold buildSliceA at h
    replace h := bind_ok h
    obtain ⟨⟨e, j⟩, hej, h⟩ := h
    replace h := bind_ok h
    obtain ⟨z, hz, h⟩ := h
    unfold elemTI at hej
    replace hej := bind_ok hej
    obtain ⟨i, hi, hej⟩ := hej
    split at hej
    · rename_i e' hund
      replace hej := map_ok hej
      obtain ⟨j', hj, hej⟩ := hej
      cases hej
      split at h
      · cases h
      · rename_i hsz
        split at h
        · cases h
        · rename_i hzl
          replace h := map_ok h
          obtain ⟨c, hcc, h⟩ := h
          cases h
          have hzl' : (vcells z).length = j.size := by simpa using hzl
          have hzc : vcells z = z.cells.toList := vcells_closed (zeroOf_ok hz).2
          have hzs : z.cells.size = j.size := by rw [hzc] at hzl'; simpa using hzl'
          have hsz' : len * j.size ≤ 16777216 ∧ len ≤ 16777216 := by
            constructor <;> (simp at hsz; omega)
          have hzrel : LRel ρ (vcells z) z.cells.toList := (zero_rel ρ hz).cells
          have hcells : ((Array.range (len * j.size)).map fun i => (if len * j.size = 0 then #[] else z.cells)[i % (if len * j.size = 0 then #[] else z.cells).size]!).toList = repl len z.cells.toList := by
            by_cases h0 : len * j.size = 0
            · have : repl len z.cells.toList = [] := by
                rcases Nat.mul_eq_zero.1 h0 with h1 | h1
                · subst h1; rfl
                · have : z.cells.toList = [] := List.eq_nil_of_length_eq_zero (by rw [Array.length_toList]; omega)
                  rw [this, repl_nil]
              rw [this, h0]; simp
            · simp only [h0, if_false]
              rw [← hzs]; exact zero_cells z len
          obtain ⟨O, h1, h2⟩ := fill_ok (pl' := fun k => some (k * j.size, j.size)) (fun k p hk => by cases hk; rfl) hpr (C := (Array.range (len * j.size)).map fun i => (if len * j.size = 0 then #[] else z.cells)[i % (if len * j.size = 0 then #[] else z.cells).size]!) (by rw [hcells]; exact hzrel.repl len) hcc
          refine ⟨.cells O e (0, 0), O.toList.length, .slice (some ⟨w.heap.size, 0, none⟩) len len, w.drawn, ?_, fun ρ' n hsub hn => ⟨?_, ?_⟩⟩
          · have hb : ¬ (len * j.size > 2 ^ 24) := by omega
            have hparts : (parts.map fun x => (x.1, a.eval x.2)).toList = parts.toList.map fun p => (p.1, a.eval p.2) := by simp
            by_cases h0 : len * j.size = 0
            · simp only [if_pos h0] at h1
              simp only [Instr.buildSlice, Sem.run_bind, run_und ok (ti_ok hi), hund, Result.andThen_ok, run_size ok (ti_ok hj), if_neg hb, if_pos h0, hparts, h1, newRow, run_newObj, Sem.run_pure]
              rfl
            · simp only [if_neg h0] at h1
              simp only [Instr.buildSlice, Sem.run_bind, run_und ok (ti_ok hi), hund, Result.andThen_ok, run_size ok (ti_ok hj), if_neg hb, if_neg h0, run_zero ok (ti_ok hj) hz, hparts, h1, newRow, run_newObj, Sem.run_pure]
              rfl
          · have := orel_whole (G := E.G) (e := e) (e' := e) (B := w.heap.size) (h2.mono hsub)
            simpa using this
          · have := VRel.slice (o := 0) (n := len) (c := len) (by simp [GROW]; omega) hn
            simpa using this
    · cases hej
  case convert src dst x =>
    simp only [Op.operands, allL, Bool.and_eq_true] at hc
    have hr := ev_rel hg ht hc.1
    refine ⟨_, rfl, ?_⟩
    unfold bytesNewA at h
    replace h := bind_ok h
    obtain ⟨i, hi, h⟩ := h
    replace h := bind_ok h
    obtain ⟨j, hj, h⟩ := h
    split at h
    · rename_i e s hund hs
      rw [hs] at hr
      replace h := bind_ok h
      obtain ⟨ej, hej, h⟩ := h
      split at h
      · rename_i hu8
        split at h
        · cases h
        rename_i hone
        have hone' : ej.size = 1 := by simpa using hone
        simp only [Except.ok.injEq, Prod.mk.injEq] at h
        obtain ⟨rfl, rfl⟩ := h
        generalize hx : a.eval x = y at hr
        cases hr
        -- the run
        have hq : (Question.appendCap s.size 0 e).forced = false := rfl
        generalize hcap : (Question.appendCap s.size 0 e).cut (w.tape w.drawn (Question.appendCap s.size 0 e)) = cap
        have hge : s.size ≤ cap := by rw [← hcap]; simp [Question.cut]
        have hconv : (convert src dst (.string s)).run P w = (Conv.stringToBytes e s).run P w := by
          simp only [convert, Sem.run_bind, run_und ok (ti_ok hi), run_und ok (ti_ok hj), Result.andThen_ok, hund, run_und ok (ti_ok hej), hu8]
        have hsz : s.data.toList.length = s.size := Array.length_toList
        refine ⟨.cells (s.data.toList.map byteVal ++ List.replicate (cap - s.size) (Value.int .u8 0)).toArray e (cap, cap + 1), (s.data.toList.map byteVal ++ List.replicate (cap - s.size) (Value.int .u8 0)).length,
          .slice (some ⟨w.heap.size, 0, none⟩) s.size cap, w.drawn + 1, ?_, fun ρ' n hsub hn => ⟨?_, ?_⟩⟩
        · rw [hconv]
          have hele : s.data.map (fun b => Value.int .u8 b.toNat) ++ Array.replicate (cap - s.size) (Value.int .u8 0) = (s.data.toList.map byteVal ++ List.replicate (cap - s.size) (Value.int .u8 0)).toArray := by
            apply Array.toList_inj.1; simp [byteVal]
          simp only [Conv.stringToBytes, Sem.run_bind, run_choose, hq, Bool.false_eq_true, if_false, hcap, Result.andThen_ok, newRow, run_newObj, Sem.run_pure, hele]
          have hph : (wpush { w with drawn := w.drawn + 1 } (Obj.cells (s.data.toList.map byteVal ++ List.replicate (cap - s.size) (Value.int .u8 0)).toArray e)).heap[w.heap.size]? =
              some (.cells (s.data.toList.map byteVal ++ List.replicate (cap - s.size) (Value.int .u8 0)).toArray e) := by simp [heap_push]
          have hm := run_markStringish (P := P) hph 0
          have hcs : (s.data.toList.map byteVal ++ List.replicate (cap - s.size) (Value.int .u8 0)).toArray.size = cap := by simp; omega
          rw [hcs] at hm
          simp only [beq_self_eq_true, if_true] at hm
          rw [wset_push] at hm
          have hmm : (markStringish ⟨w.heap.size, 0, none⟩).run P { w with heap := w.heap.push (Obj.cells (s.data.toList.map byteVal ++ List.replicate (cap - s.size) (Value.int .u8 0)).toArray e), drawn := w.drawn + 1 } = _ := hm
          rw [hmm]
          rfl
        · rw [mapL_eq]
          refine orel_cells (LRel.of_get rfl fun i x y h1 h2 => ?_) ?_
          · rw [h1] at h2; cases h2
            simp at h1
            obtain ⟨b, _, rfl⟩ := h1
            exact .int _ _
          · right; simp; omega
        · rw [hsz]
          have := VRel.grow (o := 0) (n := s.size) (c := cap) (e := ej.size) hn hge (by rw [hone']; simp; omega)
          simpa using this
      · cases h
    · cases h
  case makeMap ty rs =>
    cases rs with
    | some _ => simp at h
    | none =>
      simp only [Except.ok.injEq, Prod.mk.injEq] at h
      obtain ⟨rfl, rfl⟩ := h
      refine ⟨_, rfl, .map #[] 0, 0, .map (some w.heap.size), w.drawn, ?_, fun ρ' n hsub hn => ⟨⟨#[], rfl, .nil⟩, .map hn⟩⟩
      simp [Instr.makeMap]
      rfl
  case makeSlice ty l c =>
    simp only [Op.operands, allL, Bool.and_eq_true] at hc
    have hrl := ev_rel hg ht hc.1
    have hrc := ev_rel hg ht hc.2.1
    refine ⟨_, rfl, ?_⟩
    unfold makeSliceA at h
    replace h := bind_ok h
    obtain ⟨⟨e, j⟩, hej, h⟩ := h
    replace h := bind_ok h
    obtain ⟨z, hz, h⟩ := h
    replace h := bind_ok h
    obtain ⟨l0, hl, h⟩ := h
    replace h := bind_ok h
    obtain ⟨c0, hc0, h⟩ := h
    unfold elemTI at hej
    replace hej := bind_ok hej
    obtain ⟨i, hi, hej⟩ := hej
    split at hej
    · rename_i e' hund
      replace hej := map_ok hej
      obtain ⟨j', hj, hej⟩ := hej
      cases hej
      obtain ⟨kl, _, hl'⟩ := intOf_ok hrl hl
      obtain ⟨kc, _, hc'⟩ := intOf_ok hrc hc0
      split at h
      · cases h
      · rename_i hb
        split at h
        · cases h
        · rename_i hzl
          simp only [Except.ok.injEq, Prod.mk.injEq] at h
          obtain ⟨rfl, rfl⟩ := h
          have hb' : 0 ≤ l0 ∧ l0 ≤ c0 ∧ c0 ≤ 1099511627776 ∧ (j.bytes : Int) * c0 ≤ 1099511627776 := by
            simp only [Bool.or_eq_true, decide_eq_true_eq, not_or] at hb
            omega
          have hzl' : (vcells z).length = j.size := by simpa using hzl
          have hzc : vcells z = z.cells.toList := vcells_closed (zeroOf_ok hz).2
          have hzs : z.cells.size = j.size := by rw [hzc] at hzl'; simpa using hzl'
          obtain ⟨I, hI, hI1, hI2, hI3, hI4⟩ := ok.info e j (ti_ok hj)
          have hwl : IntKind.i64.wrap l0 = l0 := by rw [← wrapF_eq]; simp only [wrapF]; rw [if_pos (by simp; omega)]
          have hwc : IntKind.i64.wrap c0 = c0 := by rw [← wrapF_eq]; simp only [wrapF]; rw [if_pos (by simp; omega)]
          have hcells : ((Array.range (c0.toNat * j.size)).map fun i => (if c0.toNat * j.size = 0 then #[] else z.cells)[i % (if c0.toNat * j.size = 0 then #[] else z.cells).size]!).toList = repl c0.toNat z.cells.toList := by
            by_cases h0 : c0.toNat * j.size = 0
            · have : repl c0.toNat z.cells.toList = [] := by
                rcases Nat.mul_eq_zero.1 h0 with h1 | h1
                · rw [h1]; rfl
                · have : z.cells.toList = [] := List.eq_nil_of_length_eq_zero (by rw [Array.length_toList]; omega)
                  rw [this, repl_nil]
              rw [this, h0]; simp
            · simp only [h0, if_false]
              rw [← hzs]; exact zero_cells z c0.toNat
          have hlarge : ∀ n : Int, 0 ≤ n → n ≤ c0 → ((decide (n < 0) || decide ((j.bytes : Int) * n > 2 ^ 48)) = false) := by
            intro n hn0 hn1
            have : (j.bytes : Int) * n ≤ (j.bytes : Int) * c0 := Int.mul_le_mul_of_nonneg_left hn1 (by omega)
            simp; omega
          refine ⟨.cells (repl c0.toNat z.cells.toList).toArray e (0, 0), (repl c0.toNat z.cells.toList).length, .slice (some ⟨w.heap.size, 0, none⟩) l0.toNat c0.toNat, w.drawn, ?_, fun ρ' n hsub hn => ⟨?_, ?_⟩⟩
          · simp only [Instr.makeSlice, Sem.run_bind, run_und ok (ti_ok hi), hund, Result.andThen_ok, hl', hc', asInt, asIntOf, Sem.run_pure, typeInfo, run_program, hI, hI2, hwl, hwc]
            have hcond : ¬ ((decide (c0 < 0) || decide ((j.bytes : Int) * c0 > 2 ^ 48) || decide (l0 < 0) || decide (l0 > c0)) = true) := by
              have h1 := hlarge c0 (by omega) (Int.le_refl _)
              simp only [Bool.or_eq_false_iff] at h1
              simp [h1.1, h1.2]; omega
            have harr : ((Array.range (c0.toNat * j.size)).map fun i => (if c0.toNat * j.size = 0 then #[] else z.cells)[i % (if c0.toNat * j.size = 0 then #[] else z.cells).size]!) = (repl c0.toNat z.cells.toList).toArray :=
              Array.toList_inj.1 hcells
            rw [if_neg hcond]
            by_cases h0 : c0.toNat * j.size = 0
            · simp only [if_pos h0] at harr
              simp only [Sem.run_bind, run_askRoom, Result.andThen_ok, run_size ok (ti_ok hj), if_pos h0, Sem.run_pure, harr, newRow, run_newObj]
              rfl
            · simp only [if_neg h0] at harr
              simp only [Sem.run_bind, run_askRoom, Result.andThen_ok, run_size ok (ti_ok hj), if_neg h0, run_zero ok (ti_ok hj) hz, Sem.run_pure, harr, newRow, run_newObj]
              rfl
          · rw [hzc]
            have := orel_whole (G := E.G) (e := e) (e' := e) (B := w.heap.size) (((zero_rel ρ' hz).cells).repl c0.toNat)
            rw [hzc] at this
            exact this
          · have := VRel.slice (o := 0) (n := l0.toNat) (c := c0.toNat) (by simp [GROW]; omega) hn
            simpa using this
    · cases hej
end
end Go.AM
