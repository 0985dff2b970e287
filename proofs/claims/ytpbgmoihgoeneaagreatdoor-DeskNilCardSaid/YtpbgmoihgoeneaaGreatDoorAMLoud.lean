/- The abstract machine's operations that write memory: store, append, copy, maps: each is the model's. -/
import Derived.Test.YtpbgmoihgoeneaaGreatDoorAMAlloc
import Derived.Laws.AppendOwn
namespace Go.AM
section
variable {P : Program} {E : Env} {ρ : Map} {G : Nat} {σ : St} {w : World}

theorem putN_ok : ∀ {c : List Value} {o : Nat} {vs c' : List Value}, putN c o vs = .ok c' → o + vs.length ≤ c.length ∧ c' = c.take o ++ vs ++ c.drop (o + vs.length)
  | c, 0, [], c', h => by cases c <;> (simp [putN] at h; subst h; simp)
  | [], 0, y :: ys, c', h => by simp [putN, bad] at h
  | [], o + 1, vs, c', h => by simp [putN, bad] at h
  | x :: c, 0, y :: ys, c', h => by
    simp only [putN] at h
    replace h := map_ok h
    obtain ⟨c0, h1, rfl⟩ := h
    obtain ⟨g1, g2⟩ := putN_ok h1
    subst g2
    simp at g1 ⊢
    exact g1
  | x :: c, o + 1, vs, c', h => by
    simp only [putN] at h
    replace h := map_ok h
    obtain ⟨c0, h1, rfl⟩ := h
    obtain ⟨g1, g2⟩ := putN_ok h1
    subst g2
    refine ⟨by simp; omega, ?_⟩
    rw [show o + 1 + vs.length = (o + vs.length) + 1 from by omega]
    simp

theorem oneCell_rel {l l' : List Value} (h : LRel ρ l l') (hs : l.all scalarV = true) : ∀ v ∈ l', v.oneCell' = true := by
  induction l generalizing l' with
  | nil => cases h; simp
  | cons x l ih =>
    cases h with
    | cons h1 h2 =>
      simp only [List.all_cons, Bool.and_eq_true] at hs
      intro v hv
      rcases List.mem_cons.1 hv with rfl | hv
      · cases h1 <;> first | rfl | simp [scalarV] at hs
      · exact ih h2 hs.2 v hv

/-- A new content of a block of cells. -/
theorem orel_put {c c' : List Value} {e : TypeId} {L : Loc} {C : Array Value} {e' : TypeId} {fz : Nat × Nat} (hC : ∀ (i : Nat) v, c[i]? = some v → ∃ v', C[L.sh + i]? = some v' ∧ VRel ρ v v')
    (hro : L.sh + L.room ≤ C.size ∧ c.length ≤ L.room ∧ (fz.1 = fz.2 ∨ L.sh + L.room ≤ fz.1)) {o : Nat} {vs vs' : List Value} (hv : LRel ρ vs vs') (hfit : o + vs.length ≤ L.room)
    (hc' : c'.length ≤ L.room) (h : ∀ (i : Nat) v, c'[i]? = some v → if o ≤ i ∧ i < o + vs.length then vs[i - o]? = some v else c[i]? = some v) :
    ORel G ρ (.cells c' e false) L (.cells (cput C (L.sh + o) vs') e' fz) := by
  have hl := hv.length
  have hf : L.sh + o + vs'.length ≤ C.size := by omega
  refine ⟨_, e', fz, rfl, ?_, fun _ => ⟨by rw [cput_size hf]; exact hro.1, hc', hro.2.2⟩⟩
  intro i v hi
  have := h i v hi
  rw [cput_get hf]
  split at this
  · rename_i hr
    rw [if_pos ⟨by omega, by omega⟩]
    rw [show L.sh + i - (L.sh + o) = i - o from by omega]
    exact hv.get this
  · rename_i hr
    rw [if_neg (by omega)]
    exact hC i v this

theorem writeN_ok (r : Rel G ρ σ w) {b o : Nat} {L : Loc} (hL : ρ b = some L) {vs vs' : List Value} (hv : LRel ρ vs vs') {σ' : St} (h : writeN σ ⟨b, o, none⟩ vs = .ok σ') :
    ∃ w', (storeCells ⟨L.blk, L.sh + o, none⟩ vs').run P w = .ok () w' ∧ Rel G ρ σ' w' ∧ ∀ N, Grow N ρ σ w ρ σ' w' := by
  unfold writeN at h
  simp only [Option.isSome_none, Bool.false_eq_true, if_false] at h
  split at h
  · cases h
  · rename_i hsc
    replace h := bind_ok h
    obtain ⟨⟨c, e, ro⟩, hc, h⟩ := h
    dsimp only at h
    split at h
    · cases h
    · rename_i hro
      have hro' : ro = false := by simpa using hro
      subst hro'
      replace h := bind_ok h
      obtain ⟨c', hp, h⟩ := h
      rw [setBlk_eq] at h; cases h
      have hb := cellsAt_ok hc
      obtain ⟨g1, g2⟩ := putN_ok hp
      obtain ⟨O, h1, C, e', fz, rfl, h2, h3⟩ := r.blk b _ L hb hL
      obtain ⟨q1, q2, q3⟩ := h3 rfl
      have hl := hv.length
      have hs : vs.all scalarV = true := by simpa using hsc
      have hst := run_storeCells (P := P) (L.sh + o) vs' 0 w C h1 (by omega) (fun k hk1 hk2 => by omega) (oneCell_rel hv hs)
      have hc'l : c'.length = c.length := by subst g2; simp; omega
      have ho : ORel G ρ (.cells c' e false) L (.cells (cput C (L.sh + o) vs') e' fz) := by
        refine orel_put (c := c) h2 ⟨q1, q2, q3⟩ hv (by omega) (by omega) ?_
        intro i v hi
        subst g2
        have hm : min o c.length = o := by omega
        rw [List.getElem?_append, List.getElem?_append] at hi
        simp only [List.length_append, List.length_take, hm, List.getElem?_take, List.getElem?_drop] at hi
        by_cases ha : i < o
        · rw [if_pos (by omega), if_pos ha, if_pos ha] at hi
          rw [if_neg (by omega)]; exact hi
        · by_cases hb : i < o + vs.length
          · rw [if_pos hb, if_neg ha] at hi
            rw [if_pos ⟨by omega, hb⟩]; exact hi
          · rw [if_neg hb] at hi
            rw [if_neg (by omega)]
            rwa [show o + vs.length + (i - (o + vs.length)) = i from by omega] at hi
      obtain ⟨f1, f2⟩ := r.update (B' := .cells c' e false) hb hL rfl h1 ho
      exact ⟨_, hst, f1, f2⟩

/-! ## append -/

theorem srcLen_ok {x x' : Value} (hx : VRel ρ x x') {n : Nat} (h : srcLen x = .ok n) (w : World) : (Builtin.lenOf x').run P w = .ok n w := by
  unfold srcLen at h
  split at h
  · cases h; cases hx <;> rfl
  · rename_i s
    cases h; cases hx
    have hs : s.data.toList.length = s.size := Array.length_toList
    simp [Builtin.lenOf, hs]
  · cases h

theorem srcCells_ok (r : Rel G ρ σ w) {x x' : Value} (hx : VRel ρ x x') {size n n0 : Nat} {cs : List Value} (hn : srcLen x = .ok n0) (hle : n ≤ n0) (h : srcCells σ size n x = .ok cs) :
    cs.length = n * size ∧ ∃ cs', LRel ρ cs cs' ∧ ∀ w' : World, w'.heap = w.heap → (Builtin.firstCells size n x').run P w' = .ok cs'.toArray w' := by
  unfold srcCells at h
  split at h
  · rename_i a m c
    have main : ∀ b o L, a = ⟨b, o, none⟩ → ρ b = some L → cs.length = n * size ∧ ∃ cs', LRel ρ cs cs' ∧ ∀ w' : World, w'.heap = w.heap → (loadCells ⟨L.blk, L.sh + o, none⟩ (n * size)).run P w' = .ok cs'.toArray w' := by
      rintro b o L rfl hL
      exact run_readN r hL h
    simp only [srcLen] at hn
    cases hn
    cases hx with
    | slice hc hL => exact main _ _ _ rfl hL
    | grow hL _ _ => exact main _ _ _ rfl hL
    | grow0 =>
      have : n = 0 := by omega
      subst this
      simp only [Nat.zero_mul] at h
      have := readN_zero h; subst this
      exact ⟨by simp, [], .nil, fun w' _ => by simp [Builtin.firstCells, loadCells, loadCellsFrom]⟩
    | zero =>
      have : n = 0 := by omega
      subst this
      simp only [Nat.zero_mul] at h
      have := readN_zero h; subst this
      exact ⟨by simp, [], .nil, fun w' _ => by simp [Builtin.firstCells, loadCells, loadCellsFrom]⟩
  · split at h
    · cases h
    · rename_i hm
      have hm' : n0 = 0 := by
        simp only [srcLen] at hn; cases hn; simpa using hm
      cases h
      cases hx
      have : n = 0 := by omega
      subst this
      exact ⟨by simp, [], .nil, fun w' _ => by simp [Builtin.firstCells]⟩
  · rename_i s
    split at h
    · cases h
    · rename_i h1
      have h1' : size = 1 := by simpa using h1
      subst h1'
      cases h
      cases hx
      simp only [srcLen] at hn
      cases hn
      refine ⟨by rw [mapL_eq]; simp at hle ⊢; omega, (s.data.toList.take n).map byteVal, ?_, fun w' _ => ?_⟩
      · rw [mapL_eq]
        refine LRel.of_get rfl fun i x y h1 h2 => ?_
        have h3 := h1.symm.trans h2
        cases h3
        have h4 : x ∈ (s.data.toList.take n).map byteVal := List.mem_of_getElem? h1
        obtain ⟨b, _, rfl⟩ := List.mem_map.1 h4
        exact .int _ _
      · simp only [Builtin.firstCells, Sem.run_pure]
        congr 1
        apply Array.toList_inj.1
        simp [List.extract_eq_take_drop]
        rfl
  · cases h

theorem appendSrc_ok (r : Rel G ρ σ w) {xType : TypeId} {j : TI} {x x' : Value} (hx : VRel ρ x x') {n : Nat} {cs : List Value} (h : appendSrc E σ j xType x = .ok (n, cs)) :
    ∃ xi, E.ty xType = some xi ∧ cs.length = n * j.size ∧ ∃ cs', LRel ρ cs cs' ∧
      ((isIntTy xi = true ∧ (∃ k, x' = .int k (n : Int)) ∧ n ≤ 1099511627776 ∧ ∃ z, zeroOf j = .ok z ∧ cs' = repl n z.cells.toList ∧ z.cells.size = j.size) ∨
       (isIntTy xi = false ∧ (∀ w' : World, w'.heap = w.heap → (Builtin.lenOf x').run P w' = .ok n w') ∧ (∀ w' : World, w'.heap = w.heap → (Builtin.firstCells j.size n x').run P w' = .ok cs'.toArray w'))) := by
  unfold appendSrc at h
  replace h := bind_ok h
  obtain ⟨xi, hxi, h⟩ := h
  refine ⟨xi, ti_ok hxi, ?_⟩
  split at h
  · rename_i hint
    replace h := bind_ok h
    obtain ⟨l, hl, h⟩ := h
    replace h := bind_ok h
    obtain ⟨z, hz, h⟩ := h
    split at h
    · cases h
    · rename_i hb
      simp only [Except.ok.injEq, Prod.mk.injEq] at h
      obtain ⟨rfl, rfl⟩ := h
      obtain ⟨k, rfl, rfl⟩ := intOf_ok hx hl
      have hb' : 0 ≤ l ∧ l ≤ 1099511627776 ∧ (vcells z).length = j.size := by
        simp only [Bool.or_eq_true, decide_eq_true_eq, not_or] at hb
        refine ⟨by omega, by omega, by simpa using hb.2⟩
      have hzc : vcells z = z.cells.toList := vcells_closed (zeroOf_ok hz).2
      have hrl : ∀ (m : Nat) (zs : List Value), (repl m zs).length = m * zs.length := by
        intro m zs; induction m with
        | zero => simp [repl]
        | succ m ih => simp [repl, ih, Nat.add_mul]; omega
      refine ⟨by rw [hrl, hb'.2.2], repl l.toNat z.cells.toList, (zero_rel ρ hz).cells.repl _, .inl ⟨hint, ⟨k, by congr 1; omega⟩, by omega, z, hz, rfl, by rw [hzc] at hb'; simpa using hb'.2.2⟩⟩
  · rename_i hint
    replace h := bind_ok h
    obtain ⟨m, hm, h⟩ := h
    replace h := map_ok h
    obtain ⟨c, hc, h⟩ := h
    cases h
    obtain ⟨g1, cs', g2, g3⟩ := srcCells_ok (P := P) r hx hm (Nat.le_refl _) hc
    exact ⟨g1, cs', g2, .inr ⟨by simpa using hint, fun w' _ => srcLen_ok hx hm w', g3⟩⟩

theorem zeroCells_toList (z : Array Value) (n : Nat) : (Builtin.zeroCells z n).toList = repl n z.toList := by
  have := repl_range z.toList n
  simpa [Builtin.zeroCells] using this

theorem grownCap_ge' (w : World) (need old : Nat) (e : TypeId) : need ≤ (Question.appendCap need old e).cut (w.tape w.drawn (Question.appendCap need old e)) := by simp [Question.cut]

theorem wrap_small (n : Int) (h0 : 0 ≤ n) (h1 : n ≤ 1099511627776) : IntKind.i64.wrap n = n := by
  rw [← wrapF_eq]; simp only [wrapF]; rw [if_pos (by simp; omega)]

/-- What append comes to where it must make a new array: the world, and the value. -/
theorem run_append_new (ok : EnvOk P E) {sType xType e : TypeId} {i j xi : TI} (hi : E.ty sType = some i) (hund : i.und = .slice e) (hj : E.ty e = some j) (hxi : E.ty xType = some xi) {z : Value} (hz : zeroOf j = .ok z) {n : Nat}
    (hzs : z.cells.size = j.size) (hpos : 0 < j.size) (hbpos : 0 < j.bytes) (hn0 : 0 < n) {base : Option Addr} {sLen sCap : Nat} {x' : Value} {old new : List Value}
    (hgrow : sCap < sLen + n) (hbytes : (sLen + n) * j.bytes ≤ 1099511627776)
    (hold : ∀ w', w'.heap = w.heap → (Builtin.firstCells j.size sLen (.slice base sLen sCap)).run P w' = .ok old.toArray w')
    (hsrc : (isIntTy xi = true ∧ (∃ k, x' = .int k (n : Int)) ∧ n ≤ 1099511627776 ∧ new = repl n z.cells.toList) ∨
      (isIntTy xi = false ∧ (∀ w', w'.heap = w.heap → (Builtin.lenOf x').run P w' = .ok n w') ∧ (∀ w', w'.heap = w.heap → (Builtin.firstCells j.size n x').run P w' = .ok new.toArray w')))
    (ts args : Array _) (hts0 : ts[0]? = some sType) (hts1 : ts[1]? = some xType) (ha0 : args[0]? = some (Value.slice base sLen sCap)) (ha1 : args[1]? = some x') (ty : TypeId) :
    ∃ cap, sLen + n ≤ cap ∧ (Builtin.append_ ts ty args).run P w = .ok (.slice (some ⟨w.heap.size, 0, none⟩) (sLen + n) cap)
      (wpush { w with drawn := w.drawn + 1 } (.cells (old ++ new ++ repl (cap - (sLen + n)) z.cells.toList).toArray e)) := by
  obtain ⟨I, hI, hI1, hI2, hI3, hI4⟩ := ok.info e j hj
  have hu := run_und ok hi
  have hux := run_und ok hxi
  have hzr := run_zero ok hj hz
  have hsz := run_size ok hj
  have hq : (Question.appendCap (sLen + n) sCap e).forced = false := rfl
  have hge := grownCap_ge' w (sLen + n) sCap e
  generalize hcap : (Question.appendCap (sLen + n) sCap e).cut (w.tape w.drawn (Question.appendCap (sLen + n) sCap e)) = cap at hge
  have hne : ¬ (sLen + n ≤ sCap) := by omega
  have hneed : sLen + n ≤ 1099511627776 := Nat.le_trans (Nat.le_mul_of_pos_right _ hbpos) hbytes
  have hmax : IntKind.i64.max = 9223372036854775807 := by decide
  have hc1 : ∀ zs : Bool, ¬ (((sLen + n : Nat) : Int) > IntKind.i64.max ∧ (zs = true ∨ j.bytes = 0)) := by intro zs; omega
  have hfit := growslice_fits (need := sLen + n) (old := sCap) (bytes := j.bytes) (by omega) (by omega)
  have hc2 : ¬ (Builtin.nextslicecap (sLen + n) sCap * j.bytes > 2 ^ 48) := by omega
  refine ⟨cap, hge, ?_⟩
  have harr : ∀ c : Nat, old.toArray ++ new.toArray ++ Builtin.zeroCells z.cells c = (old ++ new ++ repl c z.cells.toList).toArray := by
    intro c
    apply Array.toList_inj.1
    simp [zeroCells_toList]
  rcases hsrc with ⟨h1, ⟨k, rfl⟩, h3, rfl⟩ | ⟨h1, h2, h3⟩
  · have ho := hold { w with drawn := w.drawn + 1 } rfl
    have hzr1 := hzr { w with drawn := w.drawn + 1 }
    cases hxu : xi.und with
    | int kk =>
      have hux' := hux w
      rw [hxu] at hux'
      have hwn : IntKind.i64.wrap (n : Int) = n := wrap_small _ (by omega) (by omega)
      have hlt : ¬ ((n : Int) < 0) := by omega
      have hnb : n * j.bytes ≤ 1099511627776 := Nat.le_trans (Nat.mul_le_mul_right _ (Nat.le_add_left n sLen)) hbytes
      have hnb' : ¬ ((n : Int) * (j.bytes : Int) > 2 ^ 48) := by
        have : ((n * j.bytes : Nat) : Int) ≤ ((1099511627776 : Nat) : Int) := Int.ofNat_le.2 hnb
        rw [Int.natCast_mul] at this
        omega
      have hn1 : ¬ (n * j.size = 0) := by
        intro h0
        rcases Nat.mul_eq_zero.1 h0 with h | h <;> omega
      have hc1b : ¬ (((sLen + n : Nat) : Int) > IntKind.i64.max ∧ (True ∨ j.bytes = 0)) := by omega
      have hz2 : Builtin.zeroCells z.cells n = (repl n z.cells.toList).toArray := Array.toList_inj.1 (by rw [zeroCells_toList])
      simp only [Builtin.append_, hts0, hts1, ha0, ha1, Sem.run_bind, hu, hund, hux', Result.andThen_ok, hsz, Sem.run_pure, if_true, asInt, asIntOf, hwn, if_neg hlt, typeInfo, run_program, hI, hI2, if_neg hnb', Int.toNat_natCast,
        if_neg hne, Bool.not_true, Bool.false_eq_true, if_false]
      rw [if_neg hc1b]
      simp only [Sem.run_bind, run_program, Result.andThen_ok, hI, Sem.run_pure, hI2, if_neg hc2, run_choose, hq, Bool.false_eq_true, if_false, hcap, run_askRoom, ho, if_neg hn1, hzr1, run_newObj, hz2, harr]
      rfl
    | _ => simp [isIntTy, hxu] at h1
  · have hl := h2 w rfl
    have ho := hold { w with drawn := w.drawn + 1 } rfl
    have hs := h3 { w with drawn := w.drawn + 1 } rfl
    have hc1b : ¬ (((sLen + n : Nat) : Int) > IntKind.i64.max ∧ j.bytes = 0) := by omega
    cases hxu : xi.und with
    | int _ => simp [isIntTy, hxu] at h1
    | _ =>
      have hux' := hux w
      rw [hxu] at hux'
      simp only [Builtin.append_, hts0, hts1, ha0, ha1, Sem.run_bind, hu, hund, hux', Result.andThen_ok, hsz, Sem.run_pure, Bool.false_eq_true, if_false, hl, if_neg hne, typeInfo, run_program, hI, hI2, false_or,
        Bool.not_false, if_true]
      rw [if_neg hc1b]
      simp only [Sem.run_bind, run_program, Result.andThen_ok, hI, Sem.run_pure, hI2, if_neg hc2, run_choose, hq, Bool.false_eq_true, if_false, hcap, run_askRoom, ho, hs, hzr, newRow, run_newObj, harr]
      rfl
/-- What append comes to where there is room. -/
theorem run_append_in (ok : EnvOk P E) {sType xType e : TypeId} {i j xi : TI} (hi : E.ty sType = some i) (hund : i.und = .slice e) (hj : E.ty e = some j) (hxi : E.ty xType = some xi) {z : Value} (hz : zeroOf j = .ok z) {n : Nat}
    (hpos : 0 < j.size) {base : Option Addr} {sLen sCap : Nat} {x' : Value} {new : List Value}
    (hroom : sLen + n ≤ sCap) (hbytes : n * j.bytes ≤ 1099511627776) (hnew : new.length = n * j.size)
    (hsrc : (isIntTy xi = true ∧ (∃ k, x' = .int k (n : Int)) ∧ n ≤ 1099511627776 ∧ new = repl n z.cells.toList) ∨
      (isIntTy xi = false ∧ (Builtin.lenOf x').run P w = .ok n w ∧ (Builtin.firstCells j.size n x').run P w = .ok new.toArray w))
    {w' : World} (hst : match base with | some a => (storeCells (a.add (sLen * j.size)) new).run P w = .ok () w' | none => w' = w)
    (ts args : Array _) (hts0 : ts[0]? = some sType) (hts1 : ts[1]? = some xType) (ha0 : args[0]? = some (Value.slice base sLen sCap)) (ha1 : args[1]? = some x') (ty : TypeId) :
    (Builtin.append_ ts ty args).run P w = .ok (.slice base (sLen + n) sCap) w' := by
  obtain ⟨I, hI, hI1, hI2, hI3, hI4⟩ := ok.info e j hj
  have hu := run_und ok hi w
  have hux := run_und ok hxi w
  have hzr := run_zero ok hj hz w
  have hsz := run_size ok hj w
  rcases hsrc with ⟨h1, ⟨k, rfl⟩, h3, rfl⟩ | ⟨h1, h2, h3⟩
  · cases hxu : xi.und with
    | int kk =>
      rw [hxu] at hux
      have hwn : IntKind.i64.wrap (n : Int) = n := wrap_small _ (by omega) (by omega)
      have hlt : ¬ ((n : Int) < 0) := by omega
      have hnb' : ¬ ((n : Int) * (j.bytes : Int) > 2 ^ 48) := by
        have : ((n * j.bytes : Nat) : Int) ≤ ((1099511627776 : Nat) : Int) := Int.ofNat_le.2 hbytes
        rw [Int.natCast_mul] at this
        omega
      have hz2 : Builtin.zeroCells z.cells n = (repl n z.cells.toList).toArray := Array.toList_inj.1 (by rw [zeroCells_toList])
      by_cases hn1 : n * j.size = 0
      · have hnil : repl n z.cells.toList = [] := List.eq_nil_of_length_eq_zero (by rw [hnew, hn1])
        rw [hnil] at hst
        cases base with
        | none =>
          simp only [Builtin.append_, hts0, hts1, ha0, ha1, Sem.run_bind, hu, hund, hux, Result.andThen_ok, hsz, Sem.run_pure, if_true, asInt, asIntOf, hwn, if_neg hlt, typeInfo, run_program, hI, hI2, if_neg hnb', Int.toNat_natCast,
            if_pos hroom, Bool.not_true, Bool.false_eq_true, if_false, if_pos hn1]
          rw [hst]
        | some a =>
          simp only [Builtin.append_, hts0, hts1, ha0, ha1, Sem.run_bind, hu, hund, hux, Result.andThen_ok, hsz, Sem.run_pure, if_true, asInt, asIntOf, hwn, if_neg hlt, typeInfo, run_program, hI, hI2, if_neg hnb', Int.toNat_natCast,
            if_pos hroom, Bool.not_true, Bool.false_eq_true, if_false, if_pos hn1, hst]
      · cases base with
        | none =>
          simp only [Builtin.append_, hts0, hts1, ha0, ha1, Sem.run_bind, hu, hund, hux, Result.andThen_ok, hsz, Sem.run_pure, if_true, asInt, asIntOf, hwn, if_neg hlt, typeInfo, run_program, hI, hI2, if_neg hnb', Int.toNat_natCast,
            if_pos hroom, Bool.not_true, Bool.false_eq_true, if_false, if_neg hn1, hzr]
          rw [hst]
        | some a =>
          simp only [Builtin.append_, hts0, hts1, ha0, ha1, Sem.run_bind, hu, hund, hux, Result.andThen_ok, hsz, Sem.run_pure, if_true, asInt, asIntOf, hwn, if_neg hlt, typeInfo, run_program, hI, hI2, if_neg hnb', Int.toNat_natCast,
            if_pos hroom, Bool.not_true, Bool.false_eq_true, if_false, if_neg hn1, hzr, hz2, hst]
    | _ => simp [isIntTy, hxu] at h1
  · cases hxu : xi.und with
    | int _ => simp [isIntTy, hxu] at h1
    | _ =>
      rw [hxu] at hux
      cases base with
      | none =>
        simp only [Builtin.append_, hts0, hts1, ha0, ha1, Sem.run_bind, hu, hund, hux, Result.andThen_ok, hsz, Sem.run_pure, Bool.false_eq_true, if_false, h2, if_pos hroom, Bool.not_false, if_true, h3]
        rw [hst]
      | some a =>
        simp only [Builtin.append_, hts0, hts1, ha0, ha1, Sem.run_bind, hu, hund, hux, Result.andThen_ok, hsz, Sem.run_pure, Bool.false_eq_true, if_false, h2, if_pos hroom, Bool.not_false, if_true, h3, hst]

end
end Go.AM
