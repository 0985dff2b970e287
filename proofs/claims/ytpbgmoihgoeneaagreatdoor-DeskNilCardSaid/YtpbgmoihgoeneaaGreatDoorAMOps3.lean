/- The abstract machine's operations that look at their operands alone: slices, builds; all of them together. -/
import Derived.Test.YtpbgmoihgoeneaaGreatDoorAMOps2
namespace Go.AM
section
variable {P : Program} {E : Env} {ρ : Map}

inductive ORelV (ρ : Map) : Option Value → Option Value → Prop where
  | none : ORelV ρ none none
  | some {x y : Value} : VRel ρ x y → ORelV ρ (some x) (some y)

theorem optV_rel {G : Nat} (hg : Glob G ρ) {t : T Value} {a : Act} (ht : TRel ρ t a.tmps) {x : Option Operand} (h : ∀ y, x = some y → closedO G y = true) : ORelV ρ (optV t x) (x.map a.eval) := by
  cases x with
  | none => exact .none
  | some y => exact .some (ev_rel hg ht (h y rfl))

theorem bound_run {x x' : Value} {d most r : Nat} (hx : VRel ρ x x') (h : boundA (some x) d most = .ok r) (most' : Nat) (hm : most ≤ most') (code : BoundsCode) :
    r ≤ most ∧ ∀ w, (Instr.sliceBound x' most' code).run P w = .ok r w := by
  simp only [boundA] at h
  replace h := bind_ok h
  obtain ⟨i, hi, h⟩ := h
  obtain ⟨k, rfl, rfl⟩ := intOf_ok hx hi
  split at h
  · rename_i hb
    simp only [Bool.and_eq_true, decide_eq_true_eq] at hb
    cases h
    refine ⟨by omega, fun w => ?_⟩
    have : 0 ≤ i ∧ i ≤ (most' : Int) := ⟨hb.1, by omega⟩
    simp [Instr.sliceBound, asIntOf, this]
  · cases h

theorem bounds3_run {lo hi mx lo' hi' mx' : Option Value} {n c l h m : Nat} (h1 : ORelV ρ lo lo') (h2 : ORelV ρ hi hi') (h3 : ORelV ρ mx mx') (hb : bounds3 lo hi mx n c = .ok (l, h, m)) (b : Bool)
    (c' : Nat) (hc : c ≤ c') :
    l ≤ h ∧ m ≤ c ∧ (h ≤ m ∨ h = n) ∧ (mx = none → m = c) ∧ (∀ w, (Instr.sliceBounds b n c' lo' hi' mx').run P w = .ok (l, h, if mx.isSome then m else c') w) := by
  have hl : ∀ code, (∀ hh, boundA lo 0 hh = .ok l → l ≤ hh ∧ ∀ w, ((match lo' with
      | some v => Instr.sliceBound v hh code
      | none => pure 0 : Sem Nat)).run P w = .ok l w) := by
    intro code hh e
    cases h1 with
    | none => simp only [boundA] at e; cases e; exact ⟨Nat.zero_le _, fun w => rfl⟩
    | some hr => exact bound_run hr e hh (Nat.le_refl _) code
  cases h3 with
  | none =>
    have hm : (boundA none c c) = .ok c := rfl
    cases h2 with
    | none =>
      simp only [bounds3, hm, ok_bind] at hb
      have hn : boundA none n c = .ok n := rfl
      rw [hn] at hb
      simp only [ok_bind] at hb
      replace hb := bind_ok hb
      obtain ⟨l0, e, hb⟩ := hb
      cases hb
      obtain ⟨g1, g2⟩ := hl .sliceB _ e
      refine ⟨g1, Nat.le_refl _, .inr rfl, fun _ => rfl, fun w => ?_⟩
      have g2 := g2 w
      cases h1 <;> simp [Instr.sliceBounds] at g2 ⊢
      · exact g2
      · rw [g2]; simp
    | some hr =>
      rename_i x x'
      simp only [bounds3, hm, ok_bind] at hb
      replace hb := bind_ok hb
      obtain ⟨h0, e0, hb⟩ := hb
      replace hb := bind_ok hb
      obtain ⟨l0, e, hb⟩ := hb
      cases hb
      obtain ⟨g1, g2⟩ := hl .sliceB _ e
      have g3 := fun code => (bound_run (P := P) hr e0 c' hc code).2
      have g4 := (bound_run (P := P) hr e0 c (Nat.le_refl _) .index).1
      refine ⟨g1, Nat.le_refl _, .inl g4, fun _ => rfl, fun w => ?_⟩
      have g2 := g2 w
      cases h1 <;> simp [Instr.sliceBounds, g3] at g2 ⊢
      · exact g2
      · rw [g2]; simp
  | some hr3 =>
    cases h2 with
    | none => simp [bounds3, bad] at hb
    | some hr =>
      simp only [bounds3] at hb
      replace hb := bind_ok hb
      obtain ⟨m0, em, hb⟩ := hb
      replace hb := bind_ok hb
      obtain ⟨h0, e0, hb⟩ := hb
      replace hb := bind_ok hb
      obtain ⟨l0, e, hb⟩ := hb
      cases hb
      obtain ⟨g1, g2⟩ := hl .slice3C _ e
      have g3 := fun code => (bound_run (P := P) hr e0 m (Nat.le_refl _) code)
      have g5 := fun code => (bound_run (P := P) hr3 em c' hc code).2
      have g6 := (bound_run (P := P) hr3 em c (Nat.le_refl _) .index).1
      refine ⟨g1, g6, .inl (g3 .index).1, (by simp), fun w => ?_⟩
      have g2 := g2 w
      have g3' := fun code => (g3 code).2
      cases h1 <;> simp [Instr.sliceBounds, g3', g5] at g2 ⊢
      · exact g2
      · rw [g2]; simp

theorem slice_ok (ok : EnvOk P E) {t : TypeId} {x x' : Value} {lo hi mx lo' hi' mx' : Option Value} {v : Value} (hx : VRel ρ x x') (h1 : ORelV ρ lo lo') (h2 : ORelV ρ hi hi') (h3 : ORelV ρ mx mx')
    (h : sliceA E t x lo hi mx = .ok v) : ∃ v', VRel ρ v v' ∧ ∀ w, (Instr.sliceAt t x' lo' hi' mx').run P w = .ok v' w := by
  unfold sliceA at h
  replace h := bind_ok h
  obtain ⟨i, hi_, h⟩ := h
  have hu : ∀ w, (underlying t).run P w = .ok i.und w := run_und ok (ti_ok hi_)
  split at h
  · rename_i s hund
    cases hx
    split at h
    · cases h
    · rename_i hmx
      have hmx0 : mx = none := by cases mx <;> simp_all
      subst hmx0
      cases h3
      replace h := bind_ok h
      obtain ⟨⟨l, hh, m⟩, hb, h⟩ := h
      cases h
      obtain ⟨g1, g2, g3, g5, g4⟩ := bounds3_run (P := P) h1 h2 .none hb false s.size (Nat.le_of_eq Array.length_toList)
      have hsz : s.data.toList.length = s.size := Array.length_toList
      rw [hsz] at g4
      refine ⟨_, .string _, fun w => ?_⟩
      have he : s.extract l hh = ⟨((s.data.toList.drop l).take (hh - l)).toArray⟩ := by
        apply ByteArray.ext
        apply Array.toList_inj.1
        simp [List.extract_eq_take_drop]
      simp [Instr.sliceAt, hu, hund, Instr.slice, g4, he]
  · rename_i e a n c hund
    replace h := bind_ok h
    obtain ⟨j, hj, h⟩ := h
    have hz := run_size ok (ti_ok hj)
    split at h
    · split at h
      · cases h
      · rename_i hn
        have hn' : n = 0 ∧ c = 0 := by simpa using hn
        obtain ⟨rfl, rfl⟩ := hn'
        replace h := bind_ok h
        obtain ⟨⟨l, hh, m⟩, hb, h⟩ := h
        cases h
        cases hx
        obtain ⟨g1, g2, g3, g5, g4⟩ := bounds3_run (P := P) h1 h2 h3 hb true 0 (Nat.le_refl _)
        refine ⟨_, .nilSlice _ _, fun w => ?_⟩
        have hm : (if mx.isSome then m else 0) = m := by split <;> omega
        rw [hm] at g4
        simp [Instr.sliceAt, hu, hund, Instr.slice, g4, hz]
    · rename_i a
      split at h
      · rename_i hG
        split at h
        · cases h
        · rename_i hc
          have hc' : c = GROW + j.size ∧ n < GROW := by simpa using hc
          obtain ⟨hcs, hnG⟩ := hc'
          replace h := bind_ok h
          obtain ⟨⟨l, hh, m⟩, hb, h⟩ := h
          cases hx with
          | slice hlt _ => omega
          | zero => simp [GROW] at hG
          | @grow b o _ c' e' L hL hn hroom =>
            have he : e' = j.size := by omega
            subst he
            obtain ⟨g1, g2, g3, g5, g4⟩ := bounds3_run (P := P) h1 h2 h3 hb true c' hn
            have hhn : hh ≤ n := by rcases g3 with g3 | g3 <;> omega
            cases h3 with
            | none =>
              simp only [forceN_eq, ok_bind] at h
              cases h
              simp only [Option.isSome_none, Bool.false_eq_true, if_false] at g4
              by_cases hcl : c' = l
              · subst hcl
                have : hh - c' = 0 := by omega
                rw [this]
                refine ⟨.slice (some ⟨L.blk, L.sh + o, none⟩) 0 0, .grow0, fun w => ?_⟩
                simp [Instr.sliceAt, hu, hund, Instr.slice, g4, hz, this]
              · refine ⟨.slice (some ((⟨L.blk, L.sh + o, none⟩ : Addr).add (l * j.size))) (hh - l) (c' - l), ?_, fun w => ?_⟩
                · rw [addr_add, addr_add, Nat.add_assoc]
                  refine .grow hL (by omega) ?_
                  have : l * j.size + (c' - l) * j.size = c' * j.size := by rw [← Nat.add_mul]; congr 1; omega
                  omega
                · simp [Instr.sliceAt, hu, hund, Instr.slice, g4, hz, hcl]
            | some hr3 =>
              cases h
              simp only [Option.isSome_some, if_true] at g4
              refine ⟨.slice (some (if m = l then ⟨L.blk, L.sh + o, none⟩ else (⟨L.blk, L.sh + o, none⟩ : Addr).add (l * j.size))) (hh - l) (m - l), ?_, fun w => ?_⟩
              · split
                · exact .slice (by omega) hL
                · rw [addr_add, addr_add, Nat.add_assoc]; exact .slice (by omega) hL
              · simp [Instr.sliceAt, hu, hund, Instr.slice, g4, hz]
                split <;> rfl
          | @grow0 _ a' e' =>
            obtain ⟨g1, g2, g3, g5, g4⟩ := bounds3_run (P := P) h1 h2 h3 hb true 0 (Nat.le_refl _)
            have hh0 : hh = 0 := by rcases g3 with g3 | g3 <;> omega
            have hl0 : l = 0 := by omega
            have hm0 : m = 0 := by omega
            subst hh0; subst hl0; subst hm0
            have hm : (if mx.isSome then 0 else 0) = 0 := by split <;> rfl
            rw [hm] at g4
            have hrun : ∀ w, (Instr.sliceAt t (.slice (some a') 0 0) lo' hi' mx').run P w = .ok (.slice (some a') 0 0) w := fun w => by
              simp [Instr.sliceAt, hu, hund, Instr.slice, g4, hz]
            cases h3 with
            | none =>
              simp only [forceN_eq, ok_bind] at h
              cases h
              exact ⟨_, .grow0, hrun⟩
            | some hr3 => cases h; exact ⟨_, .zero, hrun⟩
      · rename_i hG
        have hlt : c < GROW := by omega
        replace h := bind_ok h
        obtain ⟨⟨l, hh, m⟩, hb, h⟩ := h
        cases h
        obtain ⟨g1, g2, g3, g5, g4⟩ := bounds3_run (P := P) h1 h2 h3 hb true c (Nat.le_refl _)
        have hm : (if mx.isSome then m else c) = m := by
          cases mx with
          | none => simp [g5 rfl]
          | some _ => simp
        rw [hm] at g4
        cases hx with
        | @slice b o _ _ L _ hL =>
          refine ⟨.slice (some (if m = l then ⟨L.blk, L.sh + o, none⟩ else (⟨L.blk, L.sh + o, none⟩ : Addr).add (l * j.size))) (hh - l) (m - l), ?_, fun w => ?_⟩
          · split
            · exact .slice (by omega) hL
            · rw [addr_add, addr_add, Nat.add_assoc]; exact .slice (by omega) hL
          · simp [Instr.sliceAt, hu, hund, Instr.slice, g4, hz]
            split <;> rfl
        | grow => omega
        | grow0 => omega
        | @zero _ a' =>
          have hh0 : hh = 0 := by rcases g3 with g3 | g3 <;> omega
          have hl0 : l = 0 := by omega
          have hm0 : m = 0 := by omega
          subst hh0; subst hl0; subst hm0
          refine ⟨.slice (some a') 0 0, .zero, fun w => ?_⟩
          simp [Instr.sliceAt, hu, hund, Instr.slice, g4, hz]
  · rename_i n e a hund
    replace h := bind_ok h
    obtain ⟨j, hj, h⟩ := h
    have hz := run_size ok (ti_ok hj)
    split at h
    · cases h
    · rename_i hG
      replace h := bind_ok h
      obtain ⟨⟨l, hh, m⟩, hb, h⟩ := h
      cases h
      obtain ⟨g1, g2, g3, g5, g4⟩ := bounds3_run (P := P) h1 h2 h3 hb false n (Nat.le_refl _)
      have hm : (if mx.isSome then m else n) = m := by
        cases mx with
        | none => simp [g5 rfl]
        | some _ => simp
      rw [hm] at g4
      cases hx with
      | @ptr b o L hL =>
        refine ⟨.slice (some (if m = l then ⟨L.blk, L.sh + o, none⟩ else (⟨L.blk, L.sh + o, none⟩ : Addr).add (l * j.size))) (hh - l) (m - l), ?_, fun w => ?_⟩
        · split
          · exact .slice (by omega) hL
          · rw [addr_add, addr_add, Nat.add_assoc]; exact .slice (by omega) hL
        · simp [Instr.sliceAt, hu, hund, Instr.sureAddr, g4, hz]
  · cases h
/-! ## Building -/

theorem setCells_eq : ∀ (c : List Value) (o : Nat) (vs : List Value), o + vs.length ≤ c.length → setCells c o vs = c.take o ++ vs ++ c.drop (o + vs.length)
  | c, o, [], _ => by cases c <;> simp [setCells]
  | [], o, v :: vs, h => by simp at h
  | x :: c, 0, v :: vs, h => by
    simp only [setCells]
    rw [setCells_eq c 0 vs (by simp at h ⊢; omega)]
    simp
  | x :: c, o + 1, v :: vs, h => by
    simp only [setCells]
    rw [setCells_eq c o (v :: vs) (by simp at h ⊢; omega)]
    rw [show o + 1 + (v :: vs).length = (o + (v :: vs).length) + 1 from by omega]
    simp

theorem LRel.setCells {c c' vs vs' : List Value} (h : LRel ρ c c') (hv : LRel ρ vs vs') (o : Nat) : LRel ρ (c.take o ++ vs ++ c.drop (o + vs.length)) (c'.take o ++ vs' ++ c'.drop (o + vs'.length)) := by
  rw [← hv.length]
  exact ((h.take o).append hv).append (h.drop _)

theorem foldl_cput (o : Nat) : ∀ (vs : List Value) (k : Nat) (C : Array Value), o + k + vs.length ≤ C.size →
    (vs.zipIdx k).foldl (fun cs (x : Value × Nat) => cs.setIfInBounds (o + x.2) x.1) C = cput C (o + k) vs
  | [], k, C, _ => by simp [cput]
  | v :: vs, k, C, h => by
    simp only [List.zipIdx_cons, List.foldl_cons]
    rw [foldl_cput o vs (k + 1) _ (by simp at h ⊢; omega)]
    have := cput_cons (C := C) (o := o + k) (v := v) (vs := vs) (by simp at h; omega)
    rw [← this, Nat.add_assoc]

inductive PRel (ρ : Map) : List (Nat × Value) → List (Nat × Value) → Prop where
  | nil : PRel ρ [] []
  | cons {i : Nat} {v v' : Value} {l l' : List (Nat × Value)} : VRel ρ v v' → PRel ρ l l' → PRel ρ ((i, v) :: l) ((i, v') :: l')

theorem fill_ok {pl : Nat → M (Nat × Nat)} {pl' : Nat → Option (Nat × Nat)} (hp : ∀ i p, pl i = .ok p → pl' i = some p) : ∀ {parts parts' : List (Nat × Value)} (_ : PRel ρ parts parts')
    {c : List Value} {C : Array Value} (_ : LRel ρ c C.toList) {out : List Value} (_ : fillA pl c parts = .ok out), ∃ O, Instr.fill pl' C parts' = some O ∧ LRel ρ out O.toList := by
  intro parts parts' hr
  induction hr with
  | nil => intro c C hc out h; simp [fillA] at h; subst h; exact ⟨C, rfl, hc⟩
  | @cons i v v' l l' hv _ ih =>
    intro c C hc out h
    simp only [fillA] at h
    replace h := bind_ok h
    obtain ⟨⟨off, size⟩, h1, h⟩ := h
    dsimp only at h
    split at h
    · cases h
    · rename_i hn
      have hcells := hv.cells
      have hlen := hcells.length
      have hclen : c.length = C.size := by simpa using hc.length
      simp only [Array.length_toList] at hlen
      have hn' : (vcells v).length = size ∧ off + size ≤ c.length := by
        constructor <;> (simp at hn; omega)
      have hfit : off + (vcells v).length ≤ c.length := by omega
      have hfit' : off + v'.cells.toList.length ≤ C.size := by simp; omega
      rw [setCells_eq c off _ hfit] at h
      have hz : v'.cells.zipIdx.foldl (fun cs (x : Value × Nat) => cs.setIfInBounds (off + x.2) x.1) C = cput C off v'.cells.toList := by
        rw [← Array.foldl_toList]
        have := foldl_cput off v'.cells.toList 0 C (by simpa using hfit')
        simpa using this
      have hc2 : LRel ρ (c.take off ++ vcells v ++ c.drop (off + (vcells v).length)) (cput C off v'.cells.toList).toList := by
        simpa [cput] using hc.setCells hcells off
      obtain ⟨O, g1, g2⟩ := ih hc2 h
      refine ⟨O, ?_, g2⟩
      simp only [Instr.fill, hp i _ h1]
      have : ¬ ((v'.cells.size ≠ size || off + v'.cells.size > C.size) = true) := by
        simp; omega
      rw [if_neg this]
      rw [show (v'.cells.zipIdx.foldl (fun cs x => match x with | (c, j) => cs.setIfInBounds (off + j) c) C) = cput C off v'.cells.toList from hz]
      exact g1

theorem mapE_ok {α β : Type} {f : α → M β} : ∀ {l : List α} {m : List β}, mapE f l = .ok m → m.length = l.length ∧ ∀ (i : Nat) x, l[i]? = some x → ∃ y, m[i]? = some y ∧ f x = .ok y := by
  intro l
  induction l with
  | nil => intro m h; simp [mapE] at h; subst h; simp
  | cons x l ih =>
    intro m h
    simp only [mapE] at h
    replace h := bind_ok h
    obtain ⟨y, h1, h⟩ := h
    replace h := map_ok h
    obtain ⟨m', h2, rfl⟩ := h
    obtain ⟨g1, g2⟩ := ih h2
    refine ⟨by simp [g1], ?_⟩
    intro i z hz
    cases i with
    | zero => simp at hz; subst hz; exact ⟨y, rfl, h1⟩
    | succ i => simpa using g2 i z (by simpa using hz)

theorem run_mapM_list {α β : Type} {f : α → Sem β} {w : World} : ∀ {l : List α} {m : List β}, m.length = l.length → (∀ (i : Nat) x y, l[i]? = some x → m[i]? = some y → (f x).run P w = .ok y w) → (l.mapM f).run P w = .ok m w := by
  intro l
  induction l with
  | nil => intro m h _; have : m = [] := List.eq_nil_of_length_eq_zero (by simpa using h); subst this; simp
  | cons x l ih =>
    intro m h hf
    cases m with
    | nil => simp at h
    | cons y m =>
      rw [List.mapM_cons]
      simp only [Sem.run_bind, hf 0 x y rfl rfl, Result.andThen_ok]
      rw [ih (by simpa using h) (fun i a b h1 h2 => hf (i + 1) a b (by simpa using h1) (by simpa using h2))]
      simp

theorem build_ok (ok : EnvOk P E) {t : TypeId} {parts parts' : List (Nat × Value)} {v : Value} (hp : PRel ρ parts parts') (h : buildA E t parts = .ok v) :
    ∃ v', VRel ρ v v' ∧ ∀ w, (Instr.build t parts'.toArray).run P w = .ok v' w := by
  unfold buildA at h
  replace h := bind_ok h
  obtain ⟨i, hi, h⟩ := h
  replace h := bind_ok h
  obtain ⟨z, hz, h⟩ := h
  have hu : ∀ w, (underlying t).run P w = .ok i.und w := run_und ok (ti_ok hi)
  have hzr : ∀ w, (zeroValue t).run P w = .ok z w := run_zero ok (ti_ok hi) hz
  have hzz := (zero_rel ρ hz).cells
  split at h
  · rename_i fs hund
    replace h := bind_ok h
    obtain ⟨pl, hpl, h⟩ := h
    replace h := map_ok h
    obtain ⟨c, hc, rfl⟩ := h
    obtain ⟨g1, g2⟩ := mapE_ok hpl
    have hrun : ∀ w, (fs.mapM (fun f => Prod.mk f.offset <$> sizeOf f.type : Field → Sem (Nat × Nat))).run P w = .ok pl.toArray w := fun w => by
      rw [Array.mapM_eq_mapM_toList]
      have := run_mapM_list (P := P) (w := w) (f := (fun f => Prod.mk f.offset <$> sizeOf f.type : Field → Sem (Nat × Nat))) (l := fs.toList) (m := pl) g1 (fun k x y hx hy => by
        obtain ⟨y', h1, h2⟩ := g2 k x hx
        rw [hy] at h1; cases h1
        replace h2 := map_ok h2
        obtain ⟨j, hj, rfl⟩ := h2
        simp [run_size ok (ti_ok hj)])
      simp [this]
    obtain ⟨O, h1, h2⟩ := fill_ok (pl' := fun k => pl[k]?) (fun k p hk => by
      rw [nth_eq] at hk
      cases e : pl[k]? with
      | none => simp [e, bad] at hk
      | some q => simp [e] at hk; cases hk; simp [e]) hp hzz hc
    refine ⟨.agg O, .agg (by simpa [mkAgg] using h2), fun w => ?_⟩
    simp [Instr.build, hu, hzr, hund, hrun, h1]
  · rename_i n e hund
    replace h := bind_ok h
    obtain ⟨j, hj, h⟩ := h
    replace h := map_ok h
    obtain ⟨c, hc, rfl⟩ := h
    obtain ⟨O, h1, h2⟩ := fill_ok (pl' := fun k => some (k * j.size, j.size)) (fun k p hk => by cases hk; rfl) hp hzz hc
    refine ⟨.agg O, .agg (by simpa [mkAgg] using h2), fun w => ?_⟩
    simp [Instr.build, hu, hzr, hund, run_size ok (ti_ok hj), h1]
  · cases h

/-! ## Types of values -/

theorem typeAssert_ok (ok : EnvOk P E) {x x' : Value} {a : TypeId} {b : Bool} {v : Value} (hx : VRel ρ x x') (h : typeAssertA E x a b = .ok v) (xt : TypeId) :
    ∃ v', VRel ρ v v' ∧ ∀ w, (Instr.typeAssert x' xt a b).run P w = .ok v' w := by
  unfold typeAssertA at h
  replace h := bind_ok h
  obtain ⟨i, hi, h⟩ := h
  have hu : ∀ w, (underlying a).run P w = .ok i.und w := run_und ok (ti_ok hi)
  have hzz : ∀ z, zeroOf i = .ok z → VRel ρ (.tuple #[z, .bool false]) (.tuple #[z, .bool false]) := fun z hz => .tuple (.cons (zero_rel ρ hz) (.cons (.bool _) .nil))
  split at h
  · cases h
  · rename_i hn
    cases hx
    cases b
    · simp [bad] at h
    · simp only [if_true] at h
      replace h := map_ok h
      obtain ⟨z, hz, rfl⟩ := h
      refine ⟨_, hzz z hz, fun w => ?_⟩
      have hzr := run_zero ok (ti_ok hi) hz w
      revert hn hu
      cases i.und <;> simp +contextual [Instr.typeAssert, hzr]
  · rename_i t y hn
    cases hx with
    | iface hr =>
      rename_i y'
      split at h
      · rename_i e
        subst e
        cases h
        refine ⟨if b then .tuple #[y', .bool true] else y', ?_, fun w => ?_⟩
        · cases b
          · exact hr
          · exact .tuple (.cons hr (.cons (.bool _) .nil))
        · revert hn hu
          cases i.und <;> cases b <;> simp +contextual [Instr.typeAssert]
      · rename_i e
        cases b
        · simp [bad] at h
        · simp only [if_true] at h
          replace h := map_ok h
          obtain ⟨z, hz, rfl⟩ := h
          refine ⟨_, hzz z hz, fun w => ?_⟩
          have hzr := run_zero ok (ti_ok hi) hz w
          revert hn hu
          cases i.und <;> simp +contextual [Instr.typeAssert, hzr, e]
  · cases h

theorem mapL_eq {α β : Type} (f : α → β) : ∀ l : List α, mapL f l = l.map f
  | [] => rfl
  | x :: l => by simp [mapL, mapL_eq f l]

theorem allL_of {α : Type} {p : α → Bool} : ∀ {l : List α}, (∀ x ∈ l, p x = true) → allL p l = true
  | [], _ => rfl
  | x :: l, h => by simp [allL, h x (by simp), allL_of (l := l) fun y hy => h y (by simp [hy])]

theorem parts_rel {G : Nat} (hg : Glob G ρ) {t : T Value} {a : Act} (ht : TRel ρ t a.tmps) : ∀ {ps : List (Nat × Operand)}, allL (closedO G) (ps.map (·.2)) = true →
    PRel ρ (mapL (fun p => (p.1, ev t p.2)) ps) (ps.map fun p => (p.1, a.eval p.2))
  | [], _ => .nil
  | (i, x) :: ps, h => by
    simp only [List.map_cons, allL, Bool.and_eq_true] at h
    exact .cons (ev_rel hg ht h.1) (parts_rel hg ht h.2)

/-- AN OPERATION THAT LOOKS AT ITS OPERANDS ALONE. -/
theorem pure_ok (ok : EnvOk P E) (hg : Glob E.G ρ) {t : T Value} {a : Act} (ht : TRel ρ t a.tmps) {o : Oper} (hc : allL (closedO E.G) o.op.operands.toList = true) {v : Value}
    (h : pureA E t o.op = .ok v) : ∃ v', VRel ρ v v' ∧ ∀ w, (execOp a.eval o).run P w = .ok (.value v') w := by
  obtain ⟨dst, op, type, pos, after, guard⟩ := o
  dsimp only at hc h
  have val : ∀ (s : Sem Value), (∃ v', VRel ρ v v' ∧ ∀ w, s.run P w = .ok v' w) → ∃ v', VRel ρ v v' ∧ ∀ w, (do pure (Next.value (← s)) : Sem Next).run P w = .ok (.value v') w := by
    rintro s ⟨v', h1, h2⟩
    exact ⟨v', h1, fun w => by simp [h2]⟩
  cases op <;> simp only [pureA, bad] at h <;> try (cases h; done)
  case move x =>
    cases h
    simp only [Op.operands, allL, Bool.and_eq_true] at hc
    exact ⟨_, ev_rel hg ht hc.1, fun w => rfl⟩
  case assign x =>
    cases h
    simp only [Op.operands, allL, Bool.and_eq_true] at hc
    exact ⟨_, ev_rel hg ht hc.1, fun w => rfl⟩
  case pick c x y =>
    simp only [Op.operands, allL, Bool.and_eq_true] at hc
    have hcr := ev_rel hg ht hc.1
    split at h
    · rename_i b hb
      cases h
      rw [hb] at hcr
      have hcc : a.eval c = .bool b := by generalize a.eval c = z at hcr; cases hcr; rfl
      refine ⟨if b then a.eval x else a.eval y, ?_, fun w => ?_⟩
      · cases b
        · exact ev_rel hg ht hc.2.2.1
        · exact ev_rel hg ht hc.2.1
      · cases b <;> simp [execOp, hcc, asBool]
    · cases h
  case build ty parts =>
    refine val _ ?_
    have hp : allL (closedO E.G) (parts.toList.map (·.2)) = true := by simpa [Op.operands] using hc
    have := build_ok ok (parts_rel hg ht hp) h
    have e : (parts.toList.map fun p => (p.1, a.eval p.2)).toArray = parts.map fun p => (p.1, a.eval p.2) := by
      apply Array.toList_inj.1; simp
    rw [e] at this
    exact this
  case nilCheck x =>
    simp only [Op.operands, allL, Bool.and_eq_true] at hc
    have hr := ev_rel hg ht hc.1
    split at h <;> try (cases h; done)
    · rename_i name first captured hx
      split at h <;> try (cases h; done)
      cases h
      rename_i hn1 hn2
      rw [hx] at hr
      generalize hz : a.eval x = z at hr
      cases hr with
      | func hf h1 h2 =>
        rename_i f' a' c'
        have hf' : f' = .method name := hf
        subst hf'
        refine ⟨_, .func rfl h1 h2, fun w => ?_⟩
        simp only [execOp, hz]
        have : ∀ u, a'[0]? = some u → (∀ t v, u ≠ .iface t v) ∧ u ≠ .nilIface := by
          intro u hu
          have hu' : a'.toList[0]? = some u := by simpa using hu
          cases hl : first.toList with
          | nil => rw [hl] at h1; cases hla : a'.toList with
            | nil => rw [hla] at hu'; simp at hu'
            | cons y ys => rw [hla] at h1; cases h1
          | cons y ys =>
            rw [hl] at h1
            cases hla : a'.toList with
            | nil => rw [hla] at h1; cases h1
            | cons y' ys' =>
              rw [hla] at h1 hu'
              simp at hu'; subst hu'
              cases h1 with
              | cons g1 g2 =>
                constructor
                · rintro t v rfl
                  cases g1
                  exact hn1 _ _ _ hl
                · rintro rfl
                  cases g1
                  exact hn2 _ hl
        cases hq : a'[0]? with
        | none => simp
        | some u =>
          obtain ⟨q1, q2⟩ := this u hq
          cases u <;> first | rfl | exact absurd rfl (q1 _ _) | exact absurd rfl q2
    · cases h
      rename_i hn1 hn2 hn3 hn4
      refine ⟨_, hr, fun w => ?_⟩
      simp only [execOp]
      generalize hz : a.eval x = z at hr
      generalize hy : ev t x = y at hr hn1 hn2 hn3 hn4
      cases hr <;> first
        | rfl
        | (exact absurd rfl hn1)
        | (exact absurd rfl hn2)
        | (exact absurd rfl hn3)
        | skip
      rename_i f f' _ _ _ _ hf _ _
      cases f with
      | method name => exact absurd rfl (hn4 _ _ _)
      | yield l => obtain ⟨L, _, rfl⟩ := hf; rfl
      | _ => cases hf; rfl
  case binOp op ty x y yt =>
    simp only [Op.operands, allL, Bool.and_eq_true] at hc
    exact val _ (binOp_ok ok (ev_rel hg ht hc.1) (ev_rel hg ht hc.2.1) x y h)
  case unOp op ty x =>
    simp only [Op.operands, allL, Bool.and_eq_true] at hc
    exact val _ (un_ok (ev_rel hg ht hc.1) h)
  case makeInterface ty x =>
    simp only [Op.operands, allL, Bool.and_eq_true] at hc
    replace h := bind_ok h
    obtain ⟨i, hi, h⟩ := h
    split at h
    · cases h
    · rename_i hn
      cases h
      refine val _ ⟨_, .iface (ev_rel hg ht hc.1), fun w => ?_⟩
      have hu := run_und ok (ti_ok hi) w
      revert hn hu
      cases hund : i.und <;> simp +contextual [isIface, hund, Instr.makeInterface]
  case makeFunc f first captured =>
    have hf : fnRel ρ f f ∧ v = .func f (mapL (ev t) first.toList).toArray (mapL (ev t) captured.toList).toArray := by
      cases f <;> simp [bad] at h <;> exact ⟨rfl, h.symm⟩
    obtain ⟨hf, rfl⟩ := hf
    simp only [Op.operands] at hc
    have h1 : allL (closedO E.G) first.toList = true := allL_of fun x hx => allL_mem hc (by simp [hx])
    have h2 : allL (closedO E.G) captured.toList = true := allL_of fun x hx => allL_mem hc (by simp [hx])
    refine val _ ⟨.func f (first.map a.eval) (captured.map a.eval), .func hf ?_ ?_, fun w => rfl⟩
    · simpa using evs_rel hg ht h1
    · simpa using evs_rel hg ht h2
  case slice ty x lo hi mx =>
    have hops : closedO E.G x = true ∧ (∀ y, lo = some y → closedO E.G y = true) ∧ (∀ y, hi = some y → closedO E.G y = true) ∧ (∀ y, mx = some y → closedO E.G y = true) := by
      simp only [Op.operands] at hc
      refine ⟨allL_mem hc (by simp), fun y e => allL_mem hc (by simp [e]), fun y e => allL_mem hc (by simp [e]), fun y e => allL_mem hc (by simp [e])⟩
    exact val _ (slice_ok ok (ev_rel hg ht hops.1) (optV_rel hg ht hops.2.1) (optV_rel hg ht hops.2.2.1) (optV_rel hg ht hops.2.2.2) h)
  case fieldAddr s x f =>
    simp only [Op.operands, allL, Bool.and_eq_true] at hc
    exact val _ (fieldAddr_ok ok (ev_rel hg ht hc.1) h)
  case field ty x f =>
    simp only [Op.operands, allL, Bool.and_eq_true] at hc
    exact val _ (field_ok ok (ev_rel hg ht hc.1) h)
  case indexAddr ty x ix =>
    simp only [Op.operands, allL, Bool.and_eq_true] at hc
    exact val _ (indexAddr_ok ok (ev_rel hg ht hc.1) (ev_rel hg ht hc.2.1) h)
  case index ty x ix =>
    simp only [Op.operands, allL, Bool.and_eq_true] at hc
    exact val _ (index_ok ok (ev_rel hg ht hc.1) (ev_rel hg ht hc.2.1) h)
  case typeAssert x xt as ok' =>
    simp only [Op.operands, allL, Bool.and_eq_true] at hc
    exact val _ (typeAssert_ok ok (ev_rel hg ht hc.1) h xt)
  case extract x ix =>
    simp only [Op.operands, allL, Bool.and_eq_true] at hc
    have hr := ev_rel hg ht hc.1
    split at h
    · rename_i vs hx
      rw [hx] at hr
      generalize hz : a.eval x = z at hr
      cases hr with
      | tuple hl =>
        rename_i ys
        split at h
        · rename_i u hu
          cases h
          rw [nth_eq] at hu
          obtain ⟨y, h1, h2⟩ := hl.get hu
          refine ⟨y, h2, fun w => ?_⟩
          have h1' : ys[ix]? = some y := by simpa using h1
          simp [execOp, hz, Instr.extract, h1']
        · cases h
    · cases h
end
end Go.AM
