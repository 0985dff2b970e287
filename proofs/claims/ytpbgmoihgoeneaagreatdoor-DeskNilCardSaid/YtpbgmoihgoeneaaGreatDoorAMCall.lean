/- The abstract machine's calls: what is called, and with what, is the model's; and all operations that write together. -/
import Derived.Test.YtpbgmoihgoeneaaGreatDoorAMLoud2
namespace Go.AM
section
variable {P : Program} {E : Env} {ρ : Map} {G : Nat} {σ : St} {w : World}

/-! ## Methods -/

inductive PlRel (ρ : Map) : APlace → Place → Prop where
  | val {v v' : Value} : VRel ρ v v' → PlRel ρ (.val v) (.val v')
  | var {b o : Nat} {L : Loc} : ρ b = some L → PlRel ρ (.var ⟨b, o, none⟩) (.var ⟨L.blk, L.sh + o, none⟩)

theorem get_ok (ok : EnvOk P E) (r : Rel G ρ σ w) {t : TypeId} {p : APlace} {p' : Place} (hp : PlRel ρ p p') {v : Value} (h : p.getA E σ t = .ok v) : ∃ v', VRel ρ v v' ∧ (p'.get t).run P w = .ok v' w := by
  cases hp with
  | val hv => cases h; exact ⟨_, hv, rfl⟩
  | var hL => exact loadVar_ok ok r hL h

theorem fieldPlace_ok (ok : EnvOk P E) {f : Field} {b o : Nat} {L : Loc} (hL : ρ b = some L) {a : Addr} (h : fieldPlaceA E ⟨b, o, none⟩ f = .ok a) (w : World) :
    ∃ a', PlRel ρ (.var a) (.var a') ∧ (fieldPlace ⟨L.blk, L.sh + o, none⟩ f).run P w = .ok a' w := by
  unfold fieldPlaceA at h
  replace h := bind_ok h
  obtain ⟨j, hj, h⟩ := h
  split at h
  · cases h
  · rename_i hz
    cases h
    refine ⟨(⟨L.blk, L.sh + o, none⟩ : Addr).add f.offset, ?_, by simp [fieldPlace, run_size ok (ti_ok hj), hz]⟩
    rw [addr_add, addr_add, Nat.add_assoc]; exact .var hL

theorem follow_ok (ok : EnvOk P E) (r : Rel G ρ σ w) : ∀ {steps : List FieldStep} {t : TypeId} {p : APlace} {p' : Place} (_ : PlRel ρ p p') {t2 : TypeId} {p2 : APlace}, followA E σ steps t p = .ok (t2, p2) →
    ∃ p2', PlRel ρ p2 p2' ∧ (follow steps t p').run P w = .ok (t2, p2') w
  | [], t, p, p', hp, t2, p2, h => by cases h; exact ⟨p', hp, rfl⟩
  | s :: rest, t, p, p', hp, t2, p2, h => by
    simp only [followA] at h
    replace h := bind_ok h
    obtain ⟨i, hi, h⟩ := h
    replace h := bind_ok h
    obtain ⟨f, hf, h⟩ := h
    obtain ⟨fs, g1, g2⟩ := fieldOf_ok hf
    have hu := run_und ok (ti_ok hi) w
    split at h
    · rename_i hd
      replace h := bind_ok h
      obtain ⟨v, hv, h⟩ := h
      replace h := bind_ok h
      obtain ⟨a, ha, h⟩ := h
      replace h := bind_ok h
      obtain ⟨a2, ha2, h⟩ := h
      obtain ⟨v', q1, q2⟩ := get_ok ok r hp hv
      obtain ⟨b, o, L, rfl, rfl, hL, rfl⟩ := addrOf_ok q1 ha
      obtain ⟨a', q3, q4⟩ := fieldPlace_ok ok hL ha2 w
      obtain ⟨p2', q5, q6⟩ := follow_ok ok r q3 h
      exact ⟨p2', q5, by simp [follow, hu, g1, g2, hd, q2, asAddr, q4, q6]⟩
    · rename_i hd
      split at h
      · rename_i a
        replace h := bind_ok h
        obtain ⟨a2, ha2, h⟩ := h
        cases hp with
        | var hL =>
          obtain ⟨a', q3, q4⟩ := fieldPlace_ok ok hL ha2 w
          obtain ⟨p2', q5, q6⟩ := follow_ok ok r q3 h
          exact ⟨p2', q5, by simp [follow, hu, g1, g2, hd, q4, q6]⟩
      · rename_i cs
        replace h := bind_ok h
        obtain ⟨j, hj, h⟩ := h
        replace h := bind_ok h
        obtain ⟨v, hv, h⟩ := h
        cases hp with
        | val hr =>
          cases hr with
          | agg hl =>
            obtain ⟨v', q1, q2⟩ := part_ok ok (ti_ok hj) hl hv
            obtain ⟨p2', q5, q6⟩ := follow_ok ok r (.val q1) h
            exact ⟨p2', q5, by simp [follow, hu, g1, g2, hd, q2, q6]⟩
      · cases h

theorem wrap_chk {xt : TypeId} {a : Addr} (name : String) (w : World) : (Builtin.ssaWrapNilChk_ #[xt] xt #[.pointer (some a), strVal "", strVal name]).run P w = .ok (.pointer (some a)) w := rfl

theorem receiver_ok (ok : EnvOk P E) (r : Rel G ρ σ w) {xt : TypeId} {p : APlace} {p' : Place} {b : Bool} (hp : PlRel ρ p p') {v : Value} (h : receiverAtA E σ xt p b = .ok v) :
    ∃ v', VRel ρ v v' ∧ ∀ wr, (receiverAt xt p' b wr).run P w = .ok v' w := by
  unfold receiverAtA at h
  replace h := bind_ok h
  obtain ⟨i, hi, h⟩ := h
  have hu := run_und ok (ti_ok hi) w
  split at h
  · rename_i e hund
    obtain ⟨v', q1, q2⟩ := get_ok ok r hp h
    exact ⟨v', q1, fun wr => by simp [receiverAt, hu, hund, q2]⟩
  · rename_i e hund
    replace h := bind_ok h
    obtain ⟨q, hq, h⟩ := h
    replace h := bind_ok h
    obtain ⟨a, ha, h⟩ := h
    obtain ⟨q', q1, q2⟩ := get_ok ok r hp hq
    obtain ⟨b, o, L, rfl, rfl, hL, rfl⟩ := addrOf_ok q1 ha
    obtain ⟨v', q3, q4⟩ := loadVar_ok ok r hL h
    refine ⟨v', q3, fun wr => ?_⟩
    cases wr with
    | none => simp [receiverAt, hu, hund, q2, asAddr, q4]
    | some name => simp [receiverAt, hu, hund, q2, wrap_chk, asAddr, q4]
  · rename_i a hn
    cases h
    cases hp with
    | var hL =>
      refine ⟨_, .ptr hL, fun wr => ?_⟩
      revert hn hu
      cases i.und <;> simp +contextual [receiverAt]
  · cases h
  · rename_i hn
    obtain ⟨v', q1, q2⟩ := get_ok ok r hp h
    refine ⟨v', q1, fun wr => ?_⟩
    revert hn hu
    cases i.und <;> simp +contextual [receiverAt, q2]

theorem findMethod_eq (name : String) : ∀ l : List Method, findMethod name l = l.find? (·.name == name)
  | [] => rfl
  | m :: l => by
    simp only [findMethod, List.find?_cons]
    cases m.name == name <;> simp [findMethod_eq name l]

theorem method_ok (ok : EnvOk P E) (r : Rel G ρ σ w) : ∀ (d D : Nat), d ≤ D → ∀ {t : TypeId} {v v' : Value} {name : String} (_ : VRel ρ v v') {f : FuncId} {rc : Value}, methodA E σ d t v name = .ok (f, rc) →
    ∃ rc', VRel ρ rc rc' ∧ (method D t v' name).run P w = .ok (f, rc') w := by
  intro d
  induction d with
  | zero => intro D _ t v v' name _ f rc h; simp [methodA, bad] at h
  | succ d ih =>
    intro D hD t v v' name hv f rc h
    obtain ⟨D, rfl⟩ : ∃ k, D = k + 1 := ⟨D - 1, by omega⟩
    simp only [methodA] at h
    replace h := bind_ok h
    obtain ⟨i, hi, h⟩ := h
    obtain ⟨I, hI, _, _, _, _, hm⟩ := run_typeInfo (P := P) ok (ti_ok hi) w
    split at h
    · cases h
    · rename_i m hfm
      rw [findMethod_eq] at hfm
      have hfind : I.methods.find? (fun x => x.name == name) = some m := by
        rw [← hm] at hfm
        rw [← Array.find?_toList]; exact hfm
      replace h := bind_ok h
      obtain ⟨⟨xt, x⟩, hfol, h⟩ := h
      obtain ⟨x', q1, q2⟩ := follow_ok ok r (.val hv) hfol
      dsimp only at h
      split at h
      · rename_i hfn
        replace h := bind_ok h
        obtain ⟨u, hu, h⟩ := h
        obtain ⟨u', q3, q4⟩ := get_ok ok r q1 hu
        split at h
        · cases q3 with
          | iface q5 =>
            obtain ⟨rc', q6, q7⟩ := ih D (by omega) q5 h
            exact ⟨rc', q6, by simp [method, hI, hfind, q2, hfn, q4, q7]⟩
        · cases h
      · rename_i g pr hfn
        replace h := map_ok h
        obtain ⟨rc0, hrc, h⟩ := h
        cases h
        obtain ⟨rc', q6, q7⟩ := receiver_ok ok r q1 hrc
        exact ⟨rc', q6, by simp [method, hI, hfind, q2, hfn, q7]⟩

/-! ## What is called -/

def DRel (ρ : Map) (d d' : Deferred) : Prop :=
  ∃ f f' c c', d.target = .fn f c ∧ d'.target = .fn f' c' ∧ fnRel ρ f f' ∧ LRel ρ c.toList c'.toList ∧ LRel ρ d.args.toList d'.args.toList

def NRel (ρ : Map) (w : World) (n : ANext) (N : Next) : Prop :=
  match n with
  | .value v => (∃ v', N = .value v' ∧ VRel ρ v v') ∨ (N = .skip ∧ v = undef)
  | .call f args => ∃ args', N = .enter f args' ∧ LRel ρ args args'.toList
  | .round l args => ∃ L lp args', ρ l = some L ∧ w.heap[L.blk]? = some (.loop lp) ∧ LRel ρ args args'.toList ∧ args'.size = lp.params.size ∧
      N = .round L.blk lp.fn ((lp.params.zip args').foldl (fun tmps (t, a) => tmps.setIfInBounds t a) lp.tmps) lp.assign lp.body
  | .defer d => ∃ d', N = .defer d' ∧ DRel ρ d d'

theorem findByte_eq (c : UInt8) : ∀ (l : List UInt8) (n : Nat), findByte c.toNat l n = match (List.range l.length).find? (fun i => l[i]! == c) with | some i => ((n + i : Nat) : Int) | none => -1
  | [], n => rfl
  | b :: l, n => by
    have hr : (List.range (l.length + 1)).find? (fun i => (b :: l)[i]! == c) = if b = c then some 0 else ((List.range l.length).find? (fun i => l[i]! == c)).map (· + 1) := by
      rw [List.range_succ_eq_map, List.find?_cons]
      have : ((b :: l)[0]! == c) = (b == c) := rfl
      rw [this]
      by_cases hb : b = c
      · simp [hb]
      · have hb' : (b == c) = false := by simpa using hb
        rw [hb', if_neg hb]
        simp only
        rw [List.find?_map]; rfl
    simp only [findByte, List.length_cons]
    rw [hr]
    by_cases hb : b = c
    · subst hb; simp
    · have : ¬ b.toNat = c.toNat := fun e => hb (UInt8.toNat_inj.1 e)
      rw [if_neg this, if_neg hb, findByte_eq c l (n + 1)]
      cases (List.range l.length).find? (fun i => l[i]! == c) with
      | none => rfl
      | some i => simp only [Option.map_some]; congr 1; omega

theorem callFunc_ok (ok : EnvOk P E) (r : Rel G ρ σ w) {f : FuncId} {args : List Value} {args' : Array Value} (ha : LRel ρ args args'.toList) {n : ANext} {σ' : St} (h : callFuncA E f args σ = .ok (n, σ')) :
    σ' = σ ∧ ∃ N, (callFunc f args').run P w = .ok N w ∧ NRel ρ w n N := by
  unfold callFuncA at h
  split at h
  · rename_i x hx
    replace h := map_ok h
    obtain ⟨v, hv, h⟩ := h
    cases h
    obtain ⟨fn, h1, h2, h3, h4, h5⟩ := ok.ext f x hx
    refine ⟨rfl, ?_⟩
    cases x
    have h5' := h5 rfl
    unfold extA at hv
    split at hv
    · rename_i s c _
      cases hv
      cases ha' : args'.toList with
      | nil => rw [ha'] at ha; cases ha
      | cons a l =>
        rw [ha'] at ha
        cases ha with
        | cons g1 g2 =>
          cases g1
          cases g2 with
          | cons g3 g4 =>
            cases g3; cases g4
            have hargs : args' = #[.string s, .int .u8 c] := Array.toList_inj.1 (by rw [ha'])
            subst hargs
            refine ⟨.value (goInt (findByte (UInt8.ofNat c.toNat).toNat s.data.toList 0)), ?_, .inl ⟨_, rfl, .int _ _⟩⟩
            have hget : ∀ i, s[i]! = s.data.toList[i]! := fun i => by
              by_cases hi : i < s.size
              · have hi' : i < s.data.size := hi
                rw [getElem!_pos s i hi]
                have hl : i < s.data.toList.length := by simpa using hi'
                rw [getElem!_pos s.data.toList i hl]
                simp; rfl
              · have hi' : ¬ i < s.data.size := hi
                rw [getElem!_neg s i hi]
                have hl : ¬ i < s.data.toList.length := by simpa using hi'
                rw [getElem!_neg s.data.toList i hl]
            have hrun : (Extern.BytealgIndexByte.indexByte #[.string s, .int .u8 c]).run P w = .ok (goInt (findByte (UInt8.ofNat c.toNat).toNat s.data.toList 0)) w := by
              show (match (List.range s.size).find? (fun i => s[i]! == c.toNat.toUInt8) with
                | some i => (pure (goInt i) : Sem Value)
                | none => pure (goInt (-1))).run P w = _
              rw [findByte_eq]
              have hf : (fun i : Nat => s[i]! == c.toNat.toUInt8) = (fun i : Nat => s.data.toList[i]! == UInt8.ofNat c.toNat) := by
                funext i; rw [hget]
              have hsz : s.size = s.data.toList.length := Array.length_toList.symm
              rw [hf, hsz]
              cases (List.range s.data.toList.length).find? (fun i => s.data.toList[i]! == UInt8.ofNat c.toNat) with
              | none => rfl
              | some i => simp
            have h2' : ¬ fn.name = "runtime.NumGoroutine" := by simpa using h2
            simp [callFunc, h1, h2', h3, h4, h5', hrun]
    · cases hv
  · rename_i hx
    split at h
    · rename_i fn hfn
      split at h
      · rename_i hb
        cases h
        obtain ⟨h1, h2⟩ := ok.fn f fn hfn
        refine ⟨rfl, .enter f args', ?_, args', rfl, ha⟩
        have hb' : ¬ fn.body = none := by intro hq; rw [hq] at hb; cases hb
        have h2' : ¬ fn.name = "runtime.NumGoroutine" := by simpa using h2
        simp [callFunc, h1, h2', hb']
      · cases h
    · cases h

theorem callMethod_ok (ok : EnvOk P E) (hD : 100 ≤ P.types.size + Made.depth) (r : Rel G ρ σ w) {rc rc' : Value} (hr : VRel ρ rc rc') {name : String} {args : List Value} {args' : Array Value} (ha : LRel ρ args args'.toList) {n : ANext} {σ' : St}
    (h : callMethodA E rc name args σ = .ok (n, σ')) : σ' = σ ∧ ∃ N, (callMethod rc' name args').run P w = .ok N w ∧ NRel ρ w n N := by
  unfold callMethodA at h
  split at h
  · replace h := bind_ok h
    obtain ⟨⟨f, q⟩, hm, h⟩ := h
    cases hr with
    | iface hv =>
      obtain ⟨q', g1, g2⟩ := method_ok ok r 100 (P.types.size + Made.depth) hD hv hm
      obtain ⟨e, N, g3, g4⟩ := callFunc_ok ok r (args' := #[q'] ++ args') (by simpa using LRel.cons g1 ha) h
      exact ⟨e, N, by simp [callMethod, g2, g3], g4⟩
  · cases h

theorem invoke_ok (ok : EnvOk P E) (hD : 100 ≤ P.types.size + Made.depth) (r : Rel G ρ σ w) {f f' : Fn} {args cp : List Value} {args' cp' : Array Value} (hf : fnRel ρ f f') (ha : LRel ρ args args'.toList) (hc : LRel ρ cp cp'.toList) {n : ANext} {σ' : St}
    (h : invokeA E f args cp σ = .ok (n, σ')) : σ' = σ ∧ ∃ N, (invoke (.fn f' cp') args').run P w = .ok N w ∧ NRel ρ w n N := by
  unfold invokeA at h
  split at h
  · cases hf
    obtain ⟨e, N, g3, g4⟩ := callFunc_ok ok r (args' := args' ++ cp') (by simpa using ha.append hc) h
    exact ⟨e, N, by simpa [invoke] using g3, g4⟩
  · cases hf
    split at h
    · rename_i rc rest
      cases ha' : args'.toList with
      | nil => rw [ha'] at ha; cases ha
      | cons a l =>
        rw [ha'] at ha
        cases ha with
        | cons g1 g2 =>
          have h0 : args'[0]? = some a := by
            have : args'.toList[0]? = some a := by rw [ha']; rfl
            simpa using this
          have hsz : args'.size = l.length + 1 := by rw [← Array.length_toList, ha']; rfl
          have hex : (args'.extract 1 args'.size).toList = l := by simp [ha', List.extract_eq_take_drop, hsz]
          obtain ⟨e, N, g3, g4⟩ := callMethod_ok ok hD r g1 (args' := args'.extract 1 args'.size) (by rw [hex]; exact g2) h
          exact ⟨e, N, by simpa [invoke, h0] using g3, g4⟩
    · cases h
  · cases hf
    rename_i t name
    split at h
    · rename_i rc rest
      replace h := bind_ok h
      obtain ⟨i, hi, h⟩ := h
      cases ha' : args'.toList with
      | nil => rw [ha'] at ha; cases ha
      | cons a l =>
        rw [ha'] at ha
        cases ha with
        | cons g1 g2 =>
          have h0 : args'[0]? = some a := by
            have : args'.toList[0]? = some a := by rw [ha']; rfl
            simpa using this
          have hsz : args'.size = l.length + 1 := by rw [← Array.length_toList, ha']; rfl
          have hex : (args'.extract 1 args'.size).toList = l := by simp [ha', List.extract_eq_take_drop, hsz]
          have hu := run_und ok (ti_ok hi) w
          have hrr : VRel ρ (if isIface i then rc else .iface t rc) (if isIface i then a else .iface t a) := by
            cases isIface i
            · exact .iface g1
            · exact g1
          obtain ⟨e, N, g3, g4⟩ := callMethod_ok ok hD r hrr (args' := args'.extract 1 args'.size) (by rw [hex]; exact g2) h
          refine ⟨e, N, ?_, g4⟩
          revert g3 hu
          cases hund : i.und <;> simp +contextual [invoke, h0, isIface, hund]
    · cases h
  · cases hf
    rename_i t path g ptr
    split at h
    · rename_i x rest
      replace h := bind_ok h
      obtain ⟨⟨xt, pl⟩, hfol, h⟩ := h
      replace h := bind_ok h
      obtain ⟨rv, hrv, h⟩ := h
      cases ha' : args'.toList with
      | nil => rw [ha'] at ha; cases ha
      | cons a l =>
        rw [ha'] at ha
        cases ha with
        | cons g1 g2 =>
          have h0 : args'[0]? = some a := by
            have : args'.toList[0]? = some a := by rw [ha']; rfl
            simpa using this
          have hsz : args'.size = l.length + 1 := by rw [← Array.length_toList, ha']; rfl
          have hex : (args'.extract 1 args'.size).toList = l := by simp [ha', List.extract_eq_take_drop, hsz]
          obtain ⟨x', q1, q2⟩ := follow_ok ok r (.val g1) hfol
          obtain ⟨rv', q3, q4⟩ := receiver_ok ok r q1 hrv
          obtain ⟨e, N, g3, g4⟩ := callFunc_ok ok r (args' := #[rv'] ++ args'.extract 1 args'.size) (by
            simp only [Array.toList_append, hex]
            exact LRel.cons q3 g2) h
          exact ⟨e, N, by simpa [invoke, h0, receiverVia, q2, q4] using g3, g4⟩
    · cases h
  · obtain ⟨L, hL, rfl⟩ := hf
    split at h
    · rename_i ps _ _ hb
      split at h
      · rename_i hlen
        cases h
        obtain ⟨O, f1, lp, rfl, f2, f3, f4, f5, f6, f7, f8, f9, f10⟩ := r.blk _ _ L hb hL
        have hsz : args'.size = lp.params.size := by
          rw [f5]
          have := ha.length
          simp at this ⊢; omega
        refine ⟨rfl, .round L.blk lp.fn ((lp.params.zip args').foldl (fun tmps (t, a) => tmps.setIfInBounds t a) lp.tmps) lp.assign lp.body, ?_, L, lp, args', hL, f1, ha, hsz, rfl⟩
        have hget := run_getObj (P := P) w _ _ f1 (by simp)
        simp [invoke, Instr.yield, Instr.getLoop, hget, hsz]
      · cases h
    · cases h
theorem target_ok {x x' : Value} (hx : VRel ρ x x') {args : List Value} {args' : Array Value} (ha : LRel ρ args args'.toList) {f : Fn} {a c : List Value} (h : targetA x args = .ok (f, a, c)) (w : World) :
    ∃ f' a' c', (Deferred.ofValue x' args').run P w = .ok { target := .fn f' c', args := a' } w ∧ fnRel ρ f f' ∧ LRel ρ a a'.toList ∧ LRel ρ c c'.toList := by
  unfold targetA at h
  split at h
  · cases h
    cases hx with
    | func hf h1 h2 => exact ⟨_, _, _, rfl, hf, by simpa using h1.append ha, h2⟩
  · cases h

theorem loudBuiltin_ok (ok : EnvOk P E) (r : Rel G ρ σ w) {b : Builtin} {ts : Array TypeId} {args : List Value} {args' : Array Value} (ha : LRel ρ args args'.toList) {v : Value} {σ' : St}
    (h : loudBuiltinA E b ts.toList args σ = .ok (v, σ')) (ty : TypeId) :
    ∃ v' ρ' w', (∀ cs, (builtin b ts ty cs args').run P w = .ok (.value v') w') ∧ Rel G ρ' σ' w' ∧ Grow σ.next ρ σ w ρ' σ' w' ∧ VRel ρ' v v' := by
  have two : ∀ {x y : Value} {l : List Value}, args = x :: y :: l → ∃ x' y', args'[0]? = some x' ∧ args'[1]? = some y' ∧ VRel ρ x x' ∧ VRel ρ y y' := by
    rintro x y l rfl
    cases ha' : args'.toList with
    | nil => rw [ha'] at ha; cases ha
    | cons x' l' =>
      rw [ha'] at ha
      cases ha with
      | cons h1 h2 =>
        cases l' with
        | nil => cases h2
        | cons y' l'' =>
          cases h2 with
          | cons h3 h4 =>
            refine ⟨x', y', ?_, ?_, h1, h3⟩
            · have : args'.toList[0]? = some x' := by rw [ha']; rfl
              simpa using this
            · have : args'.toList[1]? = some y' := by rw [ha']; rfl
              simpa using this
  unfold loudBuiltinA at h
  split at h
  · rename_i t u ts' s x args hts
    obtain ⟨s', x', e1, e2, hs, hx⟩ := two rfl
    have hts0 : ts[0]? = some t := by
      have : ts.toList[0]? = some t := by rw [hts]; rfl
      simpa using this
    have hts1 : ts[1]? = some u := by
      have : ts.toList[1]? = some u := by rw [hts]; rfl
      simpa using this
    obtain ⟨v', ρ', w', f1, f2, f3, f4⟩ := append_ok (P := P) ok r hs hx h ts args' hts0 hts1 e1 e2 ty
    exact ⟨v', ρ', w', fun cs => by simp [builtin, f1], f2, f3, f4⟩
  · rename_i t ts' s x args hts
    obtain ⟨s', x', e1, e2, hs, hx⟩ := two rfl
    have hts0 : ts[0]? = some t := by
      have : ts.toList[0]? = some t := by rw [hts]; rfl
      simpa using this
    obtain ⟨v', w', f1, f2, f3, f4⟩ := copy_ok (P := P) ok r hs hx h ts args' hts0 e1 e2 ty
    exact ⟨v', ρ, w', fun cs => by simp [builtin, f1], f2, f3 _, f4⟩
  · rename_i t ts' s x args hts
    obtain ⟨s', x', e1, e2, hs, hx⟩ := two rfl
    have hts0 : ts[0]? = some t := by
      have : ts.toList[0]? = some t := by rw [hts]; rfl
      simpa using this
    replace h := map_ok h
    obtain ⟨σ1, hd, h⟩ := h
    cases h
    obtain ⟨w', f1, f2, f3⟩ := delete_ok (P := P) ok r hs hx hd ts args' hts0 e1 e2 ty
    exact ⟨_, ρ, w', fun cs => by simp [builtin, f1], f2, f3 _, .tuple .nil⟩
  · cases h

/-- AN OPERATION THAT WRITES, OR CALLS. -/
theorem loud_ok (ok : EnvOk P E) (hD : 100 ≤ P.types.size + Made.depth) (r : Rel E.G ρ σ w) {t : T Value} {a : Act} (ht : TRel ρ t a.tmps) {o : Oper} (hc : allL (closedO E.G) o.op.operands.toList = true)
    {n : ANext} {σ' : St} (h : loudA E t σ o.op = .ok (n, σ')) :
    ∃ N ρ' w', (execOp a.eval o).run P w = .ok N w' ∧ Rel E.G ρ' σ' w' ∧ Grow σ.next ρ σ w ρ' σ' w' ∧ NRel ρ' w' n N := by
  have hg := r.glob
  obtain ⟨dst, op, type, pos, after, guard⟩ := o
  dsimp only at hc h
  cases op <;> simp only [loudA, bad] at h <;> try (cases h; done)
  case store ty x y =>
    simp only [Op.operands, allL, Bool.and_eq_true] at hc
    replace h := bind_ok h
    obtain ⟨ad, had, h⟩ := h
    replace h := bind_ok h
    obtain ⟨i, hi, h⟩ := h
    obtain ⟨b, o, L, rfl, _, hL, hx'⟩ := addrOf_ok (ev_rel hg ht hc.1) had
    have hy := (ev_rel hg ht hc.2.1).cells
    split at h
    · cases h
    rename_i hsz
    replace h := map_ok h
    obtain ⟨σ1, hw, h⟩ := h
    cases h
    obtain ⟨w', f1, f2, f3⟩ := writeN_ok (P := P) r hL hy hw
    have hlen : (a.eval y).cells.size = i.size := by
      have := hy.length
      have hsz' : (vcells (ev t y)).length = i.size := by simpa using hsz
      rw [← hsz', this]; simp
    refine ⟨.skip, ρ, w', ?_, f2, f3 _, .inr ⟨rfl, rfl⟩⟩
    simp [execOp, Instr.storeAt, hx', Instr.sureAddr, storeVar, run_size ok (ti_ok hi), hlen, f1]
  case mapUpdate ty m k x =>
    simp only [Op.operands, allL, Bool.and_eq_true] at hc
    replace h := map_ok h
    obtain ⟨σ1, hm, h⟩ := h
    cases h
    obtain ⟨w', f1, f2, f3⟩ := mapUpdate_ok (P := P) ok r (ev_rel hg ht hc.1) (ev_rel hg ht hc.2.1) (ev_rel hg ht hc.2.2.1) hm
    exact ⟨.skip, ρ, w', by simp [execOp, f1], f2, f3 _, .inr ⟨rfl, rfl⟩⟩
  case insert ty m k x =>
    simp only [Op.operands, allL, Bool.and_eq_true] at hc
    replace h := map_ok h
    obtain ⟨σ1, hm, h⟩ := h
    cases h
    obtain ⟨w', f1, f2, f3⟩ := mapUpdate_ok (P := P) ok r (ev_rel hg ht hc.1) (ev_rel hg ht hc.2.1) (ev_rel hg ht hc.2.2.1) hm
    exact ⟨.skip, ρ, w', by simp [execOp, f1], f2, f3 _, .inr ⟨rfl, rfl⟩⟩
  case convert src dst x =>
    simp only [Op.operands, allL, Bool.and_eq_true] at hc
    replace h := map_ok h
    obtain ⟨v, hv, h⟩ := h
    cases h
    obtain ⟨v', w', f1, f2, f3, f4⟩ := convertSlice_ok (P := P) ok r (ev_rel hg ht hc.1) hv
    exact ⟨.value v', ρ, w', by simp [execOp, f1], f2, f3 _, .inl ⟨v', rfl, f4⟩⟩
  case range ty x =>
    simp only [Op.operands, allL, Bool.and_eq_true] at hc
    replace h := map_ok h
    obtain ⟨⟨v, σ1⟩, hv, h⟩ := h
    cases h
    obtain ⟨v', ρ', w', f1, f2, f3, f4⟩ := range_ok (P := P) ok r (ev_rel hg ht hc.1) hv
    exact ⟨.value v', ρ', w', by simp [execOp, f1], f2, f3, .inl ⟨v', rfl, f4⟩⟩
  case next x b =>
    simp only [Op.operands, allL, Bool.and_eq_true] at hc
    replace h := map_ok h
    obtain ⟨⟨v, σ1⟩, hv, h⟩ := h
    cases h
    obtain ⟨v', w', f1, f2, f3, f4⟩ := next_ok (P := P) r (ev_rel hg ht hc.1) hv type
    exact ⟨.value v', ρ, w', by simp [execOp, f1], f2, f3 _, .inl ⟨v', rfl, f4⟩⟩
  case call c =>
    obtain ⟨callee, args, ats⟩ := c
    simp only [Op.operands, Call.operands] at hc
    have hc' : allL (closedO E.G) args.toList = true := allL_of fun x hx => allL_mem hc (by simp [hx])
    have hargs : LRel ρ (mapL (ev t) args.toList) (args.map a.eval).toList := by simpa using evs_rel hg ht hc'
    unfold callA at h
    dsimp only at h
    split at h
    · rename_i b
      replace h := map_ok h
      obtain ⟨⟨v, σ1⟩, hv, h⟩ := h
      cases h
      obtain ⟨v', ρ', w', f1, f2, f3, f4⟩ := loudBuiltin_ok (P := P) ok r hargs hv type
      exact ⟨.value v', ρ', w', by simp [execOp, resolve, invoke, f1], f2, f3, .inl ⟨v', rfl, f4⟩⟩
    · rename_i recv name
      have hrc := ev_rel hg ht (allL_mem hc (by simp) : closedO E.G recv = true)
      obtain ⟨rfl, N, f1, f2⟩ := callMethod_ok (P := P) ok hD r hrc hargs h
      refine ⟨N, ρ, w, ?_, r, Grow.refl _ _ _ _, f2⟩
      have h0 : (#[a.eval recv] ++ args.map a.eval)[0]? = some (a.eval recv) := by rw [Array.getElem?_append_left (by simp)]; rfl
      have hex : (#[a.eval recv] ++ args.map a.eval).extract 1 (#[a.eval recv] ++ args.map a.eval).size = args.map a.eval := by
        apply Array.toList_inj.1
        simp [List.extract_eq_take_drop]
        rw [List.take_of_length_le (by simp)]
      simp only [execOp, resolve, Sem.run_bind, Sem.run_pure, Result.andThen_ok, invoke, h0, hex]
      exact f1
    · rename_i f
      have hf := ev_rel hg ht (allL_mem hc (by simp) : closedO E.G f = true)
      replace h := bind_ok h
      obtain ⟨⟨fn, av, cv⟩, htg, h⟩ := h
      obtain ⟨fn', a', c', g1, g2, g3, g4⟩ := target_ok (P := P) hf hargs htg w
      obtain ⟨rfl, N, f1, f2⟩ := invoke_ok (P := P) ok hD r g2 g3 g4 h
      refine ⟨N, ρ, w, ?_, r, Grow.refl _ _ _ _, f2⟩
      simp only [execOp, resolve, Sem.run_bind, g1, Result.andThen_ok, f1]
  case defer c =>
    obtain ⟨callee, args, ats⟩ := c
    simp only [Op.operands, Call.operands] at hc
    have hc' : allL (closedO E.G) args.toList = true := allL_of fun x hx => allL_mem hc (by simp [hx])
    have hargs : LRel ρ (mapL (ev t) args.toList) (args.map a.eval).toList := by simpa using evs_rel hg ht hc'
    replace h := map_ok h
    obtain ⟨d, hd, h⟩ := h
    cases h
    unfold deferA at hd
    dsimp only at hd
    split at hd
    · rename_i f
      have hf := ev_rel hg ht (allL_mem hc (by simp) : closedO E.G f = true)
      replace hd := map_ok hd
      obtain ⟨⟨fn, av, cv⟩, htg, hd⟩ := hd
      cases hd
      obtain ⟨fn', a', c', g1, g2, g3, g4⟩ := target_ok (P := P) hf hargs htg w
      refine ⟨.defer { target := .fn fn' c', args := a' }, ρ, w, ?_, r, Grow.refl _ _ _ _, ⟨_, rfl, fn, fn', cv.toArray, c', rfl, rfl, g2, by simpa using g4, by simpa using g3⟩⟩
      simp only [execOp, resolve, Sem.run_bind, g1, Result.andThen_ok, Sem.run_pure]
    · cases hd
end
end Go.AM
