/- The abstract machine's operations that look at their operands alone: each is the model's. -/
import Derived.Test.YtpbgmoihgoeneaaGreatDoorAMWorld
import Derived.Laws.Strings
namespace Go.AM

def aggOf (d : TypeDesc) : Bool := match d with | .struct _ => true | .array _ _ => true | _ => false

/-- What the machine is told of a program is true of it. -/
structure EnvOk (P : Program) (E : Env) : Prop where
  und : ∀ t i, E.ty t = some i → P.underlying t = some i.und
  info : ∀ t i, E.ty t = some i → ∃ I, P.info? t = some I ∧ I.size = i.size ∧ I.bytes = i.bytes ∧ I.zero = i.zero ∧ I.methods.toList = i.methods
  agg : ∀ t i, E.ty t = some i → i.agg = aggOf i.und
  eq : ∀ t i, E.ty t = some i → i.eqOk = true → P.stoodInHeld t = false ∧ P.eqGuardType P.depth t = false
  fn : ∀ f fn, E.fn f = some fn → P.funcs[f]? = some fn ∧ (fn.name == "runtime.NumGoroutine") = false
  ext : ∀ f x, E.ext f = some x → ∃ fn, P.funcs[f]? = some fn ∧ (fn.name == "runtime.NumGoroutine") = false ∧ fn.body = none ∧ Extern.findNext fn = none ∧
    (x = .indexByte → Extern.find fn = some Extern.BytealgIndexByte.indexByte)
  mixed : P.follows .mixedOrders = true

section
variable {P : Program} {E : Env} {ρ : Map}

theorem ti_ok {t : TypeId} {i : TI} (h : ti E t = .ok i) : E.ty t = some i := by
  unfold ti at h
  cases e : E.ty t with
  | none => rw [e] at h; cases h
  | some j => rw [e] at h; cases h; rfl

theorem run_und (ok : EnvOk P E) {t : TypeId} {i : TI} (h : E.ty t = some i) (w : World) : (underlying t).run P w = .ok i.und w := by
  simp [underlying, ok.und t i h]
theorem run_typeInfo (ok : EnvOk P E) {t : TypeId} {i : TI} (h : E.ty t = some i) (w : World) :
    ∃ I, (typeInfo t).run P w = .ok I w ∧ P.info? t = some I ∧ I.size = i.size ∧ I.bytes = i.bytes ∧ I.zero = i.zero ∧ I.methods.toList = i.methods := by
  obtain ⟨I, h1, h2⟩ := ok.info t i h
  exact ⟨I, by simp [typeInfo, h1], h1, h2⟩
theorem run_size (ok : EnvOk P E) {t : TypeId} {i : TI} (h : E.ty t = some i) (w : World) : (sizeOf t).run P w = .ok i.size w := by
  obtain ⟨I, h1, h2⟩ := ok.info t i h
  simp [sizeOf, typeInfo, h1, h2]
theorem run_agg (ok : EnvOk P E) {t : TypeId} {i : TI} (h : E.ty t = some i) (w : World) : (isAgg t).run P w = .ok i.agg w := by
  rw [ok.agg t i h]
  simp only [isAgg, Sem.run_bind, run_und ok h, Result.andThen_ok]
  cases i.und <;> rfl
theorem zeroOf_ok {i : TI} {z : Value} (h : zeroOf i = .ok z) : i.zero = some z ∧ closedV z = true := by
  unfold zeroOf at h
  cases e : i.zero with
  | none => rw [e] at h; cases h
  | some v =>
    rw [e] at h
    by_cases hc : closedV v = true
    · simp [hc] at h; cases h; exact ⟨rfl, hc⟩
    · simp [hc, bad] at h
theorem run_zero (ok : EnvOk P E) {t : TypeId} {i : TI} {z : Value} (h : E.ty t = some i) (hz : zeroOf i = .ok z) (w : World) : (zeroValue t).run P w = .ok z w := by
  obtain ⟨I, h1, h2, h3, h4, h5⟩ := ok.info t i h
  rw [(zeroOf_ok hz).1] at h4
  simp [zeroValue, typeInfo, h1, h4]
theorem zero_rel (ρ : Map) {i : TI} {z : Value} (hz : zeroOf i = .ok z) : VRel ρ z z := VRel.closed ρ z (zeroOf_ok hz).2

/-! ## Operands -/

def Glob (G : Nat) (ρ : Map) : Prop := ∀ g, g < G → ∃ L, ρ g = some L ∧ L.blk = g ∧ L.sh = 0

theorem ev_rel {G : Nat} (hg : Glob G ρ) {t : T Value} {a : Act} (ht : TRel ρ t a.tmps) {x : Operand} (hc : closedO G x = true) : VRel ρ (ev t x) (a.eval x) := by
  cases x with
  | tmp i =>
    have := ht i
    simp only [ev, Act.eval]
    cases h : t.get i with
    | none => rw [h] at this; exact this
    | some v => rw [h] at this; exact this
  | const v => exact VRel.closed ρ v hc
  | global g =>
    obtain ⟨L, h1, h2, h3⟩ := hg g (by simpa [closedO] using hc)
    have := VRel.ptr (o := 0) h1
    rw [h2, h3] at this
    exact this
  | func f => exact .func rfl .nil .nil

theorem evs_rel {G : Nat} (hg : Glob G ρ) {t : T Value} {a : Act} (ht : TRel ρ t a.tmps) : ∀ {xs : List Operand}, allL (closedO G) xs = true → LRel ρ (mapL (ev t) xs) (xs.map a.eval)
  | [], _ => .nil
  | x :: xs, h => by
    simp only [allL, Bool.and_eq_true] at h
    exact .cons (ev_rel hg ht h.1) (evs_rel hg ht h.2)

/-! ## Parts -/

theorem part_ok (ok : EnvOk P E) {t : TypeId} {i : TI} (hi : E.ty t = some i) {cs : List Value} {cs' : Array Value} (hr : LRel ρ cs cs'.toList) {off : Nat} {v : Value} (h : partA i cs off = .ok v) :
    ∃ v', VRel ρ v v' ∧ ∀ w, (part t cs' off).run P w = .ok v' w := by
  unfold partA at h
  by_cases ha : i.agg = true
  · rw [if_pos ha] at h
    cases h
    refine ⟨.agg (cs'.extract off (off + i.size)), ?_, fun w => ?_⟩
    · refine .agg ?_
      have : (cs'.extract off (off + i.size)).toList = (cs'.toList.drop off).take i.size := by
        simp [List.extract_eq_take_drop]
      rw [this]
      simpa [mkAgg] using (hr.drop off).take i.size
    · simp [part, run_agg ok hi, ha, run_size ok hi]
  · rw [if_neg ha] at h
    cases e : cs[off]? with
    | none => rw [e] at h; cases h
    | some x =>
      rw [e] at h; cases h
      obtain ⟨y, h1, h2⟩ := hr.get e
      refine ⟨y, h2, fun w => ?_⟩
      have h1' : cs'[off]? = some y := by simpa using h1
      simp [part, run_agg ok hi, ha, h1']

theorem fieldOf_ok {i : TI} {f : Nat} {x : Field} (h : fieldOf i f = .ok x) : ∃ fs, i.und = .struct fs ∧ fs[f]? = some x := by
  unfold fieldOf at h
  cases e : i.und with
  | struct fs =>
    rw [e] at h
    cases e' : fs[f]? with
    | none => simp [e', bad] at h
    | some y => simp [e'] at h; cases h; exact ⟨fs, rfl, e'⟩
  | _ => rw [e] at h; simp [bad] at h

theorem intOf_ok {x x' : Value} (hr : VRel ρ x x') {n : Int} (h : intOf x = .ok n) : ∃ k, x = .int k n ∧ x' = .int k n := by
  cases hr <;> simp [intOf, bad] at h
  subst h; exact ⟨_, rfl, rfl⟩

theorem addrOf_ok {x x' : Value} (hr : VRel ρ x x') {a : Addr} (h : addrOf x = .ok a) : ∃ b o L, a = ⟨b, o, none⟩ ∧ x = .pointer (some a) ∧ ρ b = some L ∧ x' = .pointer (some ⟨L.blk, L.sh + o, none⟩) := by
  cases hr <;> simp [addrOf, bad] at h
  subst h; exact ⟨_, _, _, rfl, rfl, ‹_›, rfl⟩

theorem bytesEq_eq : ∀ (x y : List UInt8), bytesEq x y = (x == y)
  | [], [] => rfl
  | [], _ :: _ => rfl
  | _ :: _, [] => rfl
  | a :: x, b :: y => by
    simp only [bytesEq, List.cons_beq_cons]
    by_cases h : a.toNat = b.toNat
    · have : a = b := UInt8.toNat_inj.1 h
      rw [if_pos h, bytesEq_eq x y]; simp [this]
    · have : ¬ a = b := fun e => h (by rw [e])
      rw [if_neg h]; simp [this]

theorem wrapF_eq (k : IntKind) (n : Int) : wrapF k n = k.wrap n := by
  cases k <;> simp only [wrapF] <;> split <;> try rfl
  all_goals
    rename_i h
    simp only [Bool.and_eq_true, decide_eq_true_eq] at h
    simp only [IntKind.wrap, IntKind.bits, IntKind.signed]
    simp
    omega

/-! ## Operations on two values -/

theorem strA_ok {op : BinOp} {x y : ByteArray} {v : Value} (h : strA op x y = .ok v) : VRel ρ v v ∧ ∀ w, (Op.stringOp op x y).run P w = .ok v w := by
  cases op <;> simp only [strA, bad] at h <;> try (cases h; done)
  case add =>
    split at h
    · cases h
    · rename_i hlt
      cases h
      refine ⟨.string _, fun w => ?_⟩
      have hs : ¬ ((x.size + y.size : Nat) : Int) > IntKind.i64.max := by
        have h1 : x.data.toList.length = x.size := Array.length_toList
        have h2 : y.data.toList.length = y.size := Array.length_toList
        have h3 : IntKind.i64.max = 9223372036854775807 := by decide
        omega
      have he : x ++ y = ⟨(x.data.toList ++ y.data.toList).toArray⟩ := by
        apply ByteArray.ext
        simp
      simp only [Op.stringOp, hs, if_false, Sem.run_pure, he]
  all_goals
    cases h
    refine ⟨.bool _, fun w => ?_⟩
    simp [Op.stringOp, ByteArray.toList_eq, bytesEq_eq]

theorem intA_ok {op : BinOp} {k : IntKind} {x y : Int} {t : TypeId} {v : Value} (h : intA op k x y = .ok v) : VRel ρ v v ∧ ∀ w, (binOp op t (.int k x) (.int k y)).run P w = .ok v w := by
  cases op <;> simp only [intA, bad] at h <;> try (cases h; done)
  case quo =>
    split at h
    · cases h
    · rename_i hy; cases h
      exact ⟨.int _ _, fun w => by simp [binOp, Op.intDiv, hy, wrapF_eq]⟩
  case rem =>
    split at h
    · cases h
    · rename_i hy; cases h
      exact ⟨.int _ _, fun w => by simp [binOp, Op.intDiv, hy]⟩
  all_goals
    cases h
    first
      | exact ⟨.bool _, fun w => by simp only [binOp, ne_eq, not_true_eq_false, if_false, Op.intCmp, Sem.run_pure]⟩
      | exact ⟨.int _ _, fun w => by simp only [binOp, ne_eq, not_true_eq_false, if_false, Op.intArith, Op.intBits, Sem.run_pure, wrapF_eq]⟩

theorem shiftA_ok {op : BinOp} {k k' : IntKind} {x y : Int} {t : TypeId} {v : Value} (hop : op = .shl ∨ op = .shr) (h : shiftA op k x y = .ok v) :
    VRel ρ v v ∧ ∀ w, (binOp op t (.int k x) (.int k' y)).run P w = .ok v w := by
  unfold shiftA at h
  split at h
  · cases h
  · rename_i hy
    rcases hop with rfl | rfl <;> simp only [] at h <;> cases h
    · refine ⟨.int _ _, fun w => ?_⟩
      simp only [binOp, Op.shift, if_neg hy, Sem.run_pure, wrapF_eq]
      rw [Int.natCast_pow]; rfl
    · refine ⟨.int _ _, fun w => ?_⟩
      simp only [binOp, Op.shift, if_neg hy, Sem.run_pure]
      rw [Int.natCast_pow]; rfl

theorem eqFields_ok (ok : EnvOk P E) {eq : TypeId → Value → Value → M Bool} {D : Nat} {xs ys : List Value} {xs' ys' : Array Value} (hx : LRel ρ xs xs'.toList) (hy : LRel ρ ys ys'.toList)
    (heq : ∀ t x y x' y' r, VRel ρ x x' → VRel ρ y y' → eq t x y = .ok r → ∀ w, (Op.equalIn D t x' y').run P w = .ok r w) :
    ∀ (fs : List Field) (r : Bool), eqFieldsA E eq xs ys fs = .ok r → ∀ w,
      ((forIn fs ((none, ()) : Option Bool × Unit) fun f _ =>
          if f.name ≠ "_" then do
            let a ← part f.type xs' f.offset
            let b ← part f.type ys' f.offset
            let r ← Op.equalIn D f.type a b
            if (!r) = true then pure (ForInStep.done (some false, ())) else pure (ForInStep.yield (none, ()))
          else pure (ForInStep.yield (none, ()))) : Sem (Option Bool × Unit)).run P w = .ok (if r then none else some false, ()) w := by
  intro fs
  induction fs with
  | nil => intro r h w; simp [eqFieldsA] at h; subst h; simp
  | cons f fs ih =>
    intro r h w
    simp only [eqFieldsA] at h
    split at h
    · cases h
    · rename_i hn
      replace h := bind_ok h
      obtain ⟨j, hj, h⟩ := h
      replace h := bind_ok h
      obtain ⟨a, ha, h⟩ := h
      replace h := bind_ok h
      obtain ⟨b, hb, h⟩ := h
      replace h := bind_ok h
      obtain ⟨q, hq, h⟩ := h
      obtain ⟨a', ha1, ha2⟩ := part_ok ok (ti_ok hj) hx ha
      obtain ⟨b', hb1, hb2⟩ := part_ok ok (ti_ok hj) hy hb
      have he := heq f.type a b a' b' q ha1 hb1 hq w
      have hn' : f.name ≠ "_" := hn
      simp only [List.forIn_cons, Sem.run_bind, if_pos hn', ha2, hb2, Result.andThen_ok, he]
      cases q with
      | true =>
        simp only [if_true] at h
        have := ih r h w
        simpa using this
      | false => simp at h; subst h; simp

theorem byteArray_beq (a b : ByteArray) : (a == b) = (a.data.toList == b.data.toList) := by
  cases a with | mk a => cases b with | mk b =>
  show (a == b) = _
  rw [Bool.eq_iff_iff, beq_iff_eq, beq_iff_eq]
  constructor
  · rintro rfl; rfl
  · intro h; exact Array.toList_inj.1 h

theorem equal_ok (ok : EnvOk P E) : ∀ (d D : Nat), d ≤ D → ∀ (t : TypeId) (x y x' y' : Value) (r : Bool), VRel ρ x x' → VRel ρ y y' → equalA E d t x y = .ok r →
    ∀ w, (Op.equalIn D t x' y').run P w = .ok r w := by
  intro d
  induction d with
  | zero => intro D _ t x y x' y' r _ _ h; simp [equalA, bad] at h
  | succ d ih =>
    intro D hD t x y x' y' r hx hy h w
    obtain ⟨D, rfl⟩ : ∃ k, D = k + 1 := ⟨D - 1, by omega⟩
    simp only [equalA] at h
    replace h := bind_ok h
    obtain ⟨i, hi, h2⟩ := h
    have hu := run_und ok (ti_ok hi) w
    have hq := ok.eq t i (ti_ok hi)
    simp only [Op.equalIn, Sem.run_bind, hu, Result.andThen_ok]
    clear hu
    generalize i.und = u at h2 ⊢
    cases u with
    | bool => cases hx <;> first | (simp [bad] at h2; done) | (cases hy <;> first | (simp [bad] at h2; done) | (cases h2; rfl))
    | int k => cases hx <;> first | (simp [bad] at h2; done) | (cases hy <;> first | (simp [bad] at h2; done) | (simp only [] at h2; split at h2 <;> first | (simp [bad] at h2; done) | (cases h2; simp [*])))
    | string => cases hx <;> first | (simp [bad] at h2; done) | (cases hy <;> first | (simp [bad] at h2; done) | (cases h2; simp only [bytesEq_eq, Sem.run_pure]; congr 1; exact byteArray_beq _ _))
    | pointer e => cases hx <;> first | (simp [bad] at h2; done) | (cases hy <;> first | (simp [bad] at h2; done) | (cases h2; rfl))
    | interface ms => cases hx <;> first | (simp [bad] at h2; done) | (cases hy <;> first | (simp [bad] at h2; done) | (cases h2; rfl))
    | slice e => cases hx <;> first | (simp [bad] at h2; done) | (cases hy <;> first | (simp [bad] at h2; done) | (cases h2; rfl))
    | map a b => cases hx <;> first | (simp [bad] at h2; done) | (cases hy <;> first | (simp [bad] at h2; done) | (cases h2; rfl))
    | func a b c => cases hx <;> first | (simp [bad] at h2; done) | (cases hy <;> first | (simp [bad] at h2; done) | (cases h2; rfl))
    | struct fs =>
      cases hx with
      | @agg xs xs' hxs =>
        cases hy with
        | @agg ys ys' hys =>
          simp only [] at h2
          split at h2
          · cases h2
          · rename_i he
            obtain ⟨g1, g2⟩ := hq (by simpa using he)
            have hf := eqFields_ok ok (D := D) hxs hys (fun t x y x' y' r h1 h2 h3 w => ih D (by omega) t x y x' y' r h1 h2 h3 w) fs.toList r h2 w
            simp only [run_program, Sem.run_bind, Result.andThen_ok, g1, Bool.false_eq_true, if_false]
            rw [← Array.forIn_toList, hf]
            cases r <;> simp
        | _ => simp [bad] at h2
      | _ => simp [bad] at h2
    | _ => cases hx <;> first | (simp [bad] at h2; done) | (cases hy <;> simp [bad] at h2)

end
end Go.AM
