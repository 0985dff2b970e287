/- Calls whose answer is known beforehand: of closed arguments, from the empty memory. -/
import Derived.Test.YtpbgmoihgoeneaaGreatDoorAMBridge
namespace Go.AM

mutual
theorem VRel.closed_eq {ρ : Map} : ∀ (v v' : Value), closedV v = true → VRel ρ v v' → v' = v
  | .bool b, _, _, h => by cases h; rfl
  | .int k n, _, _, h => by cases h; rfl
  | .float k n, _, _, h => by cases h; rfl
  | .complex k m n, _, _, h => by cases h; rfl
  | .string s, _, _, h => by cases h; rfl
  | .pointer none, _, _, h => by cases h; rfl
  | .pointer (some _), _, hc, _ => by simp [closedV] at hc
  | .slice none n c, _, _, h => by cases h; rfl
  | .slice (some _) _ _, _, hc, _ => by simp [closedV] at hc
  | .map none, _, _, h => by cases h; rfl
  | .map (some _), _, hc, _ => by simp [closedV] at hc
  | .chan none, _, _, h => by cases h; rfl
  | .chan (some _), _, hc, _ => by simp [closedV] at hc
  | .func f ⟨a⟩ ⟨c⟩, _, hc, h => by
    cases h with
    | func hf ha hcc =>
      rename_i f' a' c'
      obtain ⟨a'⟩ := a'
      obtain ⟨c'⟩ := c'
      have e : closedL a = true ∧ closedL c = true ∧ f' = f := by
        cases f with
        | yield l => simp [closedV] at hc
        | _ => simp only [closedV, Bool.and_eq_true] at hc; exact ⟨hc.1, hc.2, hf⟩
      have e1 := LRel.closed_eq a a' e.1 ha
      have e2 := LRel.closed_eq c c' e.2.1 hcc
      rw [e1, e2, e.2.2]
  | .nilFunc, _, _, h => by cases h; rfl
  | .nilIface, _, _, h => by cases h; rfl
  | .iface t v, _, hc, h => by
    simp only [closedV] at hc
    cases h with
    | iface h => rw [VRel.closed_eq v _ hc h]
  | .agg ⟨l⟩, _, hc, h => by
    simp only [closedV] at hc
    cases h with
    | agg h =>
      rename_i ys
      obtain ⟨ys⟩ := ys
      rw [LRel.closed_eq l ys hc h]
  | .tuple ⟨l⟩, _, hc, h => by
    simp only [closedV] at hc
    cases h with
    | tuple h =>
      rename_i ys
      obtain ⟨ys⟩ := ys
      rw [LRel.closed_eq l ys hc h]
theorem LRel.closed_eq {ρ : Map} : ∀ (l l' : List Value), closedL l = true → LRel ρ l l' → l' = l
  | [], _, _, h => by cases h; rfl
  | x :: l, _, hc, h => by
    simp only [closedL, Bool.and_eq_true] at hc
    cases h with
    | cons h1 h2 => rw [VRel.closed_eq x _ hc.1 h1, LRel.closed_eq l _ hc.2 h2]
end

def withCalls (O : FuncId → List Value → Option Value) (R : Rec) : Rec :=
  { R with call := fun f args σ => match O f args with
    | some v => .ok (v, σ)
    | none => R.call f args σ }

/-- What must be known of such a call. -/
def Known (P : Program) (E : Env) (f : FuncId) (args : List Value) (v : Value) : Prop :=
  closedL args = true ∧ closedV v = true ∧ ∃ R σ1, Sound P E R ∧ R.call f args ⟨.leaf, E.G⟩ = .ok (v, σ1)

theorem Sound.withCalls {P : Program} {E : Env} {R : Rec} (S : Sound P E R) {O : FuncId → List Value → Option Value} (hO : ∀ f args v, O f args = some v → Known P E f args v) : Sound P E (AM.withCalls O R) := by
  refine ⟨@fun _ _ _ _ _ _ h => S.code h, @fun _ _ _ _ _ _ h => S.loop h, @fun f args σ v σ' h ρ w args' ha r => ?_, @fun _ _ _ _ _ h => S.round h⟩
  simp only [AM.withCalls] at h
  split at h
  · rename_i v1 hv
    cases h
    obtain ⟨c1, c2, R0, σ1, S0, h0⟩ := hO f args _ hv
    have e := LRel.closed_eq _ _ c1 ha
    let ρs : Map := fun b => if b < E.G then ρ b else none
    have rs : Rel E.G ρs ⟨.leaf, E.G⟩ w := by
      refine ⟨fun g hg => ?_, fun b L h => ?_, fun b L h => ?_, fun b B L h => by simp [T.get_leaf] at h, fun b b' B B' L L' h => by simp [T.get_leaf] at h⟩
      · obtain ⟨L, h1, h2⟩ := r.glob g hg
        exact ⟨L, by simp [ρs, hg, h1], h2⟩
      · simp only [ρs] at h
        split at h
        · assumption
        · cases h
      · simp only [ρs] at h
        split at h
        · exact r.bnd b L h
        · cases h
    have back : ∀ e w', RetPost E.G ρs ⟨.leaf, E.G⟩ w v σ1 e w' → RetPost E.G ρ σ w v σ e w' := by
      rintro e w' ⟨v', rfl, ρ1, g1, r1, hv'⟩
      have kept := g1.kept (fun b K h => by simp [T.get_leaf] at h)
      have ev := VRel.closed_eq _ _ c2 hv'
      subst ev
      refine ⟨v', rfl, ρ, ⟨Sub.refl ρ, fun _ _ => rfl, Nat.le_refl _, g1.size, fun B hB _ => kept B hB, fun b K L h1 h2 => .inr ⟨b, K, L, h1, h2, id, rfl⟩, g1.tape, g1.os, g1.output⟩, ⟨r.glob, r.low, fun b L h => Nat.lt_of_lt_of_le (r.bnd b L h) g1.size, fun b B L h1 h2 => ?_, r.inj⟩, VRel.closed ρ v' c2⟩
      obtain ⟨O', q1, q2⟩ := r.blk b B L h1 h2
      exact ⟨O', by rw [kept _ (r.bnd b L h2)]; exact q1, q2⟩
    have hc := S0.call h0 (ρ := ρs) (w := w) (args' := args') (by rw [e]; exact LRel.closed ρs args c1) rs
    exact ⟨CallsIn.mono hc.1 back, CallsDIn.mono hc.2 fun e u' w' h => ⟨h.1, back e w' h.2⟩⟩
  · exact S.call h ha r

def runO (E : Env) (O : FuncId → List Value → Option Value) : Nat → Rec := Nat.rec noRec (fun _ R => withCalls O (stepR E R))

theorem soundO {P : Program} {E : Env} (ok : EnvOk P E) (hD : 100 ≤ P.types.size + Made.depth) {O : FuncId → List Value → Option Value} (hO : ∀ f args v, O f args = some v → Known P E f args v) : ∀ n, Sound P E (runO E O n)
  | 0 => Sound.noRec P E
  | n + 1 => ((soundO ok hD hO n).step (draw_ok ok hD) ok hD).withCalls hO

/-- Has it come to true? -/
def isTrue (m : M (Value × St)) : Bool := match m with | .ok (.bool true, _) => true | _ => false
theorem isTrue_ok {m : M (Value × St)} (h : isTrue m = true) : ∃ σ, m = .ok (.bool true, σ) := by
  unfold isTrue at h
  split at h
  · exact ⟨_, rfl⟩
  · cases h

/-- An integer of any shape. -/
theorem int_shapes {Q : Int → Prop} (h0 : Q (.ofNat 0)) (h1 : ∀ m, Q (.ofNat (m + 1))) (h2 : Q (.negSucc 0)) (h3 : ∀ m, Q (.negSucc (m + 1))) : ∀ n, Q n
  | .ofNat 0 => h0
  | .ofNat (m + 1) => h1 m
  | .negSucc 0 => h2
  | .negSucc (m + 1) => h3 m

/-- The environment that a program gives. -/
theorem envOk {P : Program} {x : Nat → Option Ext} (hname : (P.funcs.toList.all fun f => !(f.name == "runtime.NumGoroutine")) = true) (hm : P.follows .mixedOrders = true)
    (hx : ∀ f e, x f = some e → ∃ fn, P.funcs[f]? = some fn ∧ fn.body = none ∧ Extern.findNext fn = none ∧ (e = .indexByte → Extern.find fn = some Extern.BytealgIndexByte.indexByte)) : EnvOk P (envOf P x) := by
  have name : ∀ (f : Nat) (fn : Func), P.funcs[f]? = some fn → (fn.name == "runtime.NumGoroutine") = false := fun f fn h => by
    have := List.all_eq_true.1 hname fn (by simpa using Array.mem_of_getElem? h)
    simpa using this
  have mk : ∀ t i, mkTI P t = some i → ∃ I u, P.info? t = some I ∧ P.underlying t = some u ∧
      i = TI.mk u I.size I.bytes I.zero I.methods.toList (match u with | .struct _ => true | .array _ _ => true | _ => false) (!(P.stoodInHeld t) && !(P.eqGuardType P.depth t)) := fun t i h => by
    unfold mkTI at h
    split at h
    · cases h
    · rename_i I hI
      split at h
      · cases h
      · rename_i u hu
        exact ⟨I, u, hI, hu, (Option.some.inj h).symm⟩
  refine ⟨fun t i h => ?_, fun t i h => ?_, fun t i h => ?_, fun t i h he => ?_, fun f fn h => ⟨h, name f fn h⟩, fun f e h => ?_, hm⟩
  · obtain ⟨I, u, h1, h2, rfl⟩ := mk t i h
    exact h2
  · obtain ⟨I, u, h1, h2, rfl⟩ := mk t i h
    exact ⟨I, h1, rfl, rfl, rfl, rfl⟩
  · obtain ⟨I, u, h1, h2, rfl⟩ := mk t i h
    cases u <;> rfl
  · obtain ⟨I, u, h1, h2, rfl⟩ := mk t i h
    simp only [Bool.and_eq_true, Bool.not_eq_true'] at he
    exact he
  · obtain ⟨fn, h1, h2, h3, h4⟩ := hx f e h
    exact ⟨fn, h1, name f fn h1, h2, h3, h4⟩
end Go.AM
