/- The abstract machine's operations that look at their operands alone, continued. -/
import Derived.Test.YtpbgmoihgoeneaaGreatDoorAMOps
namespace Go.AM
section
variable {P : Program} {E : Env} {ρ : Map}

theorem equalA_num {d : Nat} {t : TypeId} {x y : Value} {r : Bool} (h : equalA E d t x y = .ok r) :
    (∀ k n, x ≠ .float k n) ∧ (∀ k m n, x ≠ .complex k m n) := by
  cases d with
  | zero => simp [equalA, bad] at h
  | succ d =>
    simp only [equalA] at h
    replace h := bind_ok h
    obtain ⟨i, hi, h2⟩ := h
    constructor
    · rintro k n rfl
      revert h2; cases i.und <;> simp [bad]
    · rintro k m n rfl
      revert h2; cases i.und <;> simp [bad]

theorem binOp_eql (t : TypeId) (x y : Value) (h1 : ∀ k a k' b, ¬(x = .int k a ∧ y = .int k' b)) (h2 : ∀ a b, ¬(x = .string a ∧ y = .string b))
    (h3 : ∀ k n, x ≠ .float k n) (h4 : ∀ k m n, x ≠ .complex k m n) : binOp .eql t x y = (do pure (.bool (← Op.equal t x y))) := by
  cases x <;> first
    | exact absurd rfl (h3 _ _)
    | exact absurd rfl (h4 _ _ _)
    | (cases y <;> first | rfl | exact absurd ⟨rfl, rfl⟩ (h1 _ _ _ _) | exact absurd ⟨rfl, rfl⟩ (h2 _ _))
theorem binOp_neq (t : TypeId) (x y : Value) (h1 : ∀ k a k' b, ¬(x = .int k a ∧ y = .int k' b)) (h2 : ∀ a b, ¬(x = .string a ∧ y = .string b))
    (h3 : ∀ k n, x ≠ .float k n) (h4 : ∀ k m n, x ≠ .complex k m n) : binOp .neq t x y = (do pure (.bool (!(← Op.equal t x y)))) := by
  cases x <;> first
    | exact absurd rfl (h3 _ _)
    | exact absurd rfl (h4 _ _ _)
    | (cases y <;> first | rfl | exact absurd ⟨rfl, rfl⟩ (h1 _ _ _ _) | exact absurd ⟨rfl, rfl⟩ (h2 _ _))

theorem guard_plain (op : BinOp) (t : TypeId) (ox oy : Operand) (x y : Value) (h : ¬(x = .nilIface ∧ y = .nilIface)) (h' : ∀ a b, ¬(x = .agg a ∧ y = .agg b)) (w : World) :
    (eqGuard op t ox oy x y).run P w = .ok () w := by
  unfold eqGuard
  cases op <;> simp <;> (cases x <;> first | rfl | (cases y <;> first | rfl | exact absurd ⟨rfl, rfl⟩ h | exact absurd ⟨rfl, rfl⟩ (h' _ _)))

theorem guard_agg (ok : EnvOk P E) (op : BinOp) {t : TypeId} {i : TI} (hi : E.ty t = some i) (he : i.eqOk = true) (ox oy : Operand) (a b : Array Value) (w : World) :
    (eqGuard op t ox oy (.agg a) (.agg b)).run P w = .ok () w := by
  have g := (ok.eq t i hi he).2
  unfold eqGuard
  cases op <;> simp [g]

theorem equalA_agg {d : Nat} {t : TypeId} {a b : Array Value} {r : Bool} (h : equalA E d t (.agg a) (.agg b) = .ok r) : ∃ i, E.ty t = some i ∧ i.eqOk = true := by
  cases d with
  | zero => simp [equalA, bad] at h
  | succ d =>
    simp only [equalA] at h
    replace h := bind_ok h
    obtain ⟨i, hi, h2⟩ := h
    refine ⟨i, ti_ok hi, ?_⟩
    revert h2
    cases i.und <;> simp [bad]
    cases i.eqOk <;> simp
theorem equalA_nil {d : Nat} {t : TypeId} {r : Bool} (h : equalA E d t .nilIface .nilIface = .ok r) : False := by
  cases d with
  | zero => simp [equalA, bad] at h
  | succ d =>
    simp only [equalA] at h
    replace h := bind_ok h
    obtain ⟨i, hi, h2⟩ := h
    revert h2
    cases i.und <;> simp [bad]

theorem VRel.agg_inv {x : Value} {a : Array Value} (h : VRel ρ x (.agg a)) : ∃ b, x = .agg b := by cases h; exact ⟨_, rfl⟩
theorem VRel.nilIface_inv {x : Value} (h : VRel ρ x .nilIface) : x = .nilIface := by cases h; rfl
theorem VRel.int_inv {x : Value} {k : IntKind} {n : Int} (h : VRel ρ x (.int k n)) : x = .int k n := by cases h; rfl
theorem VRel.string_inv {x : Value} {s : ByteArray} (h : VRel ρ x (.string s)) : x = .string s := by cases h; rfl
theorem VRel.float_inv {x : Value} {k : FloatKind} {n : Nat} (h : VRel ρ x (.float k n)) : x = .float k n := by cases h; rfl
theorem VRel.complex_inv {x : Value} {k : FloatKind} {m n : Nat} (h : VRel ρ x (.complex k m n)) : x = .complex k m n := by cases h; rfl

theorem binOp_ok (ok : EnvOk P E) {op : BinOp} {t : TypeId} {x y x' y' v : Value} (hx : VRel ρ x x') (hy : VRel ρ y y') (ox oy : Operand) (h : binOpA E op t x y = .ok v) :
    ∃ v', VRel ρ v v' ∧ ∀ w, (do eqGuard op t ox oy x' y'; binOp op t x' y' : Sem Value).run P w = .ok v' w := by
  unfold binOpA at h
  split at h
  · rename_i k a k' b
    cases hx; cases hy
    have hg : ∀ w, (eqGuard op t ox oy (.int k a) (.int k' b)).run P w = .ok () w := guard_plain op t ox oy _ _ (by simp) (by simp)
    split at h
    · obtain ⟨g1, g2⟩ := shiftA_ok (P := P) (ρ := ρ) (k' := k') (t := t) (.inl rfl) h
      exact ⟨v, g1, fun w => by simp [hg, g2]⟩
    · obtain ⟨g1, g2⟩ := shiftA_ok (P := P) (ρ := ρ) (k' := k') (t := t) (.inr rfl) h
      exact ⟨v, g1, fun w => by simp [hg, g2]⟩
    · split at h
      · rename_i e; subst e
        obtain ⟨g1, g2⟩ := intA_ok (P := P) (ρ := ρ) (t := t) h
        exact ⟨v, g1, fun w => by simp [hg, g2]⟩
      · cases h
  · rename_i a b
    cases hx; cases hy
    have hg : ∀ w, (eqGuard op t ox oy (.string a) (.string b)).run P w = .ok () w := guard_plain op t ox oy _ _ (by simp) (by simp)
    obtain ⟨g1, g2⟩ := strA_ok (P := P) (ρ := ρ) h
    refine ⟨v, g1, fun w => ?_⟩
    have hb : binOp op t (.string a) (.string b) = Op.stringOp op a b := by cases op <;> rfl
    simp [hg, hb, g2]
  · rename_i hn1 hn2
    have main : ∀ r, equalA E 100 t x y = .ok r →
        (∀ w, (eqGuard op t ox oy x' y').run P w = .ok () w) ∧ (∀ w, (Op.equal t x' y').run P w = .ok r w) ∧ (∀ k a k' b, ¬(x' = .int k a ∧ y' = .int k' b)) ∧ (∀ a b, ¬(x' = .string a ∧ y' = .string b)) ∧
          (∀ k n, x' ≠ .float k n) ∧ (∀ k m n, x' ≠ .complex k m n) := by
      intro r hr
      refine ⟨fun w => ?_, fun w => equal_ok ok 100 Op.maxDepth (by decide) t x y x' y' r hx hy hr w, ?_, ?_, ?_, ?_⟩
      · by_cases ha : ∃ a b, x' = .agg a ∧ y' = .agg b
        · obtain ⟨a, b, rfl, rfl⟩ := ha
          obtain ⟨a0, rfl⟩ := hx.agg_inv
          obtain ⟨b0, rfl⟩ := hy.agg_inv
          obtain ⟨i, g1, g2⟩ := equalA_agg hr
          exact guard_agg ok op g1 g2 ox oy a b w
        · refine guard_plain op t ox oy x' y' ?_ (fun a b e => ha ⟨a, b, e⟩) w
          rintro ⟨rfl, rfl⟩
          rw [hx.nilIface_inv, hy.nilIface_inv] at hr
          exact equalA_nil hr
      · rintro k a k' b ⟨rfl, rfl⟩
        exact hn1 _ _ _ _ hx.int_inv hy.int_inv
      · rintro a b ⟨rfl, rfl⟩
        exact hn2 _ _ hx.string_inv hy.string_inv
      · rintro k n rfl
        exact (equalA_num hr).1 _ _ hx.float_inv
      · rintro k m n rfl
        exact (equalA_num hr).2 _ _ _ hx.complex_inv
    split at h
    · replace h := map_ok h; obtain ⟨r, hr, rfl⟩ := h
      obtain ⟨g1, g2, g3, g4, g5, g6⟩ := main r hr
      exact ⟨_, .bool r, fun w => by simp [g1, binOp_eql t x' y' g3 g4 g5 g6, g2]⟩
    · replace h := map_ok h; obtain ⟨r, hr, rfl⟩ := h
      obtain ⟨g1, g2, g3, g4, g5, g6⟩ := main r hr
      exact ⟨_, .bool (!r), fun w => by simp [g1, binOp_neq t x' y' g3 g4 g5 g6, g2]⟩
    · cases h

theorem un_ok {op : UnOp} {x x' v : Value} (hx : VRel ρ x x') (h : unA op x = .ok v) : ∃ v', VRel ρ v v' ∧ ∀ w, (Op.unary op x').run P w = .ok v' w := by
  unfold unA at h
  split at h
  · cases hx; cases h
    exact ⟨_, .int _ _, fun w => by simp only [Op.unary, Op.intArith, Sem.run_pure, wrapF_eq]⟩
  · cases hx
    simp only [intA] at h
    cases h
    exact ⟨_, .int _ _, fun w => by simp only [Op.unary, Op.intBits, Sem.run_pure, wrapF_eq]⟩
  · cases hx; cases h
    exact ⟨_, .bool _, fun w => by simp only [Op.unary, Sem.run_pure]⟩
  · cases h

/-! ## Places -/

theorem VRel.ptr_add {b o : Nat} {L : Loc} (h : ρ b = some L) (n : Nat) : VRel ρ (.pointer (some ((⟨b, o, none⟩ : Addr).add n))) (.pointer (some ((⟨L.blk, L.sh + o, none⟩ : Addr).add n))) := by
  rw [addr_add, addr_add, Nat.add_assoc]; exact .ptr h

theorem fieldAddr_ok (ok : EnvOk P E) {s : TypeId} {x x' : Value} {f : Nat} {v : Value} (hx : VRel ρ x x') (h : fieldAddrA E s x f = .ok v) :
    ∃ v', VRel ρ v v' ∧ ∀ w, (Instr.fieldAt s x' f).run P w = .ok v' w := by
  unfold fieldAddrA at h
  replace h := bind_ok h
  obtain ⟨i, hi, h⟩ := h
  replace h := bind_ok h
  obtain ⟨fd, hf, h⟩ := h
  replace h := bind_ok h
  obtain ⟨a, ha, h⟩ := h
  replace h := bind_ok h
  obtain ⟨j, hj, h⟩ := h
  obtain ⟨fs, g1, g2⟩ := fieldOf_ok hf
  obtain ⟨b, o, L, rfl, rfl, hL, rfl⟩ := addrOf_ok hx ha
  split at h
  · cases h
  · rename_i hz
    cases h
    refine ⟨_, VRel.ptr_add hL _, fun w => ?_⟩
    simp [Instr.fieldAt, run_und ok (ti_ok hi), g1, g2, Instr.sureAddr, fieldPlace, run_size ok (ti_ok hj), hz]

theorem field_ok (ok : EnvOk P E) {s : TypeId} {x x' : Value} {f : Nat} {v : Value} (hx : VRel ρ x x') (h : fieldA E s x f = .ok v) :
    ∃ v', VRel ρ v v' ∧ ∀ w, (Instr.field s x' f).run P w = .ok v' w := by
  unfold fieldA at h
  replace h := bind_ok h
  obtain ⟨i, hi, h⟩ := h
  replace h := bind_ok h
  obtain ⟨fd, hf, h⟩ := h
  replace h := bind_ok h
  obtain ⟨j, hj, h⟩ := h
  obtain ⟨fs, g1, g2⟩ := fieldOf_ok hf
  split at h
  · cases hx with
    | agg hr =>
      obtain ⟨v', h1, h2⟩ := part_ok ok (ti_ok hj) hr h
      refine ⟨v', h1, fun w => ?_⟩
      simp [Instr.field, run_und ok (ti_ok hi), g1, g2, asAgg, h2]
  · cases h

theorem indexAddr_ok (ok : EnvOk P E) {t : TypeId} {x x' ix ix' : Value} {v : Value} (hx : VRel ρ x x') (hix : VRel ρ ix ix') (h : indexAddrA E t x ix = .ok v) :
    ∃ v', VRel ρ v v' ∧ ∀ w, (Instr.indexAt t x' ix').run P w = .ok v' w := by
  unfold indexAddrA at h
  replace h := bind_ok h
  obtain ⟨i, hi, h⟩ := h
  replace h := bind_ok h
  obtain ⟨k, hk, h⟩ := h
  obtain ⟨kk, rfl, rfl⟩ := intOf_ok hix hk
  split at h
  · rename_i len e a hu
    replace h := bind_ok h
    obtain ⟨j, hj, h⟩ := h
    split at h
    · rename_i hb
      simp only [Bool.and_eq_true, decide_eq_true_eq] at hb
      cases h
      cases hx with
      | ptr hL =>
        refine ⟨_, VRel.ptr_add hL _, fun w => ?_⟩
        simp [Instr.indexAt, asIntOf, run_und ok (ti_ok hi), hu, Instr.sureAddr, hb, run_size ok (ti_ok hj)]
    · cases h
  · rename_i e a len c hu
    replace h := bind_ok h
    obtain ⟨j, hj, h⟩ := h
    split at h
    · rename_i hb
      simp only [Bool.and_eq_true, decide_eq_true_eq] at hb
      cases h
      cases hx with
      | slice hc hL =>
        refine ⟨_, VRel.ptr_add hL _, fun w => ?_⟩
        simp [Instr.indexAt, asIntOf, run_und ok (ti_ok hi), hu, hb, run_size ok (ti_ok hj)]
      | grow hL h1 h2 =>
        refine ⟨_, VRel.ptr_add hL _, fun w => ?_⟩
        simp [Instr.indexAt, asIntOf, run_und ok (ti_ok hi), hu, hb, run_size ok (ti_ok hj)]
      | grow0 => exact absurd hb.2 (by omega)
      | zero => exact absurd hb.2 (by omega)
    · cases h
  · cases h

theorem nth_eq {α : Type} : ∀ (l : List α) (n : Nat), nth l n = l[n]?
  | [], n => by cases n <;> rfl
  | x :: l, 0 => rfl
  | x :: l, n + 1 => by simp [nth, nth_eq l n]

theorem index_ok (ok : EnvOk P E) {t : TypeId} {x x' ix ix' : Value} {v : Value} (hx : VRel ρ x x') (hix : VRel ρ ix ix') (h : indexA E t x ix = .ok v) :
    ∃ v', VRel ρ v v' ∧ ∀ w, (Instr.index t x' ix').run P w = .ok v' w := by
  unfold indexA at h
  replace h := bind_ok h
  obtain ⟨i, hi, h⟩ := h
  replace h := bind_ok h
  obtain ⟨k, hk, h⟩ := h
  obtain ⟨kk, rfl, rfl⟩ := intOf_ok hix hk
  split at h
  · rename_i len e cs hu
    replace h := bind_ok h
    obtain ⟨j, hj, h⟩ := h
    split at h
    · rename_i hb
      simp only [Bool.and_eq_true, decide_eq_true_eq] at hb
      cases hx with
      | agg hr =>
        obtain ⟨v', h1, h2⟩ := part_ok ok (ti_ok hj) hr h
        refine ⟨v', h1, fun w => ?_⟩
        simp [Instr.index, asIntOf, run_und ok (ti_ok hi), hu, hb, run_size ok (ti_ok hj), h2]
    · cases h
  · rename_i s hu
    split at h
    · rename_i hb
      split at h
      · rename_i b hn
        cases h
        cases hx
        rw [nth_eq] at hn
        refine ⟨_, .int _ _, fun w => ?_⟩
        have hs : s[k.toNat]? = some b := by
          have : s.data[k.toNat]? = some b := by simpa using hn
          have hlt : k.toNat < s.data.size := by
            rcases Nat.lt_or_ge k.toNat s.data.size with h' | h'
            · exact h'
            · simp [Array.getElem?_eq_none h'] at this
          have hlt' : k.toNat < s.size := hlt
          rw [getElem?_pos s k.toNat hlt']
          rw [getElem?_pos s.data k.toNat hlt] at this
          exact this
        simp [Instr.index, asIntOf, run_und ok (ti_ok hi), hu, hb, hs, byteVal]
      · cases h
    · cases h
  · cases h

end
end Go.AM
