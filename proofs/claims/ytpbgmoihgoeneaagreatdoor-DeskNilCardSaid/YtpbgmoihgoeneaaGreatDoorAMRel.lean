/- The abstract machine's relation to the model's worlds: tables, values, blocks, worlds; how a relation goes on. -/
import Derived.Test.YtpbgmoihgoeneaaGreatDoorAMCore
import Derived.Laws.Sem
namespace Go.AM

/-! ## Tables -/
namespace T
variable {α : Type}
theorem setM_eq : ∀ (f : Nat) (t : T α) (n : Nat) (x : Option α), setM f t n x = .ok (setF f t n x)
  | 0, t, n, x => by cases t <;> rfl
  | f + 1, .leaf, n, x => by
    cases n with
    | zero => rfl
    | succ m =>
      simp only [setM, setF]
      split <;> simp [setM_eq f, Except.bind]
  | f + 1, .node v l r, n, x => by
    cases n with
    | zero => rfl
    | succ m =>
      simp only [setM, setF]
      split <;> simp [setM_eq f, Except.bind]

theorem get_leaf (n : Nat) : (leaf : T α).get n = none := rfl

theorem get_node_succ (v : Option α) (l r : T α) (m : Nat) : (node v l r).get (m + 1) = if m % 2 = 0 then l.get (m / 2) else r.get (m / 2) := by
  simp only [get]
  split <;> rename_i h <;> simp [h]
  intro h'; exact absurd h' h
theorem setF_leaf_succ (f m : Nat) (x : Option α) : setF (f + 1) (leaf : T α) (m + 1) x = if m % 2 = 0 then node none (setF f leaf (m / 2) x) leaf else node none leaf (setF f leaf (m / 2) x) := by
  simp only [setF]
  split <;> rename_i h <;> simp [h]
  intro h'; exact absurd h' h
theorem setF_node_succ (f m : Nat) (x v : Option α) (l r : T α) : setF (f + 1) (node v l r) (m + 1) x = if m % 2 = 0 then node v (setF f l (m / 2) x) r else node v l (setF f r (m / 2) x) := by
  simp only [setF]
  split <;> rename_i h <;> simp [h]
  intro h'; exact absurd h' h

theorem get_setF : ∀ (f : Nat) (t : T α) (n : Nat) (x : Option α) (k : Nat), n < f → (setF f t n x).get k = if k = n then x else t.get k := by
  intro f
  induction f with
  | zero => intro t n x k h; omega
  | succ f ih =>
    intro t n x k h
    cases t with
    | leaf =>
      cases n with
      | zero =>
        cases k with
        | zero => simp [setF, get]
        | succ k => simp [setF, get_node_succ, get_leaf]
      | succ m =>
        rw [setF_leaf_succ]
        cases k with
        | zero => split <;> simp [get]
        | succ k =>
          by_cases hm : m % 2 = 0 <;> by_cases hk : k % 2 = 0 <;> simp only [hm, hk, if_true, if_false, get_node_succ, get_leaf]
          · rw [ih _ (m / 2) _ _ (by omega)]
            by_cases e : k = m
            · subst e; simp
            · have : ¬ k / 2 = m / 2 := by omega
              simp [this, e, get_leaf]
          · have e : ¬ k = m := by intro e; subst e; exact hk hm
            simp [e]
          · have e : ¬ k = m := by intro e; subst e; exact hm hk
            simp [e]
          · rw [ih _ (m / 2) _ _ (by omega)]
            by_cases e : k = m
            · subst e; simp
            · have : ¬ k / 2 = m / 2 := by omega
              simp [this, e, get_leaf]
    | node v l r =>
      cases n with
      | zero =>
        cases k with
        | zero => simp [setF, get]
        | succ k => simp [setF, get_node_succ]
      | succ m =>
        rw [setF_node_succ]
        cases k with
        | zero => split <;> simp [get]
        | succ k =>
          by_cases hm : m % 2 = 0 <;> by_cases hk : k % 2 = 0 <;> simp only [hm, hk, if_true, if_false, get_node_succ]
          · rw [ih _ (m / 2) _ _ (by omega)]
            by_cases e : k = m
            · subst e; simp
            · have : ¬ k / 2 = m / 2 := by omega
              simp [this, e]
          · have e : ¬ k = m := by intro e; subst e; exact hk hm
            simp [e]
          · have e : ¬ k = m := by intro e; subst e; exact hm hk
            simp [e]
          · rw [ih _ (m / 2) _ _ (by omega)]
            by_cases e : k = m
            · subst e; simp
            · have : ¬ k / 2 = m / 2 := by omega
              simp [this, e]
theorem get_put (t : T α) (n : Nat) (x : Option α) (k : Nat) : (setF (n + 1) t n x).get k = if k = n then x else t.get k :=
  get_setF _ _ _ _ _ (Nat.lt_succ_self n)
end T

theorem forceN_eq (n : Nat) : forceN n = .ok n := by cases n <;> rfl
theorem forceI_eq (n : Int) : forceI n = .ok n := by cases n <;> simp [forceI, forceN_eq, Except.bind]
theorem forceV_eq (v : Value) : forceV v = .ok v := by
  cases v with
  | int k n => simp [forceV, forceI_eq, Except.bind]
  | bool b => cases b <;> rfl
  | _ => rfl

@[simp] theorem ok_bind {α β : Type} (a : α) (f : α → M β) : (Except.ok a : M α).bind f = f a := rfl
@[simp] theorem error_bind {α β : Type} (e : String) (f : α → M β) : (Except.error e : M α).bind f = .error e := rfl
theorem bind_ok {α β : Type} {x : M α} {f : α → M β} {b : β} (h : x.bind f = .ok b) : ∃ a, x = .ok a ∧ f a = .ok b := by
  cases x with
  | error e => simp at h
  | ok a => exact ⟨a, rfl, h⟩
theorem map_ok {α β : Type} {x : M α} {f : α → β} {b : β} (h : x.map f = .ok b) : ∃ a, x = .ok a ∧ f a = b := by
  cases x with
  | error e => simp [Except.map] at h
  | ok a => simp [Except.map] at h; exact ⟨a, rfl, h⟩
theorem bad_ok {α : Type} {s : String} {a : α} (h : (bad s : M α) = .ok a) : False := by cases h

def put (σ : St) (n : Nat) (b : Option Blk) : St := ⟨T.setF (n + 1) σ.heap n b, σ.next⟩
theorem setBlk_eq (σ : St) (n : Nat) (b : Blk) : setBlk σ n b = .ok (put σ n (some b)) := by
  cases σ; simp [setBlk, T.setM_eq, put]
theorem eraseBlk_eq (σ : St) (n : Nat) : eraseBlk σ n = .ok (put σ n none) := by
  cases σ; simp [eraseBlk, T.setM_eq, put]
theorem newBlk_eq (σ : St) (b : Blk) : newBlk σ b = .ok (σ.next, ⟨T.setF (σ.next + 1) σ.heap σ.next (some b), σ.next + 1⟩) := by
  cases σ; simp [newBlk, forceN_eq, T.setM_eq]
theorem get_put (σ : St) (n : Nat) (b : Option Blk) (k : Nat) : (put σ n b).heap.get k = if k = n then b else σ.heap.get k := T.get_put _ _ _ _

/-! ## Values -/

/-- Where an abstract block lies: the model's block, the cell at which it begins, how many cells from there on are its own. -/
structure Loc where
  blk : Nat
  sh : Nat
  room : Nat

abbrev Map := Nat → Option Loc

def fnRel (ρ : Map) (f f' : Fn) : Prop :=
  match f with
  | .yield l => ∃ L, ρ l = some L ∧ f' = .yield L.blk
  | f => f' = f

mutual
inductive VRel (ρ : Map) : Value → Value → Prop where
  | bool (b : Bool) : VRel ρ (.bool b) (.bool b)
  | int (k : IntKind) (n : Int) : VRel ρ (.int k n) (.int k n)
  | float (k : FloatKind) (n : Nat) : VRel ρ (.float k n) (.float k n)
  | complex (k : FloatKind) (m n : Nat) : VRel ρ (.complex k m n) (.complex k m n)
  | string (s : ByteArray) : VRel ρ (.string s) (.string s)
  | nilPtr : VRel ρ (.pointer none) (.pointer none)
  | ptr {b o : Nat} {L : Loc} : ρ b = some L → VRel ρ (.pointer (some ⟨b, o, none⟩)) (.pointer (some ⟨L.blk, L.sh + o, none⟩))
  | nilSlice (n c : Nat) : VRel ρ (.slice none n c) (.slice none n c)
  | slice {b o n c : Nat} {L : Loc} : c < GROW → ρ b = some L → VRel ρ (.slice (some ⟨b, o, none⟩) n c) (.slice (some ⟨L.blk, L.sh + o, none⟩) n c)
  | grow {b o n c e : Nat} {L : Loc} : ρ b = some L → n ≤ c → o + c * e ≤ L.room → VRel ρ (.slice (some ⟨b, o, none⟩) n (GROW + e)) (.slice (some ⟨L.blk, L.sh + o, none⟩) n c)
  | grow0 {a a' : Addr} {e : Nat} : VRel ρ (.slice (some a) 0 (GROW + e)) (.slice (some a') 0 0)
  | zero {a a' : Addr} : VRel ρ (.slice (some a) 0 0) (.slice (some a') 0 0)
  | nilMap : VRel ρ (.map none) (.map none)
  | map {r : Nat} {L : Loc} : ρ r = some L → VRel ρ (.map (some r)) (.map (some L.blk))
  | nilChan : VRel ρ (.chan none) (.chan none)
  | func {f f' : Fn} {a a' c c' : Array Value} : fnRel ρ f f' → LRel ρ a.toList a'.toList → LRel ρ c.toList c'.toList → VRel ρ (.func f a c) (.func f' a' c')
  | nilFunc : VRel ρ .nilFunc .nilFunc
  | iface {t : TypeId} {v v' : Value} : VRel ρ v v' → VRel ρ (.iface t v) (.iface t v')
  | nilIface : VRel ρ .nilIface .nilIface
  | agg {xs ys : Array Value} : LRel ρ xs.toList ys.toList → VRel ρ (.agg xs) (.agg ys)
  | tuple {xs ys : Array Value} : LRel ρ xs.toList ys.toList → VRel ρ (.tuple xs) (.tuple ys)
inductive LRel (ρ : Map) : List Value → List Value → Prop where
  | nil : LRel ρ [] []
  | cons {x y : Value} {l m : List Value} : VRel ρ x y → LRel ρ l m → LRel ρ (x :: l) (y :: m)
end

def Sub (ρ ρ' : Map) : Prop := ∀ b L, ρ b = some L → ρ' b = some L
theorem Sub.refl (ρ : Map) : Sub ρ ρ := fun _ _ h => h
theorem Sub.trans {ρ ρ' ρ'' : Map} (h : Sub ρ ρ') (h' : Sub ρ' ρ'') : Sub ρ ρ'' := fun b L e => h' b L (h b L e)

theorem fnRel.mono {ρ ρ' : Map} (s : Sub ρ ρ') {f f' : Fn} (h : fnRel ρ f f') : fnRel ρ' f f' := by
  cases f with
  | yield l => obtain ⟨L, h1, h2⟩ := h; exact ⟨L, s _ _ h1, h2⟩
  | _ => exact h

mutual
theorem VRel.mono {ρ ρ' : Map} (s : Sub ρ ρ') {v v' : Value} (h : VRel ρ v v') : VRel ρ' v v' := by
  cases h with
  | bool b => exact .bool b
  | int k n => exact .int k n
  | float k n => exact .float k n
  | complex k m n => exact .complex k m n
  | string s => exact .string s
  | nilPtr => exact .nilPtr
  | ptr h => exact .ptr (s _ _ h)
  | nilSlice n c => exact .nilSlice n c
  | slice hc h => exact .slice hc (s _ _ h)
  | grow h h1 h2 => exact .grow (s _ _ h) h1 h2
  | grow0 => exact .grow0
  | zero => exact .zero
  | nilMap => exact .nilMap
  | map h => exact .map (s _ _ h)
  | nilChan => exact .nilChan
  | func h h1 h2 => exact .func (h.mono s) (LRel.mono s h1) (LRel.mono s h2)
  | nilFunc => exact .nilFunc
  | iface h => exact .iface (VRel.mono s h)
  | nilIface => exact .nilIface
  | agg h => exact .agg (LRel.mono s h)
  | tuple h => exact .tuple (LRel.mono s h)
theorem LRel.mono {ρ ρ' : Map} (s : Sub ρ ρ') {l l' : List Value} (h : LRel ρ l l') : LRel ρ' l l' := by
  cases h with
  | nil => exact .nil
  | cons h1 h2 => exact .cons (VRel.mono s h1) (LRel.mono s h2)
end

theorem VRel.undef (ρ : Map) : VRel ρ undef undef := .tuple .nil

section LRel
variable {ρ : Map}
theorem LRel.length {l m : List Value} (h : LRel ρ l m) : l.length = m.length := by
  induction l generalizing m with
  | nil => cases h; rfl
  | cons x l ih => cases h with | cons h1 h2 => simp [ih h2]
theorem LRel.get {l m : List Value} (h : LRel ρ l m) {i : Nat} {x : Value} (e : l[i]? = some x) : ∃ y, m[i]? = some y ∧ VRel ρ x y := by
  induction l generalizing m i with
  | nil => simp at e
  | cons z l ih =>
    cases h with
    | cons h1 h2 =>
      cases i with
      | zero => simp at e; subst e; exact ⟨_, rfl, h1⟩
      | succ i => simpa using ih h2 (by simpa using e)
theorem LRel.of_get {l m : List Value} (hl : l.length = m.length) (h : ∀ (i : Nat) x y, l[i]? = some x → m[i]? = some y → VRel ρ x y) : LRel ρ l m := by
  induction l generalizing m with
  | nil => cases m with
    | nil => exact .nil
    | cons y m => simp at hl
  | cons x l ih => cases m with
    | nil => simp at hl
    | cons y m => exact .cons (h 0 x y rfl rfl) (ih (by simpa using hl) fun (i : Nat) x y h1 h2 => h (i + 1) x y (by simpa using h1) (by simpa using h2))
theorem LRel.append {l m l' m' : List Value} (h : LRel ρ l m) (h' : LRel ρ l' m') : LRel ρ (l ++ l') (m ++ m') := by
  induction l generalizing m with
  | nil => cases h; exact h'
  | cons x l ih => cases h with | cons h1 h2 => exact .cons h1 (ih h2)
theorem LRel.drop {l m : List Value} (h : LRel ρ l m) (n : Nat) : LRel ρ (l.drop n) (m.drop n) := by
  induction n generalizing l m with
  | zero => simpa using h
  | succ n ih => cases h with
    | nil => exact .nil
    | cons h1 h2 => simpa using ih h2
theorem LRel.take {l m : List Value} (h : LRel ρ l m) (n : Nat) : LRel ρ (l.take n) (m.take n) := by
  induction n generalizing l m with
  | zero => simpa using LRel.nil
  | succ n ih => cases h with
    | nil => exact .nil
    | cons h1 h2 => simpa using LRel.cons h1 (ih h2)
theorem LRel.repl {l m : List Value} (h : LRel ρ l m) (n : Nat) : LRel ρ (repl n l) (repl n m) := by
  induction n with
  | zero => exact .nil
  | succ n ih => exact h.append ih
theorem LRel.mapL {α : Type} {f g : α → Value} (l : List α) (h : ∀ x ∈ l, VRel ρ (f x) (g x)) : LRel ρ (mapL f l) (l.map g) := by
  induction l with
  | nil => exact .nil
  | cons x l ih => exact .cons (h x (by simp)) (ih fun y hy => h y (by simp [hy]))
theorem VRel.cells {v v' : Value} (h : VRel ρ v v') : LRel ρ (vcells v) v'.cells.toList := by
  cases h with
  | agg h => exact h
  | _ => exact .cons (by first | exact VRel.ptr ‹_› | exact VRel.bool _ | exact VRel.int _ _ | exact VRel.float _ _ | exact VRel.complex _ _ _ | exact VRel.string _ | exact VRel.nilPtr | exact VRel.nilSlice _ _ | exact VRel.slice ‹_› ‹_› | exact VRel.grow ‹_› ‹_› ‹_› | exact VRel.grow0 | exact VRel.zero | exact VRel.nilMap | exact VRel.map ‹_› | exact VRel.nilChan | exact VRel.func ‹_› ‹_› ‹_› | exact VRel.nilFunc | exact VRel.iface ‹_› | exact VRel.nilIface | exact VRel.tuple ‹_›) .nil
end LRel

mutual
theorem VRel.closed (ρ : Map) : ∀ (v : Value), closedV v = true → VRel ρ v v
  | .bool b, _ => .bool b
  | .int k n, _ => .int k n
  | .float k n, _ => .float k n
  | .complex k m n, _ => .complex k m n
  | .string s, _ => .string s
  | .pointer none, _ => .nilPtr
  | .pointer (some _), h => by simp [closedV] at h
  | .slice none n c, _ => .nilSlice n c
  | .slice (some _) _ _, h => by simp [closedV] at h
  | .map none, _ => .nilMap
  | .map (some _), h => by simp [closedV] at h
  | .chan none, _ => .nilChan
  | .chan (some _), h => by simp [closedV] at h
  | .func f ⟨a⟩ ⟨c⟩, h => by
    cases f with
    | yield l => simp [closedV] at h
    | _ =>
      simp only [closedV, Bool.and_eq_true] at h
      exact .func rfl (LRel.closed ρ a h.1) (LRel.closed ρ c h.2)
  | .nilFunc, _ => .nilFunc
  | .nilIface, _ => .nilIface
  | .iface t v, h => by simp only [closedV] at h; exact .iface (VRel.closed ρ v h)
  | .agg ⟨l⟩, h => by simp only [closedV] at h; exact .agg (LRel.closed ρ l h)
  | .tuple ⟨l⟩, h => by simp only [closedV] at h; exact .tuple (LRel.closed ρ l h)
theorem LRel.closed (ρ : Map) : ∀ (l : List Value), closedL l = true → LRel ρ l l
  | [], _ => .nil
  | x :: l, h => by simp only [closedL, Bool.and_eq_true] at h; exact .cons (VRel.closed ρ x h.1) (LRel.closed ρ l h.2)
end

def TRel (ρ : Map) (t : T Value) (tmps : Array Value) : Prop := ∀ i, VRel ρ ((t.get i).getD undef) (tmps.getD i undef)

theorem TRel.mono {ρ ρ' : Map} (s : Sub ρ ρ') {t : T Value} {tmps : Array Value} (h : TRel ρ t tmps) : TRel ρ' t tmps := fun i => (h i).mono s

theorem TRel.put {ρ : Map} {t : T Value} {tmps : Array Value} (h : TRel ρ t tmps) {d : Nat} (hd : d < tmps.size) {v v' : Value} (hv : VRel ρ v v') :
    TRel ρ (T.setF (d + 1) t d (some v)) (tmps.setIfInBounds d v') := by
  intro i
  rw [T.get_put]
  by_cases e : i = d
  · subst e; simp [hd, hv]
  · have : (tmps.setIfInBounds d v').getD i undef = tmps.getD i undef := by simp [Array.getElem?_setIfInBounds_ne (Ne.symm e)]
    rw [if_neg e, this]; exact h i

/-! ## Blocks and worlds -/

inductive ERel (ρ : Map) : List MapEntry → List MapEntry → Prop where
  | nil : ERel ρ [] []
  | cons {e e' : MapEntry} {l l' : List MapEntry} : VRel ρ e.key e'.key → VRel ρ e.val e'.val → e.born = e'.born → ERel ρ l l' → ERel ρ (e :: l) (e' :: l')

theorem ERel.mono {ρ ρ' : Map} (s : Sub ρ ρ') {l l' : List MapEntry} (h : ERel ρ l l') : ERel ρ' l l' := by
  induction h with
  | nil => exact .nil
  | cons h1 h2 h3 _ ih => exact .cons (h1.mono s) (h2.mono s) h3 ih

theorem allL_mem {α : Type} {p : α → Bool} {l : List α} (h : allL p l = true) {x : α} (hx : x ∈ l) : p x = true := by
  induction l with
  | nil => simp at hx
  | cons y l ih =>
    simp only [allL, Bool.and_eq_true] at h
    rcases List.mem_cons.1 hx with rfl | hx
    · exact h.1
    · exact ih h.2 hx

def isRo : Blk → Bool
  | .cells _ _ ro => ro
  | _ => false

/-- A block of the model that an abstract block stands for. -/
def ORel (G : Nat) (ρ : Map) (B : Blk) (L : Loc) (O : Obj) : Prop :=
  match B with
  | .cells c _ ro => ∃ C e' fz, O = .cells C e' fz ∧ (∀ i v, c[i]? = some v → ∃ v', C[L.sh + i]? = some v' ∧ VRel ρ v v') ∧
      (ro = false → L.sh + L.room ≤ C.size ∧ c.length ≤ L.room ∧ (fz.1 = fz.2 ∨ L.sh + L.room ≤ fz.1))
  | .map es n => ∃ es', O = .map es' n ∧ ERel ρ es es'.toList
  | .siter s p => O = .stringIter s p ∧ L.sh = 0
  | .miter m since seen last => ∃ m', O = .mapIter m' since seen.toArray last ∧ L.sh = 0 ∧ VRel ρ (.map m) (.map m')
  | .loop st pending tmps params assign body => ∃ l : Loop, O = .loop l ∧ l.state = st ∧ l.pending = pending ∧ TRel ρ tmps l.tmps ∧ l.params = params.toArray ∧
      l.assign = assign ∧ l.body = body ∧ wfCode G l.tmps.size assign = true ∧ wfCode G l.tmps.size body = true ∧ (∀ p ∈ params, p < l.tmps.size)

theorem ORel.mono {G : Nat} {ρ ρ' : Map} (s : Sub ρ ρ') {B : Blk} {L : Loc} {O : Obj} (h : ORel G ρ B L O) : ORel G ρ' B L O := by
  cases B with
  | cells c e ro =>
    obtain ⟨C, e', fz, h1, h2, h3⟩ := h
    exact ⟨C, e', fz, h1, fun i v hi => let ⟨v', h4, h5⟩ := h2 i v hi; ⟨v', h4, h5.mono s⟩, h3⟩
  | map es n => obtain ⟨es', h1, h2⟩ := h; exact ⟨es', h1, h2.mono s⟩
  | siter t p => exact h
  | miter m a b c => obtain ⟨m', h1, h2, h3⟩ := h; exact ⟨m', h1, h2, h3.mono s⟩
  | loop st pe t ps a b =>
    obtain ⟨l, h1, h2, h3, h4, h5⟩ := h
    exact ⟨l, h1, h2, h3, h4.mono s, h5⟩

structure Rel (G : Nat) (ρ : Map) (σ : St) (w : World) : Prop where
  glob : ∀ g, g < G → ∃ L, ρ g = some L ∧ L.blk = g ∧ L.sh = 0
  low : ∀ b L, ρ b = some L → b < σ.next
  bnd : ∀ b L, ρ b = some L → L.blk < w.heap.size
  blk : ∀ b B L, σ.heap.get b = some B → ρ b = some L → ∃ O, w.heap[L.blk]? = some O ∧ ORel G ρ B L O
  inj : ∀ b b' B B' L L', σ.heap.get b = some B → σ.heap.get b' = some B' → ρ b = some L → ρ b' = some L' → b ≠ b' → isRo B = false → L.blk ≠ L'.blk

/-- How a relation has gone on; names below N mean what they meant. -/
structure Grow (N : Nat) (ρ : Map) (σ : St) (w : World) (ρ' : Map) (σ' : St) (w' : World) : Prop where
  sub : Sub ρ ρ'
  old : ∀ b, b < N → ρ' b = ρ b
  next : σ.next ≤ σ'.next
  size : w.heap.size ≤ w'.heap.size
  frame : ∀ B, B < w.heap.size → (∀ b K L, σ.heap.get b = some K → ρ b = some L → isRo K = false → L.blk ≠ B) → w'.heap[B]? = w.heap[B]?
  own : ∀ b K L, σ'.heap.get b = some K → ρ' b = some L →
    w.heap.size ≤ L.blk ∨ ∃ b0 K0 L0, σ.heap.get b0 = some K0 ∧ ρ b0 = some L0 ∧ (isRo K = false → isRo K0 = false) ∧ L0.blk = L.blk
  tape : w'.tape = w.tape
  os : w'.os = w.os
  output : w'.output = w.output

theorem Grow.refl (N : Nat) (ρ : Map) (σ : St) (w : World) : Grow N ρ σ w ρ σ w :=
  ⟨Sub.refl ρ, fun _ _ => rfl, Nat.le_refl _, Nat.le_refl _, fun _ _ _ => rfl, fun b K L h1 h2 => .inr ⟨b, K, L, h1, h2, id, rfl⟩, rfl, rfl, rfl⟩

theorem Grow.trans {N N' : Nat} {ρ ρ1 ρ2 : Map} {σ σ1 σ2 : St} {w w1 w2 : World} (h : Grow N ρ σ w ρ1 σ1 w1) (h' : Grow N' ρ1 σ1 w1 ρ2 σ2 w2) (hN : N ≤ N') : Grow N ρ σ w ρ2 σ2 w2 where
  sub := h.sub.trans h'.sub
  old b hb := (h'.old b (Nat.lt_of_lt_of_le hb hN)).trans (h.old b hb)
  next := Nat.le_trans h.next h'.next
  size := Nat.le_trans h.size h'.size
  frame B hB hn := by
    rw [h'.frame B (Nat.lt_of_lt_of_le hB h.size), h.frame B hB hn]
    intro b K L h1 h2 h3 e
    rcases h.own b K L h1 h2 with h4 | ⟨b0, K0, L0, h5, h6, h7, h8⟩
    · omega
    · exact hn b0 K0 L0 h5 h6 (h7 h3) (h8.trans e)
  own b K L h1 h2 := by
    rcases h'.own b K L h1 h2 with h4 | ⟨b0, K0, L0, h5, h6, h7, h8⟩
    · exact .inl (Nat.le_trans h.size h4)
    · rcases h.own b0 K0 L0 h5 h6 with h9 | ⟨b1, K1, L1, g1, g2, g3, g4⟩
      · exact .inl (h8 ▸ h9)
      · exact .inr ⟨b1, K1, L1, g1, g2, fun h3 => g3 (h7 h3), g4.trans h8⟩
  tape := h'.tape.trans h.tape
  os := h'.os.trans h.os
  output := h'.output.trans h.output

theorem Grow.less {N N' : Nat} {ρ ρ' : Map} {σ σ' : St} {w w' : World} (h : Grow N ρ σ w ρ' σ' w') (hN : N' ≤ N) : Grow N' ρ σ w ρ' σ' w' :=
  { h with old := fun b hb => h.old b (Nat.lt_of_lt_of_le hb hN) }

/-- A draw changes nothing that is looked at. -/
theorem Rel.drawn {G : Nat} {ρ : Map} {σ : St} {w : World} (r : Rel G ρ σ w) (n : Nat) : Rel G ρ σ { w with drawn := n } :=
  ⟨r.glob, r.low, r.bnd, r.blk, r.inj⟩
theorem Grow.drawn (N : Nat) (ρ : Map) (σ : St) (w : World) (n : Nat) : Grow N ρ σ w ρ σ { w with drawn := n } :=
  ⟨Sub.refl ρ, fun _ _ => rfl, Nat.le_refl _, Nat.le_refl _, fun _ _ _ => rfl, fun b K L h1 h2 => .inr ⟨b, K, L, h1, h2, id, rfl⟩, rfl, rfl, rfl⟩

end Go.AM
