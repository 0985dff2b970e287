/- The abstract machine's relation to the model's worlds: a new block, a block that is written, a block that is forgotten. -/
import Derived.Test.YtpbgmoihgoeneaaGreatDoorAMRel
namespace Go.AM

/-- The world with a block in the place of another. -/
def wset (w : World) (B : Nat) (O : Obj) : World := { w with heap := w.heap.setIfInBounds B O }
/-- The world with a block more. -/
def wpush (w : World) (O : Obj) : World := { w with heap := w.heap.push O }

def addρ (ρ : Map) (n : Nat) (L : Loc) : Map := fun b => if b = n then some L else ρ b

theorem addρ_same (ρ : Map) (n : Nat) (L : Loc) : addρ ρ n L n = some L := by simp [addρ]
theorem addρ_sub {ρ : Map} {n : Nat} (L : Loc) (h : ρ n = none) : Sub ρ (addρ ρ n L) := fun b K e => by
  by_cases hb : b = n
  · subst hb; rw [h] at e; cases e
  · simp [addρ, hb, e]

theorem heap_set {w : World} {B : Nat} {O O' : Obj} (h : w.heap[B]? = some O) (k : Nat) : (wset w B O').heap[k]? = if k = B then some O' else w.heap[k]? := by
  have hB : B < w.heap.size := by
    rcases Nat.lt_or_ge B w.heap.size with h' | h'
    · exact h'
    · simp [Array.getElem?_eq_none h'] at h
  by_cases e : k = B
  · subst e; simp [wset, hB]
  · simp [wset, Array.getElem?_setIfInBounds_ne (Ne.symm e), e]

theorem heap_push (w : World) (O : Obj) (k : Nat) : (wpush w O).heap[k]? = if k = w.heap.size then some O else w.heap[k]? := by
  simp only [wpush, Array.getElem?_push]

section
variable {G : Nat} {ρ : Map} {σ : St} {w : World}

theorem Rel.fresh (r : Rel G ρ σ w) : ρ σ.next = none := by
  cases h : ρ σ.next with
  | none => rfl
  | some L => exact absurd (r.low _ _ h) (Nat.lt_irrefl _)

/-- A new block, under a name that is not taken yet. -/
theorem Rel.alloc (r : Rel G ρ σ w) {n : Nat} (hn : ρ n = none) (nx : Nat) (hnx : n < nx) (hnx' : σ.next ≤ nx) {B : Blk} {O : Obj} (room : Nat)
    (ho : ORel G (addρ ρ n ⟨w.heap.size, 0, room⟩) B ⟨w.heap.size, 0, room⟩ O) :
    Rel G (addρ ρ n ⟨w.heap.size, 0, room⟩) ⟨T.setF (n + 1) σ.heap n (some B), nx⟩ (wpush w O) ∧
    (∀ N, N ≤ n → Grow N ρ σ w (addρ ρ n ⟨w.heap.size, 0, room⟩) ⟨T.setF (n + 1) σ.heap n (some B), nx⟩ (wpush w O)) := by
  have sub := addρ_sub (ρ := ρ) (n := n) ⟨w.heap.size, 0, room⟩ hn
  have back : ∀ b L, addρ ρ n ⟨w.heap.size, 0, room⟩ b = some L → b ≠ n → ρ b = some L := fun b L e hb => by simpa [addρ, hb] using e
  have here : ∀ L, addρ ρ n ⟨w.heap.size, 0, room⟩ n = some L → L = ⟨w.heap.size, 0, room⟩ := fun L e => by rw [addρ_same] at e; exact (Option.some.inj e).symm
  refine ⟨⟨?_, ?_, ?_, ?_, ?_⟩, fun N hN => ⟨sub, ?_, hnx', by simp [wpush], ?_, ?_, rfl, rfl, rfl⟩⟩
  · intro g hg
    obtain ⟨L, h1, h2⟩ := r.glob g hg
    exact ⟨L, sub _ _ h1, h2⟩
  · intro b L e
    by_cases hb : b = n
    · subst hb; exact hnx
    · exact Nat.lt_of_lt_of_le (r.low b L (back b L e hb)) hnx'
  · intro b L e
    simp only [wpush, Array.size_push]
    by_cases hb : b = n
    · subst hb; rw [here L e]; exact Nat.lt_succ_self _
    · have := r.bnd b L (back b L e hb); omega
  · intro b K L h1 e
    simp only [T.get_put] at h1
    by_cases hb : b = n
    · subst hb
      rw [if_pos rfl] at h1
      cases h1
      rw [here L e]
      exact ⟨O, by simp [heap_push], ho⟩
    · rw [if_neg hb] at h1
      obtain ⟨O', h2, h3⟩ := r.blk b K L h1 (back b L e hb)
      have := r.bnd b L (back b L e hb)
      refine ⟨O', ?_, h3.mono sub⟩
      rw [heap_push, if_neg (by omega)]; exact h2
  · intro b b' K K' L L' h1 h1' e e' hne hro
    simp only [T.get_put] at h1 h1'
    by_cases hb : b = n
    · subst hb
      have hb' : b' ≠ b := Ne.symm hne
      have := r.bnd b' L' (back b' L' e' hb')
      rw [here L e]; simp; omega
    · rw [if_neg hb] at h1
      by_cases hb' : b' = n
      · subst hb'
        have := r.bnd b L (back b L e hb)
        rw [here L' e']; simp; omega
      · rw [if_neg hb'] at h1'
        exact r.inj b b' K K' L L' h1 h1' (back b L e hb) (back b' L' e' hb') hne hro
  · intro b hb
    have : b ≠ n := by omega
    simp [addρ, this]
  · intro k hk _
    rw [heap_push, if_neg (by omega)]
  · intro b K L h1 e
    simp only [T.get_put] at h1
    by_cases hb : b = n
    · subst hb; rw [here L e]; exact .inl (Nat.le_refl _)
    · rw [if_neg hb] at h1
      exact .inr ⟨b, K, L, h1, back b L e hb, id, rfl⟩

/-- A block that is written. -/
theorem Rel.update (r : Rel G ρ σ w) {b : Nat} {B B' : Blk} {L : Loc} {O O' : Obj} (hb : σ.heap.get b = some B) (hL : ρ b = some L) (hro : isRo B = false)
    (hO : w.heap[L.blk]? = some O) (ho : ORel G ρ B' L O') :
    Rel G ρ (put σ b (some B')) (wset w L.blk O') ∧ ∀ N, Grow N ρ σ w ρ (put σ b (some B')) (wset w L.blk O') := by
  have sz : (wset w L.blk O').heap.size = w.heap.size := by simp [wset]
  refine ⟨⟨r.glob, r.low, fun c M e => by rw [sz]; exact r.bnd c M e, ?_, ?_⟩, fun N => ⟨Sub.refl ρ, fun _ _ => rfl, Nat.le_refl _, by rw [sz]; exact Nat.le_refl _, ?_, ?_, rfl, rfl, rfl⟩⟩
  · intro c K M h1 e
    rw [get_put] at h1
    by_cases hc : c = b
    · subst hc
      rw [if_pos rfl] at h1; cases h1
      rw [hL] at e; cases e
      exact ⟨O', by rw [heap_set hO]; simp, ho⟩
    · rw [if_neg hc] at h1
      obtain ⟨O1, h2, h3⟩ := r.blk c K M h1 e
      have := r.inj b c B K L M hb h1 hL e (Ne.symm hc) hro
      exact ⟨O1, by rw [heap_set hO, if_neg (Ne.symm this)]; exact h2, h3⟩
  · intro c c' K K' M M' h1 h1' e e' hne hr
    rw [get_put] at h1 h1'
    by_cases hc : c = b
    · subst hc
      rw [if_neg (Ne.symm hne)] at h1'
      exact r.inj c c' B K' M M' hb h1' e e' hne hro
    · rw [if_neg hc] at h1
      by_cases hc' : c' = b
      · subst hc'; exact r.inj c c' K B M M' h1 hb e e' hne hr
      · rw [if_neg hc'] at h1'
        exact r.inj c c' K K' M M' h1 h1' e e' hne hr
  · intro k hk hn
    have := hn b B L hb hL hro
    rw [heap_set hO, if_neg (Ne.symm this)]
  · intro c K M h1 e
    rw [get_put] at h1
    by_cases hc : c = b
    · subst hc; exact .inr ⟨c, B, M, hb, e, fun _ => hro, rfl⟩
    · rw [if_neg hc] at h1; exact .inr ⟨c, K, M, h1, e, id, rfl⟩

/-- To put back what is there changes nothing. -/
theorem Rel.same (r : Rel G ρ σ w) {b : Nat} {B : Blk} {w' : World} (hb : σ.heap.get b = some B) (h : Rel G ρ (put σ b (some B)) w') (g : ∀ N, Grow N ρ σ w ρ (put σ b (some B)) w') :
    Rel G ρ σ w' ∧ ∀ N, Grow N ρ σ w ρ σ w' := by
  have _ := r
  have e : ∀ c, (put σ b (some B)).heap.get c = σ.heap.get c := fun c => by
    rw [get_put]
    split
    · subst_vars; exact hb.symm
    · rfl
  refine ⟨⟨h.glob, h.low, h.bnd, fun c K L h1 h2 => h.blk c K L (by rw [e]; exact h1) h2, fun c c' K K' L L' h1 h1' h2 h2' h3 h4 => h.inj c c' K K' L L' (by rw [e]; exact h1) (by rw [e]; exact h1') h2 h2' h3 h4⟩, fun N => ?_⟩
  have g := g N
  exact ⟨g.sub, g.old, g.next, g.size, g.frame, fun c K L h1 h2 => g.own c K L (by rw [e]; exact h1) h2, g.tape, g.os, g.output⟩

/-- A block that is forgotten. -/
theorem Rel.erase (r : Rel G ρ σ w) (b : Nat) : Rel G ρ (put σ b none) w ∧ ∀ N, Grow N ρ σ w ρ (put σ b none) w := by
  have keep : ∀ c K, (put σ b none).heap.get c = some K → σ.heap.get c = some K := fun c K h => by
    rw [get_put] at h
    by_cases hc : c = b
    · rw [if_pos hc] at h; cases h
    · rwa [if_neg hc] at h
  refine ⟨⟨r.glob, r.low, r.bnd, fun c K M h1 e => r.blk c K M (keep c K h1) e, fun c c' K K' M M' h1 h1' e e' hne hr => r.inj c c' K K' M M' (keep c K h1) (keep c' K' h1') e e' hne hr⟩,
    fun N => ⟨Sub.refl ρ, fun _ _ => rfl, Nat.le_refl _, Nat.le_refl _, fun _ _ _ => rfl, fun c K M h1 e => .inr ⟨c, K, M, keep c K h1, e, id, rfl⟩, rfl, rfl, rfl⟩⟩

/-- A block that is forgotten, and lives on, written, under a new name. -/
theorem Rel.rename (r : Rel G ρ σ w) {b : Nat} {B B' : Blk} {L L' : Loc} {O O' : Obj} (hb : σ.heap.get b = some B) (hL : ρ b = some L) (hro : isRo B = false) (hblk : L'.blk = L.blk)
    (hO : w.heap[L.blk]? = some O) (ho : ORel G (addρ ρ σ.next L') B' L' O') :
    Rel G (addρ ρ σ.next L') ⟨T.setF (σ.next + 1) (put σ b none).heap σ.next (some B'), σ.next + 1⟩ (wset w L.blk O') ∧
    Grow σ.next ρ σ w (addρ ρ σ.next L') ⟨T.setF (σ.next + 1) (put σ b none).heap σ.next (some B'), σ.next + 1⟩ (wset w L.blk O') := by
  have sz : (wset w L.blk O').heap.size = w.heap.size := by simp [wset]
  have sub := addρ_sub (ρ := ρ) (n := σ.next) L' r.fresh
  have back : ∀ c M, addρ ρ σ.next L' c = some M → c ≠ σ.next → ρ c = some M := fun c M e hc => by simpa [addρ, hc] using e
  have here : ∀ M, addρ ρ σ.next L' σ.next = some M → M = L' := fun M e => by rw [addρ_same] at e; exact (Option.some.inj e).symm
  have keep : ∀ c K, (T.setF (σ.next + 1) (put σ b none).heap σ.next (some B')).get c = some K → c ≠ σ.next → σ.heap.get c = some K ∧ c ≠ b := fun c K h hn => by
    rw [T.get_put, if_neg hn, get_put] at h
    by_cases hc : c = b
    · rw [if_pos hc] at h; cases h
    · rw [if_neg hc] at h; exact ⟨h, hc⟩
  refine ⟨⟨?_, ?_, ?_, ?_, ?_⟩, ⟨sub, ?_, Nat.le_succ _, by rw [sz]; exact Nat.le_refl _, ?_, ?_, rfl, rfl, rfl⟩⟩
  · intro g hg
    obtain ⟨M, h1, h2⟩ := r.glob g hg
    exact ⟨M, sub _ _ h1, h2⟩
  · intro c M e
    by_cases hc : c = σ.next
    · subst hc; exact Nat.lt_succ_self _
    · exact Nat.lt_succ_of_lt (r.low c M (back c M e hc))
  · intro c M e
    rw [sz]
    by_cases hc : c = σ.next
    · subst hc; rw [here M e, hblk]; exact r.bnd b L hL
    · exact r.bnd c M (back c M e hc)
  · intro c K M h1 e
    by_cases hc : c = σ.next
    · subst hc
      simp only [T.get_put, if_true] at h1
      cases h1
      rw [here M e]
      exact ⟨O', by rw [heap_set hO, hblk]; simp, ho⟩
    · obtain ⟨h2, h3⟩ := keep c K h1 hc
      obtain ⟨O1, h4, h5⟩ := r.blk c K M h2 (back c M e hc)
      have := r.inj b c B K L M hb h2 hL (back c M e hc) (Ne.symm h3) hro
      exact ⟨O1, by rw [heap_set hO, if_neg (Ne.symm this)]; exact h4, h5.mono sub⟩
  · intro c c' K K' M M' h1 h1' e e' hne hr
    by_cases hc : c = σ.next
    · subst hc
      obtain ⟨h2, h3⟩ := keep c' K' h1' (Ne.symm hne)
      rw [here M e, hblk]
      exact r.inj b c' B K' L M' hb h2 hL (back c' M' e' (Ne.symm hne)) (Ne.symm h3) hro
    · obtain ⟨h2, h3⟩ := keep c K h1 hc
      by_cases hc' : c' = σ.next
      · subst hc'
        rw [here M' e', hblk]
        exact r.inj c b K B M L h2 hb (back c M e hc) hL h3 hr
      · obtain ⟨h2', h3'⟩ := keep c' K' h1' hc'
        exact r.inj c c' K K' M M' h2 h2' (back c M e hc) (back c' M' e' hc') hne hr
  · intro c hc
    have : c ≠ σ.next := by omega
    simp [addρ, this]
  · intro k hk hn
    have := hn b B L hb hL hro
    rw [heap_set hO, if_neg (Ne.symm this)]
  · intro c K M h1 e
    by_cases hc : c = σ.next
    · subst hc; rw [here M e]; exact .inr ⟨b, B, L, hb, hL, fun _ => hro, hblk.symm⟩
    · exact .inr ⟨c, K, M, (keep c K h1 hc).1, back c M e hc, id, rfl⟩
end

/-! ## Cells that are read and written -/

theorem cell_of {w : World} {B : Nat} {C : Array Value} {e : TypeId} {fz : Nat × Nat} (h : w.heap[B]? = some (.cells C e fz)) (o : Nat) : w.cell? ⟨B, o, none⟩ = C[o]? := by
  simp [World.cell?, h]
theorem frozen_of {w : World} {B : Nat} {C : Array Value} {e : TypeId} {fz : Nat × Nat} (h : w.heap[B]? = some (.cells C e fz)) (o : Nat) : w.frozen? ⟨B, o, none⟩ = (decide (fz.1 ≤ o) && decide (o < fz.2)) := by
  simp [World.frozen?, h]
theorem setCell_of {w : World} {B : Nat} {C : Array Value} {e : TypeId} {fz : Nat × Nat} (h : w.heap[B]? = some (.cells C e fz)) (o : Nat) (v : Value) :
    w.setCell ⟨B, o, none⟩ v = wset w B (.cells (C.setIfInBounds o v) e fz) := by
  have hB : B < w.heap.size := by
    rcases Nat.lt_or_ge B w.heap.size with h' | h'
    · exact h'
    · simp [Array.getElem?_eq_none h'] at h
  have hv : w.heap[B] = .cells C e fz := by simpa [hB] using h
  unfold World.setCell wset
  congr 1
  apply Array.ext_getElem?
  intro i
  by_cases hi : B = i
  · subst hi; simp [Array.getElem_modify, hB, hv]
  · rw [Array.getElem?_setIfInBounds_ne hi]; simp [Array.getElem?_modify, hi]

theorem addr_add (B o n : Nat) : (⟨B, o, none⟩ : Addr).add n = ⟨B, o + n, none⟩ := by
  unfold Addr.add; split
  · subst_vars; rfl
  · rfl

theorem run_loadCellsFrom {P : Program} {w : World} {B : Nat} {C : Array Value} {e : TypeId} {fz : Nat × Nat} (h : w.heap[B]? = some (.cells C e fz)) (o : Nat) :
    ∀ (n i : Nat) (acc : Array Value) (vs : List Value), vs.length = n → (∀ j v, vs[j]? = some v → C[o + i + j]? = some v) →
      (loadCellsFrom ⟨B, o, none⟩ i n acc).run P w = .ok (acc ++ vs.toArray) w := by
  intro n
  induction n with
  | zero => intro i acc vs hl _; have : vs = [] := List.eq_nil_of_length_eq_zero hl; subst this; simp [loadCellsFrom]
  | succ n ih =>
    intro i acc vs hl hv
    cases vs with
    | nil => simp at hl
    | cons x vs =>
      have hx := hv 0 x rfl
      simp only [loadCellsFrom, Sem.run_bind, run_load, addr_add, cell_of h, Nat.add_zero] at hx ⊢
      rw [hx]
      simp only [Result.andThen_ok]
      rw [ih (i + 1) (acc.push x) vs (by simpa using hl) (fun j v hj => by
        have := hv (j + 1) v (by simpa using hj)
        rwa [show o + i + (j + 1) = o + (i + 1) + j from by omega] at this)]
      simp

theorem run_loadCells {P : Program} {w : World} {B : Nat} {C : Array Value} {e : TypeId} {fz : Nat × Nat} (h : w.heap[B]? = some (.cells C e fz)) (o n : Nat) (vs : List Value) (hl : vs.length = n)
    (hv : ∀ (j : Nat) v, vs[j]? = some v → C[o + j]? = some v) : (loadCells ⟨B, o, none⟩ n).run P w = .ok vs.toArray w := by
  have := run_loadCellsFrom (P := P) h o n 0 #[] vs hl (fun j v hj => by simpa using hv j v hj)
  simpa [loadCells] using this

/-- What cells hold behind a store. -/
def cput (C : Array Value) (o : Nat) (vs : List Value) : Array Value := (C.toList.take o ++ vs ++ C.toList.drop (o + vs.length)).toArray

theorem cput_get {C : Array Value} {o : Nat} {vs : List Value} (h : o + vs.length ≤ C.size) (k : Nat) :
    (cput C o vs)[k]? = if o ≤ k ∧ k < o + vs.length then vs[k - o]? else C[k]? := by
  have hs : C.toList.length = C.size := by simp
  have : (cput C o vs)[k]? = (C.toList.take o ++ vs ++ C.toList.drop (o + vs.length))[k]? := by simp [cput]
  rw [this, List.getElem?_append, List.getElem?_append]
  simp only [List.length_append, List.length_take, List.getElem?_drop, List.getElem?_take, hs]
  have hm : min o C.size = o := by omega
  rw [hm]
  by_cases h1 : k < o
  · have h3 : k < o + vs.length := by omega
    have h4 : ¬ (o ≤ k ∧ k < o + vs.length) := by omega
    rw [if_pos h3, if_pos h1, if_pos h1, if_neg h4]; simp
  · by_cases h2 : k < o + vs.length
    · have h4 : (o ≤ k ∧ k < o + vs.length) := by omega
      rw [if_pos h2, if_neg h1, if_pos h4]
    · have h4 : ¬ (o ≤ k ∧ k < o + vs.length) := by omega
      rw [if_neg h2, if_neg h4]
      rw [show o + vs.length + (k - (o + vs.length)) = k from by omega]
      simp

theorem cput_size {C : Array Value} {o : Nat} {vs : List Value} (h : o + vs.length ≤ C.size) : (cput C o vs).size = C.size := by
  have hs : C.toList.length = C.size := by simp
  simp [cput]; omega

theorem cput_cons {C : Array Value} {o : Nat} {v : Value} {vs : List Value} (h : o + (vs.length + 1) ≤ C.size) : cput (C.setIfInBounds o v) (o + 1) vs = cput C o (v :: vs) := by
  apply Array.ext_getElem?
  intro k
  rw [cput_get (by simp; omega), cput_get (by simp; omega)]
  by_cases h1 : o + 1 ≤ k ∧ k < o + 1 + vs.length
  · rw [if_pos h1, if_pos ⟨by omega, by simp; omega⟩]
    rw [show k - o = (k - (o + 1)) + 1 from by omega]; simp
  · rw [if_neg h1]
    by_cases h2 : k = o
    · subst h2
      have hC : k < C.size := by omega
      rw [if_pos ⟨by omega, by simp⟩]; simp [hC]
    · rw [if_neg (by simp; omega)]
      rw [Array.getElem?_setIfInBounds_ne (Ne.symm h2)]

theorem wset_wset (w : World) (B : Nat) (O O' : Obj) : wset (wset w B O) B O' = wset w B O' := by simp [wset]
theorem wset_same {w : World} {B : Nat} {O : Obj} (h : w.heap[B]? = some O) : wset w B O = w := by
  unfold wset
  have hB : B < w.heap.size := by
    rcases Nat.lt_or_ge B w.heap.size with h' | h'
    · exact h'
    · simp [Array.getElem?_eq_none h'] at h
  have hv : w.heap[B] = O := by simpa [hB] using h
  have : w.heap.setIfInBounds B O = w.heap := by
    apply Array.ext
    · simp
    · intro i h1 h2
      rw [Array.getElem_setIfInBounds]
      split
      · subst_vars; rfl
      · rfl
  rw [this]

theorem run_storeCells {P : Program} {B : Nat} {e : TypeId} {fz : Nat × Nat} (o : Nat) : ∀ (vs : List Value) (i : Nat) (w : World) (C : Array Value),
    w.heap[B]? = some (.cells C e fz) → o + i + vs.length ≤ C.size → (∀ k, o + i ≤ k → k < o + i + vs.length → ¬(fz.1 ≤ k ∧ k < fz.2)) → (∀ v ∈ vs, v.oneCell' = true) →
      (storeCells ⟨B, o, none⟩ vs i).run P w = .ok () (wset w B (.cells (cput C (o + i) vs) e fz)) := by
  intro vs
  induction vs with
  | nil =>
    intro i w C h _ _ _
    have : cput C (o + i) [] = C := by simp [cput]
    rw [this, wset_same h]; simp [storeCells]
  | cons v vs ih =>
    intro i w C h hl hf h1
    have hlt : o + i < C.size := by simp at hl; omega
    have hnf := hf (o + i) (Nat.le_refl _) (by simp)
    have hfr : w.frozen? ⟨B, o + i, none⟩ = false := by
      rw [frozen_of h]
      by_cases ha : fz.1 ≤ o + i <;> by_cases hb : o + i < fz.2 <;> simp [ha, hb] <;> omega
    simp only [storeCells, Sem.run_bind, addr_add, run_store P w ⟨B, o + i, none⟩ v .plain (h1 v (by simp)), cell_of h, hfr]
    have hc : C[o + i]? = some C[o + i] := by simp [hlt]
    rw [hc]
    simp only [Result.andThen_ok, Bool.false_eq_true, if_false]
    rw [setCell_of h]
    rw [ih (i + 1) (wset w B (.cells (C.setIfInBounds (o + i) v) e fz)) (C.setIfInBounds (o + i) v) (by rw [heap_set h]; simp) (by simp at hl ⊢; omega)
      (fun k hk1 hk2 => hf k (by omega) (by simp; omega)) (fun u hu => h1 u (by simp [hu]))]
    rw [wset_wset]
    have := cput_cons (C := C) (o := o + i) (v := v) (vs := vs) (by simp at hl; omega)
    rw [show o + (i + 1) = o + i + 1 from by omega, this]

end Go.AM
