/- From the abstract machine's run to a law's row: what is called returns true, and of what was there nothing has turned. -/
import Derived.Test.YtpbgmoihgoeneaaGreatDoorAMDraw4
import Derived.ProofKit
import Derived.OpenShut
import Derived.WalkKit
import Derived.ChangeStays
import Derived.Deep.DeepHandedRow
namespace Go.AM
open Go.ChangeShapes Go.WideShapes Go.ChangeAt Go.RowKit

theorem Sound.calls {P : Program} {E : Env} {R : Rec} (S : Sound P E R) {f : FuncId} {args : List Value} {σ : St} {v : Value} {σ' : St} (h : R.call f args σ = .ok (v, σ')) {ρ : Map} {w : World} {args' : Array Value}
    (ha : LRel ρ args args'.toList) (r : Rel E.G ρ σ w) : Calls P f args' w (RetPost E.G ρ σ w v σ') :=
  CallsIn.calls (F := FW none) (S.call h ha r).1 (FW.room none)

/-! ## A row's argument is read as it was -/
section
variable {H : Type} {enc : TypeId × Value → H} {P : Program} {T : TypeId → Prop} {w w' : World}

theorem sameAt_kept (h : ∀ B, B < w.heap.size → w'.heap[B]? = w.heap[B]?) (p : MemPlace) (hp : p.block < w.heap.size) : w.sameAt w' p := by
  cases p with
  | cell b off =>
    show w'.cell? ⟨b, off, none⟩ = w.cell? ⟨b, off, none⟩
    simp only [World.cell?, h b hp]
  | map b => exact h b hp

theorem trodAll_stays (K : Kids P T) (hsz : ∀ {t e : TypeId}, T t → P.underlying t = some (.slice e) → 0 < P.cellsOf e) (h : ∀ B, B < w.heap.size → w'.heap[B]? = w.heap[B]?) {sp : Nat → Bool} :
    ∀ {ts : List TypeId} {vs : List Value} {ds : List (DataW H)} {ps : List MemPlace}, DataW.TrodAll enc P w 0 (fun _ => true) true ts vs ds ps → (∀ t ∈ ts, T t) → (∀ p ∈ ps, sp p.block = true) → DataW.TrodAll enc P w' 0 sp true ts vs ds ps
  | [], [], [], ps, h1, _, _ => h1
  | t :: ts, v :: vs, d :: ds, ps, h1, hT, hs => by
    have hlt := DataW.TrodAll.lt h1
    obtain ⟨p, q, h2, h3, rfl⟩ := h1
    obtain ⟨fuel, h2⟩ := h2
    refine ⟨p, q, ⟨fuel, ?_⟩, trodAll_stays K hsz h h3 (fun t ht => hT t (by simp [ht])) (fun x hx => hs x (by simp [hx])), rfl⟩
    exact DataW.trod_stays K hsz (fun e => by cases e) (hT t (by simp)) h2 (fun x hx => sameAt_kept h x (hlt x (by simp [show x ∈ p from hx]))) (fun x hx => hs x (by simp [show x ∈ p from hx]))
  | [], _ :: _, _, _, h1, _, _ => by cases h1
  | [], [], _ :: _, _, h1, _, _ => by cases h1
  | _ :: _, [], _, _, h1, _, _ => by cases h1
  | _ :: _, _ :: _, [], _, h1, _, _ => by cases h1

theorem keptBut_of (h : ∀ B, B < w.heap.size → w'.heap[B]? = w.heap[B]?) (hos : w'.os = w.os) (hout : w'.output = w.output) (may : MemPlace → Prop) : w.keptBut w' may := by
  refine ⟨hos, hout, fun i hi => ?_⟩
  rw [h i hi]
  cases w.heap[i]? with
  | none => rfl
  | some o => cases o <;> first | exact ⟨rfl, rfl, rfl, fun _ _ => rfl⟩ | exact .inr ⟨rfl, rfl⟩ | rfl

/-- WHAT A LAW's ROW ASKS, where the call has handed back true and nothing that was there has turned. -/
theorem law_post (K : Kids P T) (hsz : ∀ {t e : TypeId}, T t → P.underlying t = some (.slice e) → 0 < P.cellsOf e) {f : Func} {s : ChangeSpec} {apart fresh handsOn again : Bool} {tb : TypeId} {args : Array Value} {ds gs : List (DataW H)} {before : List MemPlace}
    (hT : ∀ t ∈ f.params.toList, T t) (hres : f.resultTypes = #[tb]) (hb : P.underlying tb = some .bool) (hsv : s.vars = []) (hfn : s.fn H (ds ++ gs) = { results := [.lit (.bool true)], args := ds })
    (hW : DataW.Whole enc P f.params.toList s.vars apart w args.toList ds gs before) (h : ∀ B, B < w.heap.size → w'.heap[B]? = w.heap[B]?) (hos : w'.os = w.os) (hout : w'.output = w.output) :
    s.post enc P f apart fresh handsOn again w args (.bool true) w' := by
  have hW' := hW
  have hlt := DataW.Whole.lt hW
  obtain ⟨p, q, hA, hV, rfl, hz, hn⟩ := hW
  rw [hsv] at hV
  obtain ⟨rfl, rfl⟩ := trodVars_none hV
  simp only [List.append_nil] at hlt hz hn hW' hfn
  have hold : ∀ x ∈ p, (fun b => decide (b < w.heap.size)) x.block = true := fun x hx => by simpa using hlt x hx
  have hargs : ∀ sp : Nat → Bool, (∀ x ∈ p, sp x.block = true) → DataW.TrodAll enc P w' 0 sp true f.params.toList args.toList (s.fn H (ds ++ [])).args p := fun sp hs => by
    simp only [List.append_nil, hfn]
    exact trodAll_stays K hsz h hA hT hs
  have hresT : ∀ (b : Nat) (sp : Nat → Bool) (hd : Bool), DataW.TrodAll enc P w' b sp hd f.resultTypes.toList ((Value.bool true).resultList f.resultTypes.size) (s.fn H (ds ++ [])).results [] := fun b sp hd => by
    simp only [List.append_nil, hfn, hres]
    exact trodAll_mk1 (shut_bool hb true)
  have hvarsT : ∀ sp : Nat → Bool, DataW.TrodVars enc P w' sp s.vars (s.fn H (ds ++ [])).vars [] := fun sp => by
    simp only [List.append_nil, hfn, hsv]
    rfl
  refine ⟨ds, [], p, [], p, [], hW', hresT _ _ _, hargs _ hold, hvarsT _, keptBut_of h hos hout _, fun _ => ⟨?_, ?_⟩⟩
  · exact ok_one hres rfl (okWide_bool_mk hb true)
  · refine ⟨_, _, ([] ++ p) ++ [], ⟨[] ++ p, [], trodAll_append (hargs _ (fun _ _ => rfl)) (hresT _ _ _), hvarsT _, rfl, ?_, ?_⟩, ?_⟩
    · intro b off hp
      have hp : MemPlace.cell b off ∈ p := by simpa using hp
      have := hz b off hp
      have hb' := hlt _ hp
      simp only [World.frozen?, MemPlace.block] at this hb' ⊢
      rw [h b hb']; exact this
    · intro ha
      simpa using hn ha
    · intro x hx _
      simpa using hx

end

/-! ## The worlds that laws are called in -/

/-- Every package-level variable has its block. -/
theorem globals_lt {P : Program} {w : World} (hsh : w.ShapedOpen P) (hrow : ((List.range P.globals.size).all fun g => (((begin P (fun _ _ => 0) default).world.heap[g]?).bind Obj.row?).isSome) = true) : ∀ g, g < P.globals.size → g < w.heap.size := by
  intro g hg
  have := List.all_eq_true.1 hrow g (List.mem_range.2 hg)
  obtain ⟨⟨z, t⟩, hzt⟩ := Option.isSome_iff_exists.1 this
  obtain ⟨cs, h1, _⟩ := hsh.1 g z t hg hzt
  exact size_of_some h1

/-- The names at the start: the package-level variables', and one for each argument's block. -/
def ρ0 (G : Nat) (Ls : List Loc) : Map := fun b => if b < G then some ⟨b, 0, 0⟩ else Ls[b - G]?

/-- At the start nothing is known of what blocks hold. -/
theorem rel0 {G : Nat} {w : World} (hG : ∀ g, g < G → g < w.heap.size) {Ls : List Loc} (hL : ∀ L ∈ Ls, L.blk < w.heap.size) : Rel G (ρ0 G Ls) ⟨.leaf, G + Ls.length⟩ w := by
  refine ⟨fun g hg => ⟨⟨g, 0, 0⟩, by simp [ρ0, hg], rfl, rfl⟩, fun b L h => ?_, fun b L h => ?_, fun b B L h => ?_, fun b b' B B' L L' h => ?_⟩
  · simp only [ρ0] at h
    split at h
    · show b < G + Ls.length
      omega
    · have := (List.getElem?_eq_some_iff.1 h).1
      show b < G + Ls.length
      omega
  · simp only [ρ0] at h
    split at h
    · cases h; exact hG b ‹_›
    · exact hL L (List.mem_of_getElem? h)
  · simp [T.get_leaf] at h
  · simp [T.get_leaf] at h

/-- Where nothing that may be written is known at the start, nothing that was there turns. -/
theorem Grow.kept {N : Nat} {ρ ρ' : Map} {σ σ' : St} {w w' : World} (g : Grow N ρ σ w ρ' σ' w') (h : ∀ b K, σ.heap.get b = some K → isRo K = true) : ∀ B, B < w.heap.size → w'.heap[B]? = w.heap[B]? := fun B hB =>
  g.frame B hB fun b K L h1 _ h3 => by rw [h b K h1] at h3; cases h3

/-- A slice that was handed over: its name, its block. -/
theorem slice_arg {G : Nat} {Ls : List Loc} {i : Nat} {a : Addr} {len cap : Nat} (hs : a.spot = none) (hc : cap < GROW) (hi : Ls[i]? = some ⟨a.block, a.off, 0⟩) : VRel (ρ0 G Ls) (.slice (some ⟨G + i, 0, none⟩) len cap) (.slice (some a) len cap) := by
  have h : ρ0 G Ls (G + i) = some ⟨a.block, a.off, 0⟩ := by
    have : ¬ G + i < G := by omega
    simp [ρ0, this, hi]
  have := VRel.slice (o := 0) (n := len) hc h
  obtain ⟨b, o, s⟩ := a
  simp only at hs
  subst hs
  simpa using this

/-- A slice as an argument: nil; without room; or in a block that is there. -/
theorem slice_shape {H : Type} {enc : TypeId × Value → H} {P : Program} {w W : World} {r : Reach} {base : Nat} {t e : TypeId} {v : Value} {d : DataW H} {ps : List MemPlace} (ht : P.underlying t = some (.slice e)) (hs : 0 < P.cellsOf e)
    (hv : Value.okWide P W r base t v) (hd : DataW.Trod enc P w 0 (fun _ => true) true t v d ps) (hb : 0 < P.bytesOf e) (hw : (d.weights P t).all (· ≤ reachBytes) = true) :
    v = .slice none 0 0 ∨ ∃ a len cap, v = .slice (some a) len cap ∧ len ≤ cap ∧ cap < GROW ∧ ((len = 0 ∧ cap = 0) ∨ (a.spot = none ∧ a.block < w.heap.size)) := by
  obtain ⟨a0, len, cap, rfl⟩ := okWide_slice ht hv
  obtain ⟨fuel, hd⟩ := hd
  have hcells : (Value.slice a0 len cap).cells.toList = [.slice a0 len cap] := rfl
  rw [hcells] at hd
  rcases DataW.trod_slice ht hd with ⟨e1, _⟩ | ⟨a, len', cap', elems, rest, n, rfl, e1, hdx, _, hle, hm, hlen, hel, hsp, _⟩
  · left
    simpa using e1
  · right
    simp only [List.cons.injEq, Value.slice.injEq, and_true] at e1
    obtain ⟨rfl, rfl, rfl⟩ := e1
    have hcap : cap < GROW := by
      obtain ⟨hr, _⟩ := hsp rfl
      rw [(Prod.mk.inj hdx).1] at hw
      simp only [DataW.weights, ht, List.all_cons, Bool.and_eq_true, decide_eq_true_eq, List.length_map] at hw
      have h1 := hw.1
      rw [hlen, hr, show len + (cap - len) = cap by omega] at h1
      have h2 : cap * 1 ≤ cap * P.bytesOf e := Nat.mul_le_mul_left _ hb
      have h3 : reachBytes < GROW := by decide
      omega
    refine ⟨a, len, cap, rfl, hle, hcap, ?_⟩
    rcases Nat.eq_zero_or_pos cap with h0 | h0
    · left; omega
    · right
      obtain ⟨hr, hrs⟩ := hsp rfl
      have add0 : ∀ a : Addr, a.add (0 * P.cellsOf e) = a := fun a => by simp [Addr.add]
      have key : ∃ x, (w.cells? 0 a (P.cellsOf e)).bind (DataW.trod enc P w 0 (fun _ => true) true n e) = some x := by
        rcases Nat.eq_zero_or_pos len with h1 | h1
        · have := hrs 0 (by omega)
          rw [List.getElem?_eq_getElem (by omega), show (len + 0) * P.cellsOf e = 0 * P.cellsOf e by rw [h1], add0] at this
          exact ⟨_, this⟩
        · have := hel 0 h1
          rw [List.getElem?_eq_getElem (by omega), add0] at this
          exact ⟨_, this⟩
      obtain ⟨x, hx⟩ := key
      simp only [Option.bind_eq_some_iff] at hx
      obtain ⟨cs, hcs, _⟩ := hx
      refine ⟨?_, World.cells?_block hcs hs⟩
      obtain ⟨_, hl, hc⟩ := World.cells?_some hcs
      have h0 := hc 0 hs
      have a0 : a.add 0 = a := by simp [Addr.add]
      rw [List.getElem?_eq_getElem (by omega), a0] at h0
      simp only [World.cell?] at h0
      split at h0
      · split at h0
        · cases h0
        · rename_i hspot
          simpa using hspot
      · cases h0
end Go.AM
