/- DeskNil holds: whatever integers, text and bytes are handed over, the chapter's facts stand, and a nil desk refuses each call, waits for nothing and drops nothing; the call hands back true and leaves its arguments as they were. Conditions: the package-level tables that the row lists start as the program's text lays them (the card ties them). -/
import Derived.Test.YtpbgmoihgoeneaaGreatDoorR2Kit
import Derived.Test.YtpbgmoihgoeneaaGreatDoorDeskNilBody
namespace Go.Proofs.YtpbgmoihgoeneaaGreatDoor.DeskNil
open Go Go.AM Go.ChangeMaps Go.WideMaps Go.WideElems Go.ChangeShapes Go.WideShapes Go.ChangeAt Go.RowKit
set_option maxRecDepth 100000

theorem small : ∀ t ∈ Tryz.f7.params.toList, t < Tryz.prog.types.size := by
  have e : (Tryz.f7.params.toList.all fun t => decide (t < Tryz.prog.types.size)) = true := by kernel_rfl
  exact fun t ht => of_decide_eq_true (List.all_eq_true.1 e t ht)

theorem contract (H : Type) (enc : TypeId × Value → H) (W : World) (base : Nat) (args : Array Value) (ds gs : List (DataW H)) (before : List MemPlace)
    (hval : ∀ (j : Nat) t v, Tryz.f7.params[j]? = some t → args[j]? = some v → Value.okWide Tryz.prog W .any base t v)
    (hW : DataW.Whole enc Tryz.prog Tryz.f7.params.toList Rows.deskNilSpec.vars false W args.toList ds gs before) (hz : (DataW.weightsEach Tryz.prog (Tryz.f7.params.toList ++ []) (ds ++ gs)).all (· ≤ reachBytes) = true) (hsh : W.ShapedOpen Tryz.prog) :
    Calls Tryz.prog 7 args W fun e W' => ∃ v, e = .returned v ∧ Rows.deskNilSpec.post enc Tryz.prog Tryz.f7 false true false false W args v W' := by
  have hW' := hW
  have hlt := DataW.Whole.lt hW
  obtain ⟨p, q, hA0, hV, rfl, hfz, hnd⟩ := hW
  obtain ⟨rfl, rfl⟩ := trodVars_none hV
  have hA : DataW.TrodAll enc Tryz.prog W 0 (fun _ => true) true Tryz.f7.params.toList args.toList ds p := hA0
  rw [Tryz.params7] at hA hval
  obtain ⟨v0, vs0, d0, ds0, p0, q0, hargs, rfl, rfl, h0, r0⟩ := trodAll_cons hA
  obtain ⟨v1, vs1, d1, ds1, p1, q1, hargs1, rfl, rfl, h1, r1⟩ := trodAll_cons r0
  obtain ⟨v2, vs2, d2, ds2, p2, q2, hargs2, rfl, rfl, h2, r2⟩ := trodAll_cons r1
  obtain ⟨v3, vs3, d3, ds3, p3, q3, hargs3, rfl, rfl, h3, r3⟩ := trodAll_cons r2
  obtain ⟨rfl, rfl, rfl⟩ := trodAll_nil r3
  subst hargs3; subst hargs2; subst hargs1
  obtain rfl : args = #[v0, v1, v2, v3] := by cases args; simp_all
  obtain ⟨t, rfl, rfl, rfl, _⟩ := open_int Tryz.underlying3 (hval 0 3 v0 rfl rfl) h0
  obtain ⟨u, rfl, rfl, rfl, _⟩ := open_int Tryz.underlying3 (hval 1 3 v1 rfl rfl) h1
  obtain ⟨s, rfl, rfl, rfl, _⟩ := open_string Tryz.underlying9 (hval 2 9 v2 rfl rfl) h2
  have hG : ∀ g, g < 4 → g < W.heap.size := fun g hg => globals_lt hsh global_rows g (by
    have e : Tryz.prog.globals.size = 4 := env_G
    rw [e]; exact hg)
  have fin : ∀ (Ls : List AM.Loc) (b : Value), Ls.length = 1 → (∀ L ∈ Ls, L.blk < W.heap.size) → VRel (ρ0 4 Ls) b v3 → (b = .slice none 0 0 ∨ ∃ x n c, b = .slice (some ⟨4, x, none⟩) n c) →
      Calls Tryz.prog 7 #[.int .i64 t, .int .i64 u, .string s, v3] W fun e W' => ∃ v, e = .returned v ∧ Rows.deskNilSpec.post enc Tryz.prog Tryz.f7 false true false false W #[.int .i64 t, .int .i64 u, .string s, v3] v W' := by
    intro Ls b hl hL hv hb
    obtain ⟨σ', hrun⟩ := isTrue_ok (desk_nil_run s b hb t u)
    have r := rel0 hG hL
    rw [hl] at r
    rw [← env_G] at r
    refine ((soundO env_ok env_deep known_ok 1000).calls hrun (ρ := ρ0 env.G Ls) (args' := #[.int .i64 t, .int .i64 u, .string s, v3]) (by
      rw [env_G]
      exact .cons (.int _ _) (.cons (.int _ _) (.cons (.string _) (.cons hv .nil)))) (by rw [env_G] at r ⊢; exact r)).mono fun e W' ⟨v', he, ρ', g, _, hv'⟩ => ?_
    cases hv'
    subst he
    exact ⟨_, rfl, law_post kids (fun ht he => slice_sized ht he) (tb := 4) small (by kernel_rfl) Tryz.underlying4 rfl rfl hW' (g.kept fun b K h => by simp [T.get_leaf] at h) g.os g.output⟩
  have hw : (d3.weights Tryz.prog 22).all (· ≤ reachBytes) = true := by
    rw [Tryz.params7] at hz
    simp only [List.append_nil, DataW.weightsEach, List.all_append, Bool.and_eq_true] at hz
    exact hz.2.2.2
  rcases slice_shape Tryz.underlying22 (of_decide_eq_true (by kernel_rfl)) (hval 3 22 v3 rfl rfl) h3 (of_decide_eq_true (by kernel_rfl)) hw with rfl | ⟨a, len, cap, rfl, hle, hm, h⟩
  · exact fin [⟨0, 0, 0⟩] _ rfl (fun L hL => by cases List.mem_singleton.1 hL; exact hG 0 (by omega)) (.nilSlice 0 0) (.inl rfl)
  · rcases h with ⟨rfl, rfl⟩ | ⟨hs, hlt'⟩
    · exact fin [⟨0, 0, 0⟩] (.slice (some ⟨4, 0, none⟩) 0 0) rfl (fun L hL => by cases List.mem_singleton.1 hL; exact hG 0 (by omega)) .zero (.inr ⟨_, _, _, rfl⟩)
    · refine fin [⟨a.block, a.off, 0⟩] (.slice (some ⟨4 + 0, 0, none⟩) len cap) rfl (fun L hL => by cases List.mem_singleton.1 hL; exact hlt') (slice_arg hs hm rfl) (.inr ⟨_, _, _, rfl⟩)

theorem reads (os : Os) {H : Type} (enc : TypeId × Value → H) : ∃ places, DataW.whole enc Tryz.prog ((World.doorLaid Tryz.prog 4000 os).forCall (fun _ _ => 0) ⟨#[], #[.int .i64 0, .int .i64 0, .string ⟨#[]⟩, .slice none 0 0], []⟩).memory Tryz.f7.params.toList Rows.deskNilSpec.vars false
    #[Value.int .i64 0, .int .i64 0, .string ⟨#[]⟩, .slice none 0 0].toList 8 = some ([.lit (.int .i64 0), .lit (.int .i64 0), .lit (.string []), .nil], [], places) :=
  ⟨[], by kernel_rfl⟩

theorem lifted (os : Os) (started : os.Started) (H : Type) (enc : TypeId × Value → H) (F : Stop.Interp) :
    ReturnsInHanded {} Tryz.checked os 7 .any ((OpenSpec.ofChange Rows.deskNilSpec).preRow enc Tryz.prog Tryz.f7 Rows.deskNilRow.domain false Rows.deskNilRow.laid) (((OpenSpec.ofChange Rows.deskNilSpec).at F).post enc Tryz.prog Tryz.f7 false true false false) := by
  obtain ⟨places, hx⟩ := reads os enc
  refine returnsInHanded_of_row (C := Tryz.checked) (s := OpenSpec.ofChange Rows.deskNilSpec) own started (by kernel_rfl) Tryz.func7
    (witness_row_at (enc := enc) (C := Tryz.checked) false (World.doorLaid Tryz.prog 4000 os) #[.int .i64 0, .int .i64 0, .string ⟨#[]⟩, .slice none 0 0] rfl (by kernel_rfl) (by kernel_rfl) (by kernel_rfl)
      (OpenSpec.preRow_of_cond 8 hx (by kernel_rfl) (fun k hk => by cases hk) (by kernel_rfl) (laid_met os _))) ?_
  intro W base args ds gs before hval hW _ _ hz _ hsh _
  exact contract H enc W base args ds gs before hval hW hz hsh

theorem in_place : Tryz.prog.inPlace 7 = Rows.deskNilRow.inPlace := by kernel_rfl
theorem unfollowed : Tryz.prog.unfollowed 7 = Rows.deskNilRow.unfollowed := by kernel_rfl
theorem recurses : Tryz.prog.recurses 7 = Rows.deskNilRow.recurses := by kernel_rfl
theorem named : Tryz.prog.varsNamed 7 = Rows.deskNilRow.named := by kernel_rfl
theorem facts : joinedFacts Tryz.prog 7 Tryz.f7 (OpenSpec.ofChange Rows.deskNilSpec).bare Rows.deskNilRow = true := by
  unfold joinedFacts
  rw [laid_out, maps_rowed, stops_heard, may_enter, plain_keys, lifts_final, in_place, unfollowed, recurses, named]
  kernel_rfl

theorem said : Rows.DeskNilSaid :=
  OpenClaim.holds_of_cond 7 Tryz.f7 rfl rfl rfl rfl rfl rfl rfl ⟨rfl, rfl, rfl, rfl, rfl⟩ rfl rfl rfl rfl rfl (by kernel_rfl) Tryz.func7 facts
    (of_decide_eq_true (by kernel_rfl)) (by unfold Func.isWrapper; first | (rw [if_pos (by decide +kernel)]; kernel_rfl) | (rw [if_neg (by decide +kernel)]; exact ⟨rfl, rfl⟩))
    (fun os started H enc _ F => by rw [OpenClaim.pre_eq_preRow]; exact lifted os started H enc F)

/-- No parameter wants a stand-in; the program's own looks are off: what the card asks. -/
theorem plain (f : FuncId) (fn : Func) (hf : Tryz.pinned.checked.prog.funcNamed "transom/transomlaw23.DeskNil" = some f) (hfn : Tryz.pinned.checked.prog.funcs[f]? = some fn) :
    true = Tryz.pinned.checked.prog.looks [] ∧ ∀ (j : Nat) t, fn.params[j]? = some t → Tryz.pinned.checked.prog.wantsStandIn t = false := by
  obtain rfl : f = 7 := Option.some.inj ((show Tryz.prog.funcNamed "transom/transomlaw23.DeskNil" = some 7 by kernel_rfl).symm.trans hf) |>.symm
  obtain rfl : fn = Tryz.f7 := (Option.some.inj (Tryz.func7.symm.trans hfn)).symm
  refine ⟨by kernel_rfl, fun j t ht => ?_⟩
  rw [Tryz.params7] at ht
  have hm : t ∈ [3, 3, 9, 22] := by simpa using Array.mem_of_getElem? ht
  have hall : ([3, 3, 9, 22].all fun u => !Tryz.prog.wantsStandIn u) = true := by kernel_rfl
  exact (show Tryz.prog.wantsStandIn t = false by simpa using List.all_eq_true.1 hall t hm)

/-- ████ THE CARD ████ -/
theorem card : Rows.DeskNilCardSaid :=
  Claim7.holds_tied_plain_at .later [] _ _ _ _ said (fun _ h => by cases h) (by kernel_rfl) (fun _ h => by cases h) deskNil_row_tie rfl ⟨rfl, rfl⟩ (by kernel_rfl) rfl plain (by kernel_rfl)
#print axioms card
end Go.Proofs.YtpbgmoihgoeneaaGreatDoor.DeskNil
namespace Go.Proofs.YtpbgmoihgoeneaaGreatDoor
/-- DeskNil's card. -/
theorem deskNil_card : Rows.DeskNilCardSaid := DeskNil.card
end Go.Proofs.YtpbgmoihgoeneaaGreatDoor
