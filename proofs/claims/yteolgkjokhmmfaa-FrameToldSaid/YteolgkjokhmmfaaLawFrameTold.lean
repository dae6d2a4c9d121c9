/- The statement Rows.FrameToldSaid, out of the walk of its law: for every input that the row speaks of the call returns true, and the input reads as it did. No further condition. -/
import Derived.Test.YteolgkjokhmmfaaRows
import Derived.Test.YteolgkjokhmmfaaRowW
import Derived.Test.YteolgkjokhmmfaaFacts
import Derived.Test.YteolgkjokhmmfaaWalkFrameTold
import Derived.Test.YteolgkjokhmmfaaOpen
import Derived.WalkKit
import Derived.ProofKit
import Derived.OpenShut
import Derived.ShutString
import Derived.ChangeOld
import Derived.Below
import Derived.SizedLaws
set_option linter.unusedVariables false
set_option linter.unusedSimpArgs false
namespace Go.Proofs.Yteolgkjokhmmfaa.frameTold
open Go.ChangeShapes Go.WideShapes Go.ChangeAt Go.RowKit TG
open Go.ChangeMaps (open_string shut_string)
set_option maxRecDepth 100000 in
theorem lifted (os : Os) (started : os.Started) (H : Type) (enc : TypeId × Value → H) :
    ReturnsInHanded {} Try.checked os 9 .any (Rows.frameToldSpec.pre6 enc Try.prog Try.f9 Rows.frameToldRow.domain false) (Rows.frameToldSpec.post enc Try.prog Try.f9 false true false false) := by
  refine returnsInHanded_of_change_sized (C := Try.checked) f_own started (by kernel_rfl) Try.func9
    (ChangeSpec.witness6 (enc := enc) (C := Try.checked) false ⟨#[], #[.agg #[.int .i64 0, .slice none 0 0], .int .u16 0, .int .u32 0], []⟩ 8 (by kernel_rfl) (by kernel_rfl) (by kernel_rfl) (by kernel_rfl)) ?_
  intro W base args ds gs before hval0 hW hcnd hsz0 _
  have hsz : (DataW.weightsEach Try.prog (Try.f9.params.toList ++ Rows.frameToldSpec.plain.varTypes Try.prog) (ds ++ gs)).all (· ≤ reachBytes) = true := hsz0
  have hval : ∀ (j : Nat) t v, Try.f9.params[j]? = some t → args[j]? = some v → Value.okWide Try.prog W .any base t v := hval0
  have hW' := hW
  obtain ⟨p, q, hA0, hV, rfl, hfz, hnd⟩ := hW
  have hA : DataW.TrodAll enc Try.prog W 0 (fun _ => true) true Try.f9.params.toList args.toList ds p := hA0
  rw [Try.params9] at hA hval hsz
  obtain ⟨v0, vs0, d0, ds0, p0, q0, hargs, rfl, rfl, h0, r0⟩ := trodAll_cons hA
  obtain ⟨v1, vs1, d1, ds1, p1, q1, rfl, rfl, rfl, h1, r1⟩ := trodAll_cons r0
  obtain ⟨v2, vs2, d2, ds2, p2, q2, rfl, rfl, rfl, h2, r2⟩ := trodAll_cons r1
  obtain ⟨rfl, rfl, rfl⟩ := trodAll_nil r2
  obtain rfl : args = #[v0, v1, v2] := by cases args; simp_all
  obtain ⟨rfl, rfl⟩ := trodVars_none hV
  obtain ⟨c0, rfl, _⟩ := okWide_struct Try.underlying39 (hval 0 39 v0 rfl rfl)
  have k0 := h0
  have lt0 : ∀ x ∈ p0, x.block < W.heap.size := by obtain ⟨m, hm⟩ := k0; exact DataW.trod_lt m _ _ _ hm
  obtain ⟨f0, g0⟩ := h0
  have op0 : Opens enc Try.prog 39 (Rd.pair (Rd.num .i64) (Rd.slice Rd.u8 (by decide))) := (opens_struct Try.underlying39 (by kernel_rfl) (opensF_cons (by kernel_rfl) (opens_num Try.underlying3) rfl (opensF_one (by kernel_rfl) (opens_slice (by decide) Try.underlying27 (by kernel_rfl) (of_decide_eq_true (by kernel_rfl)) (opens_u8 Try.underlying5)))))
  obtain ⟨x0, w0⟩ := op0 W f0 _ _ g0 (sized_at hsz (j := 0) (t' := 39) rfl rfl)
  obtain ⟨a1, rfl, rfl, rfl, w1⟩ := open_int Try.underlying28 (hval 1 28 v1 rfl rfl) h1
  obtain ⟨a2, rfl, rfl, rfl, w2⟩ := open_int Try.underlying23 (hval 2 23 v2 rfl rfl) h2
  clear hA0 hval0 hsz0 hsz
  refine (walk_FrameTold W x0 c0 w0 a1 w1 a2 w2).mono fun e W' ⟨he, bel⟩ => ?_
  subst he
  exact ⟨_, rfl, _, _, _, [], _, [], hW', trodAll_mk1 (shut_bool Try.underlying4 _), (trodAll_cons_mk (Below.trod f_laid (by kernel_rfl) (of_decide_eq_true (by kernel_rfl)) k0 bel lt0) (trodAll_cons_mk (shut_int Try.underlying28 w1) (trodAll_cons_mk (shut_int Try.underlying23 w2) trodAll_mk0))), rfl, bel.frame _, fun h => by cases h⟩
theorem k0 : (Rows.frameToldRow.wf (OpenSpec.ofChange Rows.frameToldSpec)) = true := by kernel_rfl
theorem k1 : (laidOutB Try.pinned.checked.prog) = true := f_laid
theorem k2 : (mapsRowed Try.pinned.checked.prog) = true := f_maps
theorem k3 : (Try.f9.params.all (Try.pinned.checked.prog.readableRec ·)) = true := by kernel_rfl
theorem k4 : (namedTie Try.pinned.checked.prog Rows.frameToldRow.named Rows.frameToldSpec.vars) = true := by kernel_rfl
theorem k5 : ((Rows.frameToldRow.stops == [])) = true := by kernel_rfl
theorem k6 : (Try.pinned.checked.prog.stops == []) = true := f_stops
theorem k7 : ((Rows.frameToldRow.knobs == [])) = true := by kernel_rfl
theorem k8 : (Try.pinned.checked.prog.stopKnobs == []) = true := f_knobs
theorem k9 : ((Rows.frameToldRow.inPlace == Try.pinned.checked.prog.inPlace 9)) = true := by kernel_rfl
theorem k10 : ((Rows.frameToldRow.unfollowed == Try.pinned.checked.prog.unfollowed 9)) = true := by kernel_rfl
theorem k11 : ((Rows.frameToldRow.recurses == Try.pinned.checked.prog.recurses 9)) = true := by kernel_rfl
theorem k12 : ((Rows.frameToldRow.named == Try.pinned.checked.prog.varsNamed 9)) = true := by kernel_rfl
theorem k13 : ((Rows.frameToldRow.maps == (Try.f9.params.toList ++ Rows.frameToldSpec.plain.varTypes Try.pinned.checked.prog).any (Try.pinned.checked.prog.mapsRec ·))) = true := by kernel_rfl
theorem k14 : ((Rows.frameToldRow.ifaces == (Try.f9.params.toList ++ Rows.frameToldSpec.plain.varTypes Try.pinned.checked.prog).any (Try.pinned.checked.prog.ifacesRec ·))) = true := by kernel_rfl
theorem k15 : ((Rows.frameToldRow.mapsOut == Try.pinned.checked.prog.mapsAmong Try.f9.resultTypes.toList)) = true := by kernel_rfl
theorem k16 : ((Rows.frameToldRow.loops == (Try.f9.params.toList ++ Rows.frameToldSpec.plain.varTypes Try.pinned.checked.prog).any (Try.pinned.checked.prog.loopsFrom ·))) = true := by kernel_rfl
theorem k17 : ((Rows.frameToldRow.wideKeys == (Try.f9.params.toList ++ Rows.frameToldSpec.plain.varTypes Try.pinned.checked.prog ++ Try.f9.resultTypes.toList).any (Try.pinned.checked.prog.wideKeysFrom ·))) = true := by kernel_rfl
theorem k18 : (Rows.frameToldSpec.vars.all (Try.pinned.checked.prog.varReadable ·)) = true := by kernel_rfl
theorem k19 : (Try.f9.resultTypes.all (fun t => Try.pinned.checked.prog.readableRec t && decide (t < Try.pinned.checked.prog.types.size))) = true := by kernel_rfl
theorem k20 : ((Rows.frameToldRow.ifacesOut == Try.f9.resultTypes.toList.any (Try.pinned.checked.prog.ifacesRec ·))) = true := by kernel_rfl
theorem k21 : ((Rows.frameToldRow.loopsOut == Try.f9.resultTypes.toList.any (Try.pinned.checked.prog.loopsFrom ·))) = true := by kernel_rfl
theorem k22 : ((Rows.frameToldRow.plainKeys == Try.pinned.checked.prog.plainKeys)) = true := by kernel_rfl
theorem k23 : (Rows.frameToldRow.shortTexts.isNone) = true := by kernel_rfl
theorem k24 : (Try.pinned.checked.prog.stopsHeard) = true := f_heard
theorem k25 : (Try.pinned.checked.prog.mayEnter) = true := f_enter
theorem k26 : (Rows.frameToldRow.lifted == Try.pinned.checked.prog.liftsFinal) = true := by rw [f_lifts]; rfl
theorem k27 : (Try.pinned.checked.prog.make == some Rows.frameToldRow.make) = true := by rw [f_make]; rfl
theorem k28 : ((Rows.frameToldRow.kinds == (if Rows.frameToldRow.domain.isEmpty then [] else Try.f9.params.toList.map fun t => match Try.pinned.checked.prog.underlying t with | some (.int k) => some k | _ => none))) = true := by kernel_rfl
theorem k29 : ((Rows.frameToldRow.pinned == Rows.frameToldRow.pinnedBy)) = true := by kernel_rfl
theorem k30 : ((Rows.frameToldRow.veiled == (Try.f9.params.toList ++ Rows.frameToldSpec.plain.varTypes Try.pinned.checked.prog ++ Try.f9.resultTypes.toList).any (Try.pinned.checked.prog.veiledRec ·))) = true := by kernel_rfl
theorem k31 : (Rows.frameToldRow.veiledFits Try.pinned.checked.prog Try.f9.params.toList (Try.f9.params.toList ++ Rows.frameToldSpec.plain.varTypes Try.pinned.checked.prog ++ Try.f9.resultTypes.toList)) = true := by kernel_rfl
theorem o1 : Try.pinned.checked.prog.funcNamed "tachograph/tachographlaw05.FrameTold" = some 9 := by kernel_rfl
theorem o2 : joinedFacts Try.pinned.checked.prog 9 Try.f9 Rows.frameToldSpec Rows.frameToldRow = true := joined_of Try.pinned.checked.prog 9 Try.f9 Rows.frameToldSpec Rows.frameToldRow k0 k1 k2 k3 k4 k5 k6 k7 k8 k9 k10 k11 k12 k13 k14 k15 k16 k17 k18 k19 k20 k21 k22 k23 k24 k25 k26 k27 (by kernel_rfl) k29 k30 k31
theorem o3 : Try.f9.isInstance Try.pinned.checked.prog Rows.frameToldRow.origin Rows.frameToldRow.targs := of_decide_eq_true (by kernel_rfl)
theorem o4 : Try.f9.isWrapper Try.pinned.checked.prog Rows.frameToldRow.wrapper Rows.frameToldRow.mainSum := by unfold Func.isWrapper; first | (rw [if_pos (by decide +kernel)]; kernel_rfl) | (rw [if_neg (by decide +kernel)]; exact ⟨rfl, rfl⟩)
theorem over : Rows.frameToldRow.holds Try.pinned (OpenSpec.ofChange Rows.frameToldSpec) :=
  OpenClaim.holds_of_wide 9 Try.f9 rfl rfl rfl rfl rfl rfl rfl ⟨rfl, rfl, rfl, rfl, rfl⟩ rfl rfl rfl rfl rfl o1 Try.func9 o2 o3 o4 (fun os started H enc _ => lifted os started H enc)
theorem proved : Rows.FrameToldSaid := over
#print axioms proved
end Go.Proofs.Yteolgkjokhmmfaa.frameTold
namespace Go.Proofs.Yteolgkjokhmmfaa
/-- The row, under a short name, for the claim. -/
theorem frameTold_holds : Rows.FrameToldSaid := frameTold.proved
end Go.Proofs.Yteolgkjokhmmfaa
