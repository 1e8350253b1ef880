/-
  THE LAW florlaw2.LinkTitles ANSWERS true FOR EVERY INPUT OF BULK AT MOST 1048576, and leaves its arguments as they were: from the walks and the plain law to the given card.
-/
import Derived.Test.YtlaommikkfojfaaGreatDoorCards
import Derived.Test.YtlaommikkfojfaaGreatDoorTie
import Derived.Test.YtlaommikkfojfaaGreatDoorFlG3
import Derived.Test.YtlaommikkfojfaaGreatDoorFlPost
import Derived.Test.YtlaommikkfojfaaGreatDoorFlQ14
import Derived.Deep.DeepHandedRow
import Derived.Lib.LaidTab
namespace Go.Proofs.YtlaommikkfojfaaGreatDoor.linkTitles
open Go.ChangeShapes Go.WideShapes Go.ChangeAt Go.RowKit Go.Fl
theorem bulk_ok {H : Type} : Bulk H (Rows.uptoBulk (H := H)) (Rows.uptoBulkAll (H := H)) where
  one d := by
    cases d with
    | lit l => cases l <;> simp [Rows.uptoBulk]
    | _ => simp [Rows.uptoBulk]
  str s := by simp [Rows.uptoBulk]
  slice e s := by simp only [Rows.uptoBulk]; omega
  agg l := by simp [Rows.uptoBulk]
  nil := by simp [Rows.uptoBulkAll]
  cons d r := by simp [Rows.uptoBulkAll]
def Small (base : List Block) (title : Bytes) : Prop := mL mB base + mS title + 1 ≤ 1048576 ∧ QK base
theorem law (base : List Block) (title : Bytes) (page : Int) (h : Small base title) : f_florlaw2_LinkTitles base title page = some true :=
  linkTitles_law page (by unfold SmB; have := h.1; omega) h.2 (by have := h.1; simp only [mS] at this; omega)
theorem own : ownKnob Tryz.prog.godebug = none := by kernel_rfl
theorem laidOut : laidOutB Tryz.prog = true := by kernel_rfl
theorem cells55 : Tryz.prog.cellsOf 55 = 5 := by kernel_rfl
section
variable {H : Type} {enc : TypeId × Value → H} {W : World}
theorem rdV (n : Nat) : Rd enc Tryz.prog W (Rows.uptoBulk (H := H)) 89 n encV mV (fun _ => True) :=
  (Rd.pval bulk_ok Tryz.underlying89 rfl _ _ _ _ _ rfl rfl rfl rfl rfl rfl rfl rfl rfl rfl Tryz.underlying3 Tryz.underlying3 Tryz.underlying3 Tryz.underlying9 Tryz.underlying87
    (by kernel_rfl) (by kernel_rfl) (by kernel_rfl) (by kernel_rfl) (by kernel_rfl) (by kernel_rfl) n).1
theorem rdP (n : Nat) : Rd enc Tryz.prog W (Rows.uptoBulk (H := H)) 91 n encP mP (fun _ => True) :=
  Rd.pprop bulk_ok Tryz.underlying91 rfl _ _ rfl rfl rfl rfl Tryz.underlying9 (by kernel_rfl) (by kernel_rfl) (by kernel_rfl) (fun n => rdV n) n
theorem rdB (n : Nat) : Rd enc Tryz.prog W (Rows.uptoBulk (H := H)) 55 n encB mB (fun b => ∀ k ∈ b.kids, qI k) :=
  Rd.block bulk_ok Tryz.underlying55 rfl _ _ _ _ _ rfl rfl rfl rfl rfl rfl rfl rfl rfl rfl Tryz.underlying3 Tryz.underlying3 Tryz.underlying52 Tryz.underlying3 (by kernel_rfl) Tryz.underlying9 Tryz.underlying53 (by kernel_rfl)
    (by kernel_rfl) (by kernel_rfl) (by kernel_rfl) (by kernel_rfl) (by kernel_rfl) (by kernel_rfl) (fun n => rdP n) n
set_option maxRecDepth 100000 in
theorem contract (args : Array Value) (ds gs : List (DataW H)) (before : List MemPlace)
    (hval : ∀ (j : Nat) t v, Tryz.f3.params[j]? = some t → args[j]? = some v → Value.okWide Tryz.prog W .any 0 t v)
    (hW : DataW.Whole enc Tryz.prog Tryz.f3.params.toList Rows.linkTitlesSpec.vars false W args.toList ds gs before) (hk : Rows.uptoSmall H (ds ++ gs) = true) :
    Calls Tryz.prog 3 args W fun e W' => ∃ v, e = .returned v ∧ Rows.linkTitlesSpec.post enc Tryz.prog Tryz.f3 false true false false W args v W' := by
  have hW' := hW
  obtain ⟨p, q, hA0, hV, rfl, hfz, hnd⟩ := hW
  have hA : DataW.TrodAll enc Tryz.prog W 0 (fun _ => true) true Tryz.f3.params.toList args.toList ds p := hA0
  rw [Tryz.params3] at hA hval
  obtain ⟨v0, v1, v2, d0, d1, d2, p0, p1, p2, rfl, rfl, rfl, h0, h1, h2⟩ := trodAll_three hA
  obtain ⟨rfl, rfl⟩ := trodVars_none hV
  obtain ⟨fu0, h0⟩ := h0
  obtain ⟨fu1, h1⟩ := h1
  obtain ⟨fu2, h2⟩ := h2
  obtain ⟨_, _, _, hv0⟩ := okWide_slice Tryz.underlying22 (hval 0 22 v0 rfl rfl)
  obtain ⟨_, hv1⟩ := okWide_string Tryz.underlying9 (hval 1 9 v1 rfl rfl)
  obtain ⟨_, hv2⟩ := okWide_int Tryz.underlying3 (hval 2 3 v2 rfl rfl)
  have c0 : v0.cells.toList = [v0] := by rw [hv0]; rfl
  have c1 : v1.cells.toList = [v1] := by rw [hv1]; rfl
  have c2 : v2.cells.toList = [v2] := by rw [hv2]; rfl
  rw [c0] at h0
  rw [c1] at h1
  rw [c2] at h2
  obtain ⟨base, r0, _, b0, k0⟩ := Rd.slice bulk_ok Tryz.underlying22 cells55 (by omega) (rdB fu0) fu0 (by omega) _ _ h0
  obtain ⟨title, r1, _, b1, _⟩ := Rd.str (n := fu1 + 1) bulk_ok Tryz.underlying9 fu1 (by omega) _ _ h1
  obtain ⟨page, r2, _, b2, _⟩ := Rd.i64 (n := fu2 + 1) bulk_ok Tryz.underlying3 fu2 (by omega) _ _ h2
  have hsmall : Small base title := by
    have h := of_decide_eq_true hk
    simp only [List.append_nil, Rows.uptoBulkAll] at h
    simp only at b0 b1 b2
    exact ⟨by omega, k0⟩
  have hwalk := ok_florlaw2_LinkTitles (law base title page hsmall) 0
  have hc := hwalk (memOf W) (fun _ => none) [v0, v1, v2] W ⟨r0.1, r1.1, r2.1, trivial⟩ (inv_world W 0)
  refine hc.mono fun e W' ⟨v, M', ι', r, H', nx', he, ⟨hr, hH⟩, hrep, _, _, _, _, _, hkept, _⟩ => ?_
  subst he; subst hr; subst hH
  have hv : v = .bool true := by cases hrep; rfl
  subst hv
  have hb : Below W.heap.size W W' := ⟨hkept.os, hkept.tape, hkept.output, hkept.size, fun k hk => hkept.block k hk fun ⟨p, hp, _⟩ => by cases hp⟩
  exact ⟨_, rfl, post_of_below laidOut (by rw [Tryz.params3]; intro t ht; simp at ht; rcases ht with rfl | rfl | rfl <;> exact ⟨by kernel_rfl, of_decide_eq_true (by kernel_rfl)⟩) hW' rfl hb
    (fun _ _ _ => trodAll_cons_mk (shut_bool Tryz.underlying4 _) trodAll_mk0) rfl rfl (ok_one (by kernel_rfl) rfl (okWide_bool_mk Tryz.underlying4 _))⟩
end
/-- The numbers of a listed table. -/
def numsOf : DataW Unit → List Value
  | .lit (.int k n) => [.int k n]
  | .agg l => numsOfAll l
  | _ => []
where numsOfAll : List (DataW Unit) → List Value
  | [] => []
  | d :: r => numsOf d ++ numsOfAll r
def putIn (vs : List Value) : Obj → Obj
  | .cells _ t frozen => .cells vs.toArray t frozen
  | o => o
/-- A world for the witness: the settled one, with the listed tables in it. -/
noncomputable def laidWorld (os : Os) : World :=
  { World.holding Tryz.prog os ⟨#[], #[], []⟩ with heap := ((World.holding Tryz.prog os ⟨#[], #[], []⟩).heap.modify 1 (putIn (numsOf Rows.laid_unicode_utf8_first))).modify 2 (putIn (numsOf Rows.laid_unicode_utf8_acceptRanges)) }
abbrev wargs : Array Value := #[.slice none 0 0, .string ⟨#[]⟩, .int .i64 0]
set_option maxRecDepth 100000 in
theorem laid_met (os : Os) : laidMet Tryz.prog Rows.linkTitlesUptoRow.laid ((laidWorld os).forCall (fun _ _ => 0) ⟨#[], wargs, []⟩).memory :=
  laidMet_of_run' 8 (by kernel_rfl) (by kernel_rfl)
theorem reads (os : Os) {H : Type} (enc : TypeId × Value → H) : ∃ places, DataW.whole enc Tryz.prog ((laidWorld os).forCall (fun _ _ => 0) ⟨#[], wargs, []⟩).memory Tryz.f3.params.toList Rows.linkTitlesSpec.vars false wargs.toList 8 = some ([.nil, .lit (.string []), .lit (.int .i64 0)], [], places) :=
  ⟨[], by kernel_rfl⟩
set_option maxRecDepth 100000 in
theorem liftedUpto (os : Os) (started : os.Started) (H : Type) (enc : TypeId × Value → H) (F : Stop.Interp) :
    ReturnsInHanded {} Tryz.checked os 3 .any ((Rows.OpenSpec.upto Rows.linkTitlesSpec).preRow enc Tryz.prog Tryz.f3 Rows.linkTitlesUptoRow.domain false Rows.linkTitlesUptoRow.laid) (((Rows.OpenSpec.upto Rows.linkTitlesSpec).at F).post enc Tryz.prog Tryz.f3 false true false false) := by
  obtain ⟨places, hx⟩ := reads os enc
  refine returnsInHanded_of_row (C := Tryz.checked) (s := Rows.OpenSpec.upto Rows.linkTitlesSpec) own started (by kernel_rfl) Tryz.func3
    (witness_row_at (enc := enc) (C := Tryz.checked) false (laidWorld os) wargs rfl (by kernel_rfl) (by kernel_rfl) (by kernel_rfl)
      (OpenSpec.preRow_of_cond 8 hx (by kernel_rfl) (fun k hk => by cases hk; kernel_rfl) (by kernel_rfl) (laid_met os))) ?_
  intro W base args ds gs before hval hW _ hcond _ _ _ _
  exact contract args ds gs before (fun j t v h1 h2 => hval j t v h1 h2) hW (hcond _ rfl)
theorem saidUpto : Rows.LinkTitlesUptoSaid :=
  OpenClaim.holds_of_cond 3 Tryz.f3 rfl rfl rfl rfl rfl rfl rfl ⟨rfl, rfl, rfl, rfl, rfl⟩ rfl rfl rfl rfl rfl (by kernel_rfl) Tryz.func3 (by kernel_rfl)
    (of_decide_eq_true (by kernel_rfl)) (by unfold Func.isWrapper; first | (rw [if_pos (by decide +kernel)]; kernel_rfl) | (rw [if_neg (by decide +kernel)]; exact ⟨rfl, rfl⟩))
    (fun os started H enc _ F => by rw [OpenClaim.pre_eq_preRow]; exact liftedUpto os started H enc F)
theorem plain (f : FuncId) (fn : Func) (hf : Tryz.pinned.checked.prog.funcNamed "florilegium/florlaw2.LinkTitles" = some f) (hfn : Tryz.pinned.checked.prog.funcs[f]? = some fn) :
    false = Tryz.pinned.checked.prog.looks [] ∧ ∀ (j : Nat) t, fn.params[j]? = some t → Tryz.pinned.checked.prog.wantsStandIn t = false := by
  obtain rfl : f = 3 := Option.some.inj ((show Tryz.prog.funcNamed "florilegium/florlaw2.LinkTitles" = some 3 by kernel_rfl).symm.trans hf) |>.symm
  obtain rfl : fn = Tryz.f3 := (Option.some.inj (Tryz.func3.symm.trans hfn)).symm
  refine ⟨by kernel_rfl, fun j t ht => ?_⟩
  rw [Tryz.params3] at ht
  have hm := Array.mem_of_getElem? ht
  simp at hm
  rcases hm with rfl | rfl | rfl
  · exact (show Tryz.prog.wantsStandIn 22 = false by kernel_rfl)
  · exact (show Tryz.prog.wantsStandIn 9 = false by kernel_rfl)
  · exact (show Tryz.prog.wantsStandIn 3 = false by kernel_rfl)
theorem cardUpto : Rows.LinkTitlesUptoCardSaid :=
  Claim7.holds_tied_plain_at .later [] _ _ _ _ saidUpto (fun _ h => by cases h) (by kernel_rfl) (fun _ h => by cases h) linkTitlesUpto_row_tie rfl ⟨rfl, rfl⟩ (by kernel_rfl) rfl plain (by kernel_rfl)
end Go.Proofs.YtlaommikkfojfaaGreatDoor.linkTitles
