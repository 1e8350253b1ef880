/- The walks: each function of the program answers as its plain program does. -/
import Derived.Test.YtlaommikkfojfaaGreatDoorFlFacts
import Derived.Test.YtlaommikkfojfaaGreatDoorFlTypes
import Derived.Test.YtlaommikkfojfaaGreatDoorFlRounds
import Derived.Test.YtlaommikkfojfaaGreatDoorFlPrims
import Derived.Test.YtlaommikkfojfaaGreatDoorFlLays
import Derived.Test.YtlaommikkfojfaaGreatDoorFlP1
namespace Go.Fl
open Go Go.Proofs
set_option maxRecDepth 100000
set_option linter.unusedVariables false
set_option linter.unusedSimpArgs false
theorem ok_text_hasControl {s : Bytes} {r : Bool} (hr : f_text_hasControl s = some r) (nx : Nat) : OkH Tryz.prog 82 [.one (.c (.lit (str s)))] [] nx fun v H' _ => v = .v (.one (.c (.lit (.bool r)))) ∧ H' = [] := by
  refine OkH.intro Tryz.func82 rfl Tryz.ntmps82 (by simp) ?_
  unfold f_text_hasControl at hr
  refine Tri.seq ?_
  refine Tri.region ?_
  refine R.flo Gd.no (Y.assign rfl) ?_
  refine R.nil ?_
  refine Tri.seq ?_
  refine Tri.seq ?_
  refine Tri.region ?_
  refine R.flo Gd.no (Y.move rfl) ?_
  refine R.flo Gd.no (Y.lenS Tryz.underlying9 rfl rfl) ?_
  refine R.flo Gd.no (Y.move rfl) ?_
  refine R.nil ?_
  replace hr := bind_inv hr
  obtain ⟨x11, hr, hox11⟩ := hr
  refine Tri.meet1 (α := Unit × Nat) (fun ⟨s12, nx_13⟩ => (.inl s12) = x11) (fun ⟨s12, nx_13⟩ => ⟨20, [], [], nx_13⟩) ?_ (fun ⟨s12, nx_13⟩ hx => ?_)
  · refine Tri.block ?_
    refine Tri.loop (α := Nat × Nat × Nat) (fun ⟨fuel16, v1, nx_2⟩ => f_text_hasControl_l1 s fuel16 v1 = some x11) (fun ⟨fuel16, v1, nx_2⟩ => ⟨20, [(0, some (.v (.one (.c (.lit (str s)))))), (5, some (.v (.one (.c (.lit (.int .i64 ((s.length : Int)))))))), (6, some (.v (.one (.c (.lit (.int .i64 ((v1 : Int))))))))], [], nx_2⟩) (fun ⟨fuel16, v1, nx_2⟩ => fuel16) ⟨FUEL, 0, nx⟩ ?_ (Weak.to [0, 5, 6] [] rfl) ?_
    · exact hr
    · rintro ⟨fuel16, v1, nx_2⟩ (hr : f_text_hasControl_l1 s fuel16 v1 = some x11)
      cases fuel16 with
      | zero => rw [f_text_hasControl_l1] at hr; cases hr
      | succ fuel16 =>
        rw [f_text_hasControl_l1] at hr
        refine Tri.seq ?_
        refine Tri.region ?_
        refine R.flo Gd.no (Y.lssI rfl rfl) ?_
        refine R.nil ?_
        refine Tri.seq ?_
        refine Tri.cond rfl (fun hc3 => ?_) (fun hc3 => ?_)
        · replace hr := cond_t hc3 hr
          refine Tri.skip ?_
          refine Tri.seq ?_
          refine Tri.block ?_
          refine Tri.seq ?_
          refine Tri.region ?_
          refine R.flo Gd.no (Y.move rfl) ?_
          refine R.flo Gd.no (Y.assign rfl) ?_
          refine R.nil ?_
          replace hr := bind_inv hr
          obtain ⟨x7, hr, hox7⟩ := hr
          refine Tri.meet (α := Bool × Nat) (fun ⟨s8, nx_9⟩ => s8 = x7) (fun ⟨s8, nx_9⟩ => ⟨20, [(0, some (.v (.one (.c (.lit (str s)))))), (5, some (.v (.one (.c (.lit (.int .i64 ((s.length : Int)))))))), (6, some (.v (.one (.c (.lit (.int .i64 ((v1 : Int)))))))), (18, some (.v (.one (.c (.lit (.bool s8))))))], [], nx_9⟩) ?_ (fun ⟨s8, nx_9⟩ hx => ?_)
          · refine Tri.region ?_
            refine R.flo Gd.no (Y.move rfl) ?_
            refine R.flo Gd.no (Y.move rfl) ?_
            replace hr := bind_inv hr
            obtain ⟨c4, hc4, hr⟩ := hr
            refine R.flo Gd.no (Y.idxS v1 Tryz.underlying9 rfl rfl hc4) ?_
            refine R.flo Gd.no (Y.lssI rfl rfl) ?_
            refine R.flo Gd.no (Y.move rfl) ?_
            refine TOps.part (b := decide ((c4.toNat : Int) < (32 : Int))) (fun bhb5 hb5 => ?_)
            cases bhb5
            · rw [hb5]; replace hr := cond_f hb5 hr
              refine R.flo (Gd.t 4 false 13 rfl rfl) (Y.move rfl) ?_
              refine R.flo (Gd.t 4 false 13 rfl rfl) (Y.move rfl) ?_
              replace hr := bind_inv hr
              obtain ⟨c6, hc6, hr⟩ := hr
              refine R.flo (Gd.t 4 false 13 rfl rfl) (Y.idxS v1 Tryz.underlying9 rfl rfl hc6) ?_
              refine R.flo (Gd.t 4 false 13 rfl rfl) (Y.eqlI rfl rfl) ?_
              refine R.flo Gd.no (Y.pickF rfl rfl) ?_
              refine R.nil ?_
              have hx := Option.some.inj hr
              subst hx
              refine meet_mk ⟨decide ((c6.toNat : Int) = (127 : Int)), nx_2⟩ rfl (Weak.to [0, 5, 6, 18] [] rfl)
            · rw [hb5]; replace hr := cond_t hb5 hr
              refine R.skip (.f 4 true 13 rfl rfl) ?_
              refine R.skip (.f 4 true 13 rfl rfl) ?_
              refine R.skip (.f 4 true 13 rfl rfl) ?_
              refine R.skip (.f 4 true 13 rfl rfl) ?_
              refine R.flo Gd.no (Y.pickT rfl rfl) ?_
              refine R.nil ?_
              have hx := Option.some.inj hr
              subst hx
              refine meet_mk ⟨true, nx_2⟩ rfl (Weak.to [0, 5, 6, 18] [] rfl)
          · subst hx
            have hr := hox7
            refine Tri.cond rfl (fun hc10 => ?_) (fun hc10 => ?_)
            · replace hr := cond_t hc10 hr
              refine Tri.seq ?_
              refine Tri.region ?_
              refine R.flo Gd.no (Y.assign rfl) ?_
              refine R.nil ?_
              have hx := Option.some.inj hr
              subst hx
              have hr := sum_r hox11
              refine Tri.ret ?_
              have hx := Option.some.inj hr
              subst hx
              exact ⟨.inl rfl, _, .inr (.inl ⟨_, _, rfl, rfl, rfl⟩), ⟨rfl, rfl⟩⟩
            · replace hr := cond_f hc10 hr
              refine Tri.skip ?_
              refine Tri.region ?_
              replace hr := ckI_inv hr
              obtain ⟨ha, hb, hr⟩ := hr
              refine R.flo Gd.no (Y.addI rfl rfl ha hb) ?_
              refine R.flo Gd.no (Y.move rfl) ?_
              refine R.nil ?_
              refine back_mk ⟨fuel16, v1 + 1, nx_9⟩ hr (Nat.lt_succ_self _) (Weak.to [0, 5, 6] [] rfl)
        · replace hr := cond_f hc3 hr
          refine Tri.exit ?_
          have hx := Option.some.inj hr
          subst hx
          refine meet_mk ⟨(), nx_2⟩ rfl (Weak.to [] [] rfl)
  · subst hx
    have hr := sum_l hox11
    refine Tri.seq ?_
    refine Tri.region ?_
    refine R.flo Gd.no (Y.assign rfl) ?_
    refine R.nil ?_
    refine Tri.ret ?_
    have hx := Option.some.inj hr
    subst hx
    exact ⟨.inl rfl, _, .inr (.inl ⟨_, _, rfl, rfl, rfl⟩), ⟨rfl, rfl⟩⟩
theorem ok_text_Check {s : Bytes} {r : Int} (hr : f_text_Check s = some r) (nx : Nat) : OkH Tryz.prog 68 [.one (.c (.lit (str s)))] [] nx fun v H' _ => v = .v (.one (.c (.lit (.int .i64 r)))) ∧ H' = [] := by
  refine OkH.intro Tryz.func68 rfl Tryz.ntmps68 (by simp) ?_
  unfold f_text_Check at hr
  refine Tri.seq ?_
  refine Tri.region ?_
  refine R.flo Gd.no (Y.assign rfl) ?_
  refine R.nil ?_
  refine Tri.seq ?_
  refine Tri.seq ?_
  refine Tri.region ?_
  refine R.flo Gd.no (Y.move rfl) ?_
  refine R.flo Gd.no (Y.lenS Tryz.underlying9 rfl rfl) ?_
  refine R.flo Gd.no (Y.gtrI rfl rfl) ?_
  refine R.nil ?_
  refine Tri.cond rfl (fun hc1 => ?_) (fun hc1 => ?_)
  · replace hr := cond_t hc1 hr
    refine Tri.seq ?_
    refine Tri.region ?_
    refine R.flo Gd.no (Y.assign rfl) ?_
    refine R.nil ?_
    refine Tri.ret ?_
    have hx := Option.some.inj hr
    subst hx
    exact ⟨.inl rfl, _, .inr (.inl ⟨_, _, rfl, rfl, rfl⟩), ⟨rfl, rfl⟩⟩
  · replace hr := cond_f hc1 hr
    refine Tri.skip ?_
    refine Tri.seq ?_
    refine Tri.seq ?_
    refine Tri.region ?_
    refine R.flo Gd.no (Y.move rfl) ?_
    replace hr := bind_inv hr
    obtain ⟨r2, hcr2, hr⟩ := hr
    refine R.call (H1 := []) (H2 := []) Gd.no Tryz.en82 rfl (ok_text_hasControl hcr2 nx) (perm_idx [] rfl) (fun _ _ nx_3 hq => ?_)
    obtain ⟨rfl, rfl⟩ := hq
    refine R.nil ?_
    refine Tri.cond rfl (fun hc4 => ?_) (fun hc4 => ?_)
    · replace hr := cond_t hc4 hr
      refine Tri.seq ?_
      refine Tri.region ?_
      refine R.flo Gd.no (Y.assign rfl) ?_
      refine R.nil ?_
      refine Tri.ret ?_
      have hx := Option.some.inj hr
      subst hx
      exact ⟨.inl rfl, _, .inr (.inl ⟨_, _, rfl, rfl, rfl⟩), ⟨rfl, rfl⟩⟩
    · replace hr := cond_f hc4 hr
      refine Tri.skip ?_
      refine Tri.seq ?_
      refine Tri.region ?_
      refine R.flo Gd.no (Y.assign rfl) ?_
      refine R.nil ?_
      refine Tri.ret ?_
      have hx := Option.some.inj hr
      subst hx
      exact ⟨.inl rfl, _, .inr (.inl ⟨_, _, rfl, rfl, rfl⟩), ⟨rfl, rfl⟩⟩
theorem ok_prop_CheckName {s : Bytes} {r : Int} (hr : f_prop_CheckName s = some r) (nx : Nat) : OkH Tryz.prog 74 [.one (.c (.lit (str s)))] [] nx fun v H' _ => v = .v (.one (.c (.lit (.int .i64 r)))) ∧ H' = [] := by
  refine OkH.intro Tryz.func74 rfl Tryz.ntmps74 (by simp) ?_
  unfold f_prop_CheckName at hr
  refine Tri.seq ?_
  refine Tri.region ?_
  refine R.flo Gd.no (Y.assign rfl) ?_
  refine R.nil ?_
  refine Tri.seq ?_
  replace hr := bind_inv hr
  obtain ⟨x6, hr, hox6⟩ := hr
  refine Tri.meet (α := Bool × Nat) (fun ⟨s7, nx_8⟩ => s7 = x6) (fun ⟨s7, nx_8⟩ => ⟨50, [(0, some (.v (.one (.c (.lit (str s)))))), (21, some (.v (.one (.c (.lit (.bool s7))))))], [], nx_8⟩) ?_ (fun ⟨s7, nx_8⟩ hx => ?_)
  · refine Tri.region ?_
    refine R.flo Gd.no (Y.move rfl) ?_
    refine R.flo Gd.no (Y.eqlS rfl rfl) ?_
    refine R.flo Gd.no (Y.move rfl) ?_
    refine TOps.part (b := decide (s = ([] : Bytes))) (fun bhb1 hb1 => ?_)
    cases bhb1
    · rw [hb1]; replace hr := cond_f hb1 hr
      refine R.flo (Gd.t 2 false 7 rfl rfl) (Y.move rfl) ?_
      refine R.flo (Gd.t 2 false 7 rfl rfl) (Y.lenS Tryz.underlying9 rfl rfl) ?_
      refine R.flo (Gd.t 2 false 7 rfl rfl) (Y.gtrI rfl rfl) ?_
      refine R.flo Gd.no (Y.pickF rfl rfl) ?_
      refine R.flo Gd.no (Y.move rfl) ?_
      refine TOps.part (b := decide ((20 : Int) < (s.length : Int))) (fun bhb2 hb2 => ?_)
      cases bhb2
      · rw [hb2]; replace hr := cond_f hb2 hr
        refine R.flo (Gd.t 7 false 12 rfl rfl) (Y.move rfl) ?_
        replace hr := bind_inv hr
        obtain ⟨c3, hc3, hr⟩ := hr
        refine R.flo (Gd.t 7 false 12 rfl rfl) (Y.idxS 0 Tryz.underlying9 rfl rfl hc3) ?_
        refine R.flo (Gd.t 7 false 12 rfl rfl) (Y.lssI rfl rfl) ?_
        refine R.flo Gd.no (Y.pickF rfl rfl) ?_
        refine R.flo Gd.no (Y.move rfl) ?_
        refine TOps.part (b := decide ((c3.toNat : Int) < (97 : Int))) (fun bhb4 hb4 => ?_)
        cases bhb4
        · rw [hb4]; replace hr := cond_f hb4 hr
          refine R.flo (Gd.t 12 false 17 rfl rfl) (Y.move rfl) ?_
          replace hr := bind_inv hr
          obtain ⟨c5, hc5, hr⟩ := hr
          refine R.flo (Gd.t 12 false 17 rfl rfl) (Y.idxS 0 Tryz.underlying9 rfl rfl hc5) ?_
          refine R.flo (Gd.t 12 false 17 rfl rfl) (Y.gtrI rfl rfl) ?_
          refine R.flo Gd.no (Y.pickF rfl rfl) ?_
          refine R.nil ?_
          have hx := Option.some.inj hr
          subst hx
          refine meet_mk ⟨decide ((122 : Int) < (c5.toNat : Int)), nx⟩ rfl (Weak.to [0, 21] [] rfl)
        · rw [hb4]; replace hr := cond_t hb4 hr
          refine R.skip (.f 12 true 17 rfl rfl) ?_
          refine R.skip (.f 12 true 17 rfl rfl) ?_
          refine R.skip (.f 12 true 17 rfl rfl) ?_
          refine R.flo Gd.no (Y.pickT rfl rfl) ?_
          refine R.nil ?_
          have hx := Option.some.inj hr
          subst hx
          refine meet_mk ⟨true, nx⟩ rfl (Weak.to [0, 21] [] rfl)
      · rw [hb2]; replace hr := cond_t hb2 hr
        refine R.skip (.f 7 true 12 rfl rfl) ?_
        refine R.skip (.f 7 true 12 rfl rfl) ?_
        refine R.skip (.f 7 true 12 rfl rfl) ?_
        refine R.flo Gd.no (Y.pickT rfl rfl) ?_
        refine R.flo Gd.no (Y.move rfl) ?_
        refine R.skip (.f 12 true 17 rfl rfl) ?_
        refine R.skip (.f 12 true 17 rfl rfl) ?_
        refine R.skip (.f 12 true 17 rfl rfl) ?_
        refine R.flo Gd.no (Y.pickT rfl rfl) ?_
        refine R.nil ?_
        have hx := Option.some.inj hr
        subst hx
        refine meet_mk ⟨true, nx⟩ rfl (Weak.to [0, 21] [] rfl)
    · rw [hb1]; replace hr := cond_t hb1 hr
      refine R.skip (.f 2 true 7 rfl rfl) ?_
      refine R.skip (.f 2 true 7 rfl rfl) ?_
      refine R.skip (.f 2 true 7 rfl rfl) ?_
      refine R.flo Gd.no (Y.pickT rfl rfl) ?_
      refine R.flo Gd.no (Y.move rfl) ?_
      refine R.skip (.f 7 true 12 rfl rfl) ?_
      refine R.skip (.f 7 true 12 rfl rfl) ?_
      refine R.skip (.f 7 true 12 rfl rfl) ?_
      refine R.flo Gd.no (Y.pickT rfl rfl) ?_
      refine R.flo Gd.no (Y.move rfl) ?_
      refine R.skip (.f 12 true 17 rfl rfl) ?_
      refine R.skip (.f 12 true 17 rfl rfl) ?_
      refine R.skip (.f 12 true 17 rfl rfl) ?_
      refine R.flo Gd.no (Y.pickT rfl rfl) ?_
      refine R.nil ?_
      have hx := Option.some.inj hr
      subst hx
      refine meet_mk ⟨true, nx⟩ rfl (Weak.to [0, 21] [] rfl)
  · subst hx
    have hr := hox6
    refine Tri.cond rfl (fun hc9 => ?_) (fun hc9 => ?_)
    · replace hr := cond_t hc9 hr
      refine Tri.seq ?_
      refine Tri.region ?_
      refine R.flo Gd.no (Y.assign rfl) ?_
      refine R.nil ?_
      refine Tri.ret ?_
      have hx := Option.some.inj hr
      subst hx
      exact ⟨.inl rfl, _, .inr (.inl ⟨_, _, rfl, rfl, rfl⟩), ⟨rfl, rfl⟩⟩
    · replace hr := cond_f hc9 hr
      refine Tri.skip ?_
      refine Tri.seq ?_
      refine Tri.seq ?_
      refine Tri.region ?_
      refine R.flo Gd.no (Y.move rfl) ?_
      refine R.flo Gd.no (Y.lenS Tryz.underlying9 rfl rfl) ?_
      refine R.flo Gd.no (Y.move rfl) ?_
      refine R.nil ?_
      replace hr := bind_inv hr
      obtain ⟨x24, hr, hox24⟩ := hr
      refine Tri.meet1 (α := Unit × Nat) (fun ⟨s25, nx_26⟩ => (.inl s25) = x24) (fun ⟨s25, nx_26⟩ => ⟨50, [], [], nx_26⟩) ?_ (fun ⟨s25, nx_26⟩ hx => ?_)
      · refine Tri.block ?_
        refine Tri.loop (α := Nat × Nat × Nat) (fun ⟨fuel29, v10, nx_11⟩ => f_prop_CheckName_l1 s fuel29 v10 = some x24) (fun ⟨fuel29, v10, nx_11⟩ => ⟨50, [(0, some (.v (.one (.c (.lit (str s)))))), (23, some (.v (.one (.c (.lit (.int .i64 ((s.length : Int)))))))), (24, some (.v (.one (.c (.lit (.int .i64 ((v10 : Int))))))))], [], nx_11⟩) (fun ⟨fuel29, v10, nx_11⟩ => fuel29) ⟨FUEL, 0, nx_8⟩ ?_ (Weak.to [0, 23, 24] [] rfl) ?_
        · exact hr
        · rintro ⟨fuel29, v10, nx_11⟩ (hr : f_prop_CheckName_l1 s fuel29 v10 = some x24)
          cases fuel29 with
          | zero => rw [f_prop_CheckName_l1] at hr; cases hr
          | succ fuel29 =>
            rw [f_prop_CheckName_l1] at hr
            refine Tri.seq ?_
            refine Tri.region ?_
            refine R.flo Gd.no (Y.lssI rfl rfl) ?_
            refine R.nil ?_
            refine Tri.seq ?_
            refine Tri.cond rfl (fun hc12 => ?_) (fun hc12 => ?_)
            · replace hr := cond_t hc12 hr
              refine Tri.skip ?_
              refine Tri.seq ?_
              refine Tri.block ?_
              refine Tri.seq ?_
              refine Tri.region ?_
              refine R.flo Gd.no (Y.move rfl) ?_
              refine R.flo Gd.no (Y.assign rfl) ?_
              refine R.nil ?_
              refine Tri.seq ?_
              refine Tri.region ?_
              refine R.flo Gd.no (Y.move rfl) ?_
              refine R.flo Gd.no (Y.move rfl) ?_
              replace hr := bind_inv hr
              obtain ⟨c13, hc13, hr⟩ := hr
              refine R.flo Gd.no (Y.idxS v10 Tryz.underlying9 rfl rfl hc13) ?_
              refine R.flo Gd.no (Y.assign rfl) ?_
              refine R.nil ?_
              replace hr := bind_inv hr
              obtain ⟨x20, hr, hox20⟩ := hr
              refine Tri.meet (α := Bool × Nat) (fun ⟨s21, nx_22⟩ => s21 = x20) (fun ⟨s21, nx_22⟩ => ⟨50, [(0, some (.v (.one (.c (.lit (str s)))))), (23, some (.v (.one (.c (.lit (.int .i64 ((s.length : Int)))))))), (24, some (.v (.one (.c (.lit (.int .i64 ((v10 : Int)))))))), (48, some (.v (.one (.c (.lit (.bool s21))))))], [], nx_22⟩) ?_ (fun ⟨s21, nx_22⟩ hx => ?_)
              · refine Tri.region ?_
                refine R.flo Gd.no (Y.move rfl) ?_
                refine R.flo Gd.no (Y.geqI rfl rfl) ?_
                refine R.flo Gd.no (Y.move rfl) ?_
                refine TOps.part (b := decide ((97 : Int) ≤ (c13.toNat : Int))) (fun bhb14 hb14 => ?_)
                cases bhb14
                · rw [hb14]; replace hr := cond_f hb14 hr
                  refine R.skip (.f 2 false 32 rfl rfl) ?_
                  refine R.skip (.f 2 false 32 rfl rfl) ?_
                  refine R.flo Gd.no (Y.pickF rfl rfl) ?_
                  refine R.flo Gd.no (Y.move rfl) ?_
                  refine R.flo (Gd.t 6 false 36 rfl rfl) (Y.move rfl) ?_
                  refine R.flo (Gd.t 6 false 36 rfl rfl) (Y.geqI rfl rfl) ?_
                  refine R.flo (Gd.t 6 false 36 rfl rfl) (Y.move rfl) ?_
                  refine TOps.part (b := decide ((48 : Int) ≤ (c13.toNat : Int))) (fun bhb18 hb18 => ?_)
                  cases bhb18
                  · rw [hb18]; replace hr := cond_f hb18 hr
                    refine R.skip (.f 9 false 39 rfl rfl) ?_
                    refine R.skip (.f 9 false 39 rfl rfl) ?_
                    refine R.flo (Gd.t 6 false 36 rfl rfl) (Y.pickF rfl rfl) ?_
                    refine R.flo Gd.no (Y.pickF rfl rfl) ?_
                    refine R.flo Gd.no (Y.move rfl) ?_
                    refine R.flo (Gd.t 14 false 44 rfl rfl) (Y.move rfl) ?_
                    refine R.flo (Gd.t 14 false 44 rfl rfl) (Y.eqlI rfl rfl) ?_
                    refine R.flo Gd.no (Y.pickF rfl rfl) ?_
                    refine R.flo Gd.no (Y.not rfl) ?_
                    refine R.nil ?_
                    have hx := Option.some.inj hr
                    subst hx
                    refine meet_mk ⟨!(decide ((c13.toNat : Int) = (45 : Int))), nx_11⟩ rfl (Weak.to [0, 23, 24, 48] [] rfl)
                  · rw [hb18]; replace hr := cond_t hb18 hr
                    refine R.flo (Gd.t 9 true 39 rfl rfl) (Y.move rfl) ?_
                    refine R.flo (Gd.t 9 true 39 rfl rfl) (Y.leqI rfl rfl) ?_
                    refine R.flo (Gd.t 6 false 36 rfl rfl) (Y.pickT rfl rfl) ?_
                    refine R.flo Gd.no (Y.pickF rfl rfl) ?_
                    refine R.flo Gd.no (Y.move rfl) ?_
                    refine TOps.part (b := decide ((c13.toNat : Int) ≤ (57 : Int))) (fun bhb19 hb19 => ?_)
                    cases bhb19
                    · rw [hb19]; replace hr := cond_f hb19 hr
                      refine R.flo (Gd.t 14 false 44 rfl rfl) (Y.move rfl) ?_
                      refine R.flo (Gd.t 14 false 44 rfl rfl) (Y.eqlI rfl rfl) ?_
                      refine R.flo Gd.no (Y.pickF rfl rfl) ?_
                      refine R.flo Gd.no (Y.not rfl) ?_
                      refine R.nil ?_
                      have hx := Option.some.inj hr
                      subst hx
                      refine meet_mk ⟨!(decide ((c13.toNat : Int) = (45 : Int))), nx_11⟩ rfl (Weak.to [0, 23, 24, 48] [] rfl)
                    · rw [hb19]; replace hr := cond_t hb19 hr
                      refine R.skip (.f 14 true 44 rfl rfl) ?_
                      refine R.skip (.f 14 true 44 rfl rfl) ?_
                      refine R.flo Gd.no (Y.pickT rfl rfl) ?_
                      refine R.flo Gd.no (Y.not rfl) ?_
                      refine R.nil ?_
                      have hx := Option.some.inj hr
                      subst hx
                      refine meet_mk ⟨false, nx_11⟩ rfl (Weak.to [0, 23, 24, 48] [] rfl)
                · rw [hb14]; replace hr := cond_t hb14 hr
                  refine R.flo (Gd.t 2 true 32 rfl rfl) (Y.move rfl) ?_
                  refine R.flo (Gd.t 2 true 32 rfl rfl) (Y.leqI rfl rfl) ?_
                  refine R.flo Gd.no (Y.pickT rfl rfl) ?_
                  refine R.flo Gd.no (Y.move rfl) ?_
                  refine TOps.part (b := decide ((c13.toNat : Int) ≤ (122 : Int))) (fun bhb15 hb15 => ?_)
                  cases bhb15
                  · rw [hb15]; replace hr := cond_f hb15 hr
                    refine R.flo (Gd.t 6 false 36 rfl rfl) (Y.move rfl) ?_
                    refine R.flo (Gd.t 6 false 36 rfl rfl) (Y.geqI rfl rfl) ?_
                    refine R.flo (Gd.t 6 false 36 rfl rfl) (Y.move rfl) ?_
                    refine TOps.part (b := decide ((48 : Int) ≤ (c13.toNat : Int))) (fun bhb16 hb16 => ?_)
                    cases bhb16
                    · rw [hb16]; replace hr := cond_f hb16 hr
                      refine R.skip (.f 9 false 39 rfl rfl) ?_
                      refine R.skip (.f 9 false 39 rfl rfl) ?_
                      refine R.flo (Gd.t 6 false 36 rfl rfl) (Y.pickF rfl rfl) ?_
                      refine R.flo Gd.no (Y.pickF rfl rfl) ?_
                      refine R.flo Gd.no (Y.move rfl) ?_
                      refine R.flo (Gd.t 14 false 44 rfl rfl) (Y.move rfl) ?_
                      refine R.flo (Gd.t 14 false 44 rfl rfl) (Y.eqlI rfl rfl) ?_
                      refine R.flo Gd.no (Y.pickF rfl rfl) ?_
                      refine R.flo Gd.no (Y.not rfl) ?_
                      refine R.nil ?_
                      have hx := Option.some.inj hr
                      subst hx
                      refine meet_mk ⟨!(decide ((c13.toNat : Int) = (45 : Int))), nx_11⟩ rfl (Weak.to [0, 23, 24, 48] [] rfl)
                    · rw [hb16]; replace hr := cond_t hb16 hr
                      refine R.flo (Gd.t 9 true 39 rfl rfl) (Y.move rfl) ?_
                      refine R.flo (Gd.t 9 true 39 rfl rfl) (Y.leqI rfl rfl) ?_
                      refine R.flo (Gd.t 6 false 36 rfl rfl) (Y.pickT rfl rfl) ?_
                      refine R.flo Gd.no (Y.pickF rfl rfl) ?_
                      refine R.flo Gd.no (Y.move rfl) ?_
                      refine TOps.part (b := decide ((c13.toNat : Int) ≤ (57 : Int))) (fun bhb17 hb17 => ?_)
                      cases bhb17
                      · rw [hb17]; replace hr := cond_f hb17 hr
                        refine R.flo (Gd.t 14 false 44 rfl rfl) (Y.move rfl) ?_
                        refine R.flo (Gd.t 14 false 44 rfl rfl) (Y.eqlI rfl rfl) ?_
                        refine R.flo Gd.no (Y.pickF rfl rfl) ?_
                        refine R.flo Gd.no (Y.not rfl) ?_
                        refine R.nil ?_
                        have hx := Option.some.inj hr
                        subst hx
                        refine meet_mk ⟨!(decide ((c13.toNat : Int) = (45 : Int))), nx_11⟩ rfl (Weak.to [0, 23, 24, 48] [] rfl)
                      · rw [hb17]; replace hr := cond_t hb17 hr
                        refine R.skip (.f 14 true 44 rfl rfl) ?_
                        refine R.skip (.f 14 true 44 rfl rfl) ?_
                        refine R.flo Gd.no (Y.pickT rfl rfl) ?_
                        refine R.flo Gd.no (Y.not rfl) ?_
                        refine R.nil ?_
                        have hx := Option.some.inj hr
                        subst hx
                        refine meet_mk ⟨false, nx_11⟩ rfl (Weak.to [0, 23, 24, 48] [] rfl)
                  · rw [hb15]; replace hr := cond_t hb15 hr
                    refine R.skip (.f 6 true 36 rfl rfl) ?_
                    refine R.skip (.f 6 true 36 rfl rfl) ?_
                    refine R.skip (.f 6 true 36 rfl rfl) ?_
                    refine R.skip (.u 9 true 39 rfl rfl) ?_
                    refine R.skip (.u 9 true 39 rfl rfl) ?_
                    refine R.skip (.f 6 true 36 rfl rfl) ?_
                    refine R.flo Gd.no (Y.pickT rfl rfl) ?_
                    refine R.flo Gd.no (Y.move rfl) ?_
                    refine R.skip (.f 14 true 44 rfl rfl) ?_
                    refine R.skip (.f 14 true 44 rfl rfl) ?_
                    refine R.flo Gd.no (Y.pickT rfl rfl) ?_
                    refine R.flo Gd.no (Y.not rfl) ?_
                    refine R.nil ?_
                    have hx := Option.some.inj hr
                    subst hx
                    refine meet_mk ⟨false, nx_11⟩ rfl (Weak.to [0, 23, 24, 48] [] rfl)
              · subst hx
                have hr := hox20
                refine Tri.cond rfl (fun hc23 => ?_) (fun hc23 => ?_)
                · replace hr := cond_t hc23 hr
                  refine Tri.seq ?_
                  refine Tri.region ?_
                  refine R.flo Gd.no (Y.assign rfl) ?_
                  refine R.nil ?_
                  have hx := Option.some.inj hr
                  subst hx
                  have hr := sum_r hox24
                  refine Tri.ret ?_
                  have hx := Option.some.inj hr
                  subst hx
                  exact ⟨.inl rfl, _, .inr (.inl ⟨_, _, rfl, rfl, rfl⟩), ⟨rfl, rfl⟩⟩
                · replace hr := cond_f hc23 hr
                  refine Tri.skip ?_
                  refine Tri.region ?_
                  replace hr := ckI_inv hr
                  obtain ⟨ha, hb, hr⟩ := hr
                  refine R.flo Gd.no (Y.addI rfl rfl ha hb) ?_
                  refine R.flo Gd.no (Y.move rfl) ?_
                  refine R.nil ?_
                  refine back_mk ⟨fuel29, v10 + 1, nx_22⟩ hr (Nat.lt_succ_self _) (Weak.to [0, 23, 24] [] rfl)
            · replace hr := cond_f hc12 hr
              refine Tri.exit ?_
              have hx := Option.some.inj hr
              subst hx
              refine meet_mk ⟨(), nx_11⟩ rfl (Weak.to [] [] rfl)
      · subst hx
        have hr := sum_l hox24
        refine Tri.seq ?_
        refine Tri.region ?_
        refine R.flo Gd.no (Y.assign rfl) ?_
        refine R.nil ?_
        refine Tri.ret ?_
        have hx := Option.some.inj hr
        subst hx
        exact ⟨.inl rfl, _, .inr (.inl ⟨_, _, rfl, rfl, rfl⟩), ⟨rfl, rfl⟩⟩
theorem ok_prop_outside {n : Int} {low : Int} {high : Int} {r : Bool} (hr : f_prop_outside n low high = some r) (nx : Nat) : OkH Tryz.prog 96 [.one (.c (.lit (.int .i64 n))), .one (.c (.lit (.int .i64 low))), .one (.c (.lit (.int .i64 high)))] [] nx fun v H' _ => v = .v (.one (.c (.lit (.bool r)))) ∧ H' = [] := by
  refine OkH.intro Tryz.func96 rfl Tryz.ntmps96 (by simp) ?_
  unfold f_prop_outside at hr
  refine Tri.seq ?_
  refine Tri.region ?_
  refine R.flo Gd.no (Y.assign rfl) ?_
  refine R.nil ?_
  refine Tri.seq ?_
  refine Tri.region ?_
  refine R.flo Gd.no (Y.move rfl) ?_
  refine R.flo Gd.no (Y.move rfl) ?_
  refine R.flo Gd.no (Y.lssI rfl rfl) ?_
  refine R.flo Gd.no (Y.move rfl) ?_
  refine TOps.part (b := decide (n < low)) (fun bhb1 hb1 => ?_)
  cases bhb1
  · rw [hb1]; replace hr := cond_f hb1 hr
    refine R.flo (Gd.t 3 false 10 rfl rfl) (Y.move rfl) ?_
    refine R.flo (Gd.t 3 false 10 rfl rfl) (Y.move rfl) ?_
    refine R.flo (Gd.t 3 false 10 rfl rfl) (Y.gtrI rfl rfl) ?_
    refine R.flo Gd.no (Y.pickF rfl rfl) ?_
    refine R.flo Gd.no (Y.assign rfl) ?_
    refine R.nil ?_
    refine Tri.ret ?_
    have hx := Option.some.inj hr
    subst hx
    exact ⟨.inl rfl, _, .inr (.inl ⟨_, _, rfl, rfl, rfl⟩), ⟨rfl, rfl⟩⟩
  · rw [hb1]; replace hr := cond_t hb1 hr
    refine R.skip (.f 3 true 10 rfl rfl) ?_
    refine R.skip (.f 3 true 10 rfl rfl) ?_
    refine R.skip (.f 3 true 10 rfl rfl) ?_
    refine R.flo Gd.no (Y.pickT rfl rfl) ?_
    refine R.flo Gd.no (Y.assign rfl) ?_
    refine R.nil ?_
    refine Tri.ret ?_
    have hx := Option.some.inj hr
    subst hx
    exact ⟨.inl rfl, _, .inr (.inl ⟨_, _, rfl, rfl, rfl⟩), ⟨rfl, rfl⟩⟩
theorem ok_prop_usesForm {v : PVal} {r : Bool} (hr : f_prop_usesForm v = some r) (nx : Nat) : OkH Tryz.prog 97 [.agg [.c (.lit (.int .i64 v.kind)), .c (.lit (.int .i64 v.int)), .c (.lit (.int .i64 v.to)), .c (.lit (str v.text)), .c (.ro 5 false (encItems v))]] [] nx fun v H' _ => v = .v (.one (.c (.lit (.bool r)))) ∧ H' = [] := by
  refine OkH.intro Tryz.func97 rfl Tryz.ntmps97 (by simp) ?_
  unfold f_prop_usesForm at hr
  refine Tri.seq ?_
  refine Tri.region ?_
  refine R.eff Gd.no (E.box (cs := [.c (.lit (.int .i64 v.kind)), .c (.lit (.int .i64 v.int)), .c (.lit (.int .i64 v.to)), .c (.lit (str v.text)), .c (.ro 5 false (encItems v))]) rfl rfl rfl) ?_
  refine R.flo Gd.no (Y.assign rfl) ?_
  refine R.nil ?_
  replace hr := bind_inv hr
  obtain ⟨x4, hr, hox4⟩ := hr
  refine Tri.meet (α := Bool × Nat) (fun ⟨s5, nx_6⟩ => s5 = x4) (fun ⟨s5, nx_6⟩ => ⟨66, [(1, some (.v (.one (.ptr nx 0 0)))), (3, some (.v (.one (.c (.lit (.bool s5))))))], [(nx, .box 89 [.c (.lit (.int .i64 v.kind)), .c (.lit (.int .i64 v.int)), .c (.lit (.int .i64 v.to)), .c (.lit (str v.text)), .c (.ro 5 false (encItems v))])], nx_6⟩) ?_ (fun ⟨s5, nx_6⟩ hx => ?_)
  · refine Tri.region ?_
    refine R.flo Gd.no (Y.fieldP Tryz.fo89_0 rfl) ?_
    refine R.flo Gd.no (Y.loadB1 rfl 0 rfl rfl Tryz.isAgg3) ?_
    refine R.flo Gd.no (Y.eqlI rfl rfl) ?_
    refine R.flo Gd.no (Y.move rfl) ?_
    refine TOps.part (b := decide (v.kind = (1 : Int))) (fun bhb1 hb1 => ?_)
    cases bhb1
    · rw [hb1]; replace hr := cond_f hb1 hr
      refine R.flo (Gd.t 3 false 8 rfl rfl) (Y.fieldP Tryz.fo89_0 rfl) ?_
      refine R.flo (Gd.t 3 false 8 rfl rfl) (Y.loadB1 rfl 0 rfl rfl Tryz.isAgg3) ?_
      refine R.flo (Gd.t 3 false 8 rfl rfl) (Y.eqlI rfl rfl) ?_
      refine R.flo Gd.no (Y.pickF rfl rfl) ?_
      refine R.flo Gd.no (Y.move rfl) ?_
      refine TOps.part (b := decide (v.kind = (2 : Int))) (fun bhb2 hb2 => ?_)
      cases bhb2
      · rw [hb2]; replace hr := cond_f hb2 hr
        refine R.flo (Gd.t 8 false 13 rfl rfl) (Y.fieldP Tryz.fo89_0 rfl) ?_
        refine R.flo (Gd.t 8 false 13 rfl rfl) (Y.loadB1 rfl 0 rfl rfl Tryz.isAgg3) ?_
        refine R.flo (Gd.t 8 false 13 rfl rfl) (Y.eqlI rfl rfl) ?_
        refine R.flo Gd.no (Y.pickF rfl rfl) ?_
        refine R.flo Gd.no (Y.move rfl) ?_
        refine TOps.part (b := decide (v.kind = (4 : Int))) (fun bhb3 hb3 => ?_)
        cases bhb3
        · rw [hb3]; replace hr := cond_f hb3 hr
          refine R.flo (Gd.t 13 false 18 rfl rfl) (Y.fieldP Tryz.fo89_0 rfl) ?_
          refine R.flo (Gd.t 13 false 18 rfl rfl) (Y.loadB1 rfl 0 rfl rfl Tryz.isAgg3) ?_
          refine R.flo (Gd.t 13 false 18 rfl rfl) (Y.eqlI rfl rfl) ?_
          refine R.flo Gd.no (Y.pickF rfl rfl) ?_
          refine R.flo Gd.no (Y.assign rfl) ?_
          refine R.nil ?_
          have hx := Option.some.inj hr
          subst hx
          refine meet_mk ⟨decide (v.kind = (5 : Int)), nx + 1⟩ rfl (Weak.to [1, 3] [0] rfl)
        · rw [hb3]; replace hr := cond_t hb3 hr
          refine R.skip (.f 13 true 18 rfl rfl) ?_
          refine R.skip (.f 13 true 18 rfl rfl) ?_
          refine R.skip (.f 13 true 18 rfl rfl) ?_
          refine R.flo Gd.no (Y.pickT rfl rfl) ?_
          refine R.flo Gd.no (Y.assign rfl) ?_
          refine R.nil ?_
          have hx := Option.some.inj hr
          subst hx
          refine meet_mk ⟨true, nx + 1⟩ rfl (Weak.to [1, 3] [0] rfl)
      · rw [hb2]; replace hr := cond_t hb2 hr
        refine R.skip (.f 8 true 13 rfl rfl) ?_
        refine R.skip (.f 8 true 13 rfl rfl) ?_
        refine R.skip (.f 8 true 13 rfl rfl) ?_
        refine R.flo Gd.no (Y.pickT rfl rfl) ?_
        refine R.flo Gd.no (Y.move rfl) ?_
        refine R.skip (.f 13 true 18 rfl rfl) ?_
        refine R.skip (.f 13 true 18 rfl rfl) ?_
        refine R.skip (.f 13 true 18 rfl rfl) ?_
        refine R.flo Gd.no (Y.pickT rfl rfl) ?_
        refine R.flo Gd.no (Y.assign rfl) ?_
        refine R.nil ?_
        have hx := Option.some.inj hr
        subst hx
        refine meet_mk ⟨true, nx + 1⟩ rfl (Weak.to [1, 3] [0] rfl)
    · rw [hb1]; replace hr := cond_t hb1 hr
      refine R.skip (.f 3 true 8 rfl rfl) ?_
      refine R.skip (.f 3 true 8 rfl rfl) ?_
      refine R.skip (.f 3 true 8 rfl rfl) ?_
      refine R.flo Gd.no (Y.pickT rfl rfl) ?_
      refine R.flo Gd.no (Y.move rfl) ?_
      refine R.skip (.f 8 true 13 rfl rfl) ?_
      refine R.skip (.f 8 true 13 rfl rfl) ?_
      refine R.skip (.f 8 true 13 rfl rfl) ?_
      refine R.flo Gd.no (Y.pickT rfl rfl) ?_
      refine R.flo Gd.no (Y.move rfl) ?_
      refine R.skip (.f 13 true 18 rfl rfl) ?_
      refine R.skip (.f 13 true 18 rfl rfl) ?_
      refine R.skip (.f 13 true 18 rfl rfl) ?_
      refine R.flo Gd.no (Y.pickT rfl rfl) ?_
      refine R.flo Gd.no (Y.assign rfl) ?_
      refine R.nil ?_
      have hx := Option.some.inj hr
      subst hx
      refine meet_mk ⟨true, nx + 1⟩ rfl (Weak.to [1, 3] [0] rfl)
  · subst hx
    have hr := hox4
    replace hr := bind_inv hr
    obtain ⟨x8, hr, hox8⟩ := hr
    refine Tri.meet (α := Bool × Nat) (fun ⟨s9, nx_10⟩ => s9 = x8) (fun ⟨s9, nx_10⟩ => ⟨66, [(1, some (.v (.one (.ptr nx 0 0)))), (3, some (.v (.one (.c (.lit (.bool s5)))))), (4, some (.v (.one (.c (.lit (.bool s9))))))], [(nx, .box 89 [.c (.lit (.int .i64 v.kind)), .c (.lit (.int .i64 v.int)), .c (.lit (.int .i64 v.to)), .c (.lit (str v.text)), .c (.ro 5 false (encItems v))])], nx_10⟩) ?_ (fun ⟨s9, nx_10⟩ hx => ?_)
    · refine Tri.region ?_
      refine R.flo Gd.no (Y.fieldP Tryz.fo89_0 rfl) ?_
      refine R.flo Gd.no (Y.loadB1 rfl 0 rfl rfl Tryz.isAgg3) ?_
      refine R.flo Gd.no (Y.eqlI rfl rfl) ?_
      refine R.flo Gd.no (Y.move rfl) ?_
      refine TOps.part (b := decide (v.kind = (3 : Int))) (fun bhb7 hb7 => ?_)
      cases bhb7
      · rw [hb7]; replace hr := cond_f hb7 hr
        refine R.flo (Gd.t 3 false 26 rfl rfl) (Y.fieldP Tryz.fo89_0 rfl) ?_
        refine R.flo (Gd.t 3 false 26 rfl rfl) (Y.loadB1 rfl 0 rfl rfl Tryz.isAgg3) ?_
        refine R.flo (Gd.t 3 false 26 rfl rfl) (Y.eqlI rfl rfl) ?_
        refine R.flo Gd.no (Y.pickF rfl rfl) ?_
        refine R.flo Gd.no (Y.assign rfl) ?_
        refine R.nil ?_
        have hx := Option.some.inj hr
        subst hx
        refine meet_mk ⟨decide (v.kind = (6 : Int)), nx_6⟩ rfl (Weak.to [1, 3, 4] [0] rfl)
      · rw [hb7]; replace hr := cond_t hb7 hr
        refine R.skip (.f 3 true 26 rfl rfl) ?_
        refine R.skip (.f 3 true 26 rfl rfl) ?_
        refine R.skip (.f 3 true 26 rfl rfl) ?_
        refine R.flo Gd.no (Y.pickT rfl rfl) ?_
        refine R.flo Gd.no (Y.assign rfl) ?_
        refine R.nil ?_
        have hx := Option.some.inj hr
        subst hx
        refine meet_mk ⟨true, nx_6⟩ rfl (Weak.to [1, 3, 4] [0] rfl)
    · subst hx
      have hr := hox8
      refine Tri.seq ?_
      refine Tri.region ?_
      refine R.flo Gd.no (Y.move rfl) ?_
      refine R.flo Gd.no (Y.move rfl) ?_
      refine TOps.part (b := s5) (fun bhb11 hb11 => ?_)
      cases bhb11
      · rw [hb11]; replace hr := cond_f hb11 hr
        refine R.flo (Gd.t 1 false 32 rfl rfl) (Y.fieldP Tryz.fo89_1 rfl) ?_
        refine R.flo (Gd.t 1 false 32 rfl rfl) (Y.loadB1 rfl 0 rfl rfl Tryz.isAgg3) ?_
        refine R.flo (Gd.t 1 false 32 rfl rfl) (Y.eqlI rfl rfl) ?_
        refine R.flo Gd.no (Y.pickF rfl rfl) ?_
        refine R.flo Gd.no (Y.move rfl) ?_
        refine TOps.part (b := decide (v.int = (0 : Int))) (fun bhb26 hb26 => ?_)
        cases bhb26
        · rw [hb26]; replace hr := cond_f hb26 hr
          refine R.skip (.f 6 false 37 rfl rfl) ?_
          refine R.skip (.f 6 false 37 rfl rfl) ?_
          refine R.skip (.f 6 false 37 rfl rfl) ?_
          refine R.skip (.f 6 false 37 rfl rfl) ?_
          refine R.skip (.u 10 false 41 rfl rfl) ?_
          refine R.skip (.u 10 false 41 rfl rfl) ?_
          refine R.skip (.u 10 false 41 rfl rfl) ?_
          refine R.skip (.f 6 false 37 rfl rfl) ?_
          refine R.flo Gd.no (Y.pickF rfl rfl) ?_
          refine R.flo Gd.no (Y.move rfl) ?_
          refine R.skip (.f 16 false 47 rfl rfl) ?_
          refine R.skip (.f 16 false 47 rfl rfl) ?_
          refine R.skip (.u 18 false 49 rfl rfl) ?_
          refine R.skip (.u 18 false 49 rfl rfl) ?_
          refine R.skip (.u 18 false 49 rfl rfl) ?_
          refine R.skip (.f 16 false 47 rfl rfl) ?_
          refine R.flo Gd.no (Y.pickF rfl rfl) ?_
          refine R.flo Gd.no (Y.move rfl) ?_
          refine R.skip (.f 24 false 55 rfl rfl) ?_
          refine R.skip (.f 24 false 55 rfl rfl) ?_
          refine R.skip (.f 24 false 55 rfl rfl) ?_
          refine R.skip (.f 24 false 55 rfl rfl) ?_
          refine R.skip (.u 28 false 59 rfl rfl) ?_
          refine R.skip (.u 28 false 59 rfl rfl) ?_
          refine R.skip (.u 28 false 59 rfl rfl) ?_
          refine R.skip (.u 28 false 59 rfl rfl) ?_
          refine R.skip (.f 24 false 55 rfl rfl) ?_
          refine R.flo Gd.no (Y.pickF rfl rfl) ?_
          refine R.flo Gd.no (Y.assign rfl) ?_
          refine R.nil ?_
          refine Tri.weak (Weak.to [2] [] rfl) ?_
          refine Tri.ret ?_
          have hx := Option.some.inj hr
          subst hx
          exact ⟨.inl rfl, _, .inr (.inl ⟨_, _, rfl, rfl, rfl⟩), ⟨rfl, rfl⟩⟩
        · rw [hb26]; replace hr := cond_t hb26 hr
          refine R.flo (Gd.t 6 true 37 rfl rfl) (Y.fieldP Tryz.fo89_0 rfl) ?_
          refine R.flo (Gd.t 6 true 37 rfl rfl) (Y.loadB1 rfl 0 rfl rfl Tryz.isAgg3) ?_
          refine R.flo (Gd.t 6 true 37 rfl rfl) (Y.eqlI rfl rfl) ?_
          refine R.flo (Gd.t 6 true 37 rfl rfl) (Y.move rfl) ?_
          refine TOps.part (b := decide (v.kind = (5 : Int))) (fun bhb27 hb27 => ?_)
          cases bhb27
          · rw [hb27]; replace hr := cond_f hb27 hr
            refine R.flo (Gd.t 10 false 41 rfl rfl) (Y.fieldP Tryz.fo89_2 rfl) ?_
            refine R.flo (Gd.t 10 false 41 rfl rfl) (Y.loadB1 rfl 0 rfl rfl Tryz.isAgg3) ?_
            refine R.flo (Gd.t 10 false 41 rfl rfl) (Y.eqlI rfl rfl) ?_
            refine R.flo (Gd.t 6 true 37 rfl rfl) (Y.pickF rfl rfl) ?_
            refine R.flo Gd.no (Y.pickT rfl rfl) ?_
            refine R.flo Gd.no (Y.move rfl) ?_
            refine TOps.part (b := decide (v.to = (0 : Int))) (fun bhb34 hb34 => ?_)
            cases bhb34
            · rw [hb34]; replace hr := cond_f hb34 hr
              refine R.skip (.f 16 false 47 rfl rfl) ?_
              refine R.skip (.f 16 false 47 rfl rfl) ?_
              refine R.skip (.u 18 false 49 rfl rfl) ?_
              refine R.skip (.u 18 false 49 rfl rfl) ?_
              refine R.skip (.u 18 false 49 rfl rfl) ?_
              refine R.skip (.f 16 false 47 rfl rfl) ?_
              refine R.flo Gd.no (Y.pickF rfl rfl) ?_
              refine R.flo Gd.no (Y.move rfl) ?_
              refine R.skip (.f 24 false 55 rfl rfl) ?_
              refine R.skip (.f 24 false 55 rfl rfl) ?_
              refine R.skip (.f 24 false 55 rfl rfl) ?_
              refine R.skip (.f 24 false 55 rfl rfl) ?_
              refine R.skip (.u 28 false 59 rfl rfl) ?_
              refine R.skip (.u 28 false 59 rfl rfl) ?_
              refine R.skip (.u 28 false 59 rfl rfl) ?_
              refine R.skip (.u 28 false 59 rfl rfl) ?_
              refine R.skip (.f 24 false 55 rfl rfl) ?_
              refine R.flo Gd.no (Y.pickF rfl rfl) ?_
              refine R.flo Gd.no (Y.assign rfl) ?_
              refine R.nil ?_
              refine Tri.weak (Weak.to [2] [] rfl) ?_
              refine Tri.ret ?_
              have hx := Option.some.inj hr
              subst hx
              exact ⟨.inl rfl, _, .inr (.inl ⟨_, _, rfl, rfl, rfl⟩), ⟨rfl, rfl⟩⟩
            · rw [hb34]; replace hr := cond_t hb34 hr
              refine R.flo (Gd.t 16 true 47 rfl rfl) (Y.move rfl) ?_
              refine R.flo (Gd.t 16 true 47 rfl rfl) (Y.move rfl) ?_
              refine TOps.part (b := s9) (fun bhb35 hb35 => ?_)
              cases bhb35
              · rw [hb35]; replace hr := cond_f hb35 hr
                refine R.flo (Gd.t 18 false 49 rfl rfl) (Y.fieldP Tryz.fo89_3 rfl) ?_
                refine R.flo (Gd.t 18 false 49 rfl rfl) (Y.loadB1 rfl 0 rfl rfl Tryz.isAgg9) ?_
                refine R.flo (Gd.t 18 false 49 rfl rfl) (Y.eqlS rfl rfl) ?_
                refine R.flo (Gd.t 16 true 47 rfl rfl) (Y.pickF rfl rfl) ?_
                refine R.flo Gd.no (Y.pickT rfl rfl) ?_
                refine R.flo Gd.no (Y.move rfl) ?_
                refine TOps.part (b := decide (v.text = ([] : Bytes))) (fun bhb38 hb38 => ?_)
                cases bhb38
                · rw [hb38]; replace hr := cond_f hb38 hr
                  refine R.skip (.f 24 false 55 rfl rfl) ?_
                  refine R.skip (.f 24 false 55 rfl rfl) ?_
                  refine R.skip (.f 24 false 55 rfl rfl) ?_
                  refine R.skip (.f 24 false 55 rfl rfl) ?_
                  refine R.skip (.u 28 false 59 rfl rfl) ?_
                  refine R.skip (.u 28 false 59 rfl rfl) ?_
                  refine R.skip (.u 28 false 59 rfl rfl) ?_
                  refine R.skip (.u 28 false 59 rfl rfl) ?_
                  refine R.skip (.f 24 false 55 rfl rfl) ?_
                  refine R.flo Gd.no (Y.pickF rfl rfl) ?_
                  refine R.flo Gd.no (Y.assign rfl) ?_
                  refine R.nil ?_
                  refine Tri.weak (Weak.to [2] [] rfl) ?_
                  refine Tri.ret ?_
                  have hx := Option.some.inj hr
                  subst hx
                  exact ⟨.inl rfl, _, .inr (.inl ⟨_, _, rfl, rfl, rfl⟩), ⟨rfl, rfl⟩⟩
                · rw [hb38]; replace hr := cond_t hb38 hr
                  refine R.flo (Gd.t 24 true 55 rfl rfl) (Y.fieldP Tryz.fo89_0 rfl) ?_
                  refine R.flo (Gd.t 24 true 55 rfl rfl) (Y.loadB1 rfl 0 rfl rfl Tryz.isAgg3) ?_
                  refine R.flo (Gd.t 24 true 55 rfl rfl) (Y.eqlI rfl rfl) ?_
                  refine R.flo (Gd.t 24 true 55 rfl rfl) (Y.move rfl) ?_
                  refine TOps.part (b := decide (v.kind = (7 : Int))) (fun bhb39 hb39 => ?_)
                  cases bhb39
                  · rw [hb39]; replace hr := cond_f hb39 hr
                    refine R.flo (Gd.t 28 false 59 rfl rfl) (Y.fieldP Tryz.fo89_4 rfl) ?_
                    refine R.flo (Gd.t 28 false 59 rfl rfl) (Y.loadB1 rfl 0 rfl rfl Tryz.isAgg87) ?_
                    refine TOps.fact (Fact.lenR (x := .tmp 61) (n := v.items.length) rfl (encItems_length _)) (fun hl40 => ?_)
                    refine R.flo (Gd.t 28 false 59 rfl rfl) (Y.lenR (m := v.items.length) Tryz.underlying87 rfl rfl (encItems_length _)) ?_
                    refine R.flo (Gd.t 28 false 59 rfl rfl) (Y.eqlI rfl rfl) ?_
                    refine R.flo (Gd.t 24 true 55 rfl rfl) (Y.pickF rfl rfl) ?_
                    refine R.flo Gd.no (Y.pickT rfl rfl) ?_
                    refine R.flo Gd.no (Y.assign rfl) ?_
                    refine R.nil ?_
                    refine Tri.weak (Weak.to [2] [] rfl) ?_
                    refine Tri.ret ?_
                    have hx := Option.some.inj hr
                    subst hx
                    exact ⟨.inl rfl, _, .inr (.inl ⟨_, _, rfl, rfl, rfl⟩), ⟨rfl, rfl⟩⟩
                  · rw [hb39]; replace hr := cond_t hb39 hr
                    refine R.skip (.f 28 true 59 rfl rfl) ?_
                    refine R.skip (.f 28 true 59 rfl rfl) ?_
                    refine R.skip (.f 28 true 59 rfl rfl) ?_
                    refine R.skip (.f 28 true 59 rfl rfl) ?_
                    refine R.flo (Gd.t 24 true 55 rfl rfl) (Y.pickT rfl rfl) ?_
                    refine R.flo Gd.no (Y.pickT rfl rfl) ?_
                    refine R.flo Gd.no (Y.assign rfl) ?_
                    refine R.nil ?_
                    refine Tri.weak (Weak.to [2] [] rfl) ?_
                    refine Tri.ret ?_
                    have hx := Option.some.inj hr
                    subst hx
                    exact ⟨.inl rfl, _, .inr (.inl ⟨_, _, rfl, rfl, rfl⟩), ⟨rfl, rfl⟩⟩
              · rw [hb35]; replace hr := cond_t hb35 hr
                refine R.skip (.f 18 true 49 rfl rfl) ?_
                refine R.skip (.f 18 true 49 rfl rfl) ?_
                refine R.skip (.f 18 true 49 rfl rfl) ?_
                refine R.flo (Gd.t 16 true 47 rfl rfl) (Y.pickT rfl rfl) ?_
                refine R.flo Gd.no (Y.pickT rfl rfl) ?_
                refine R.flo Gd.no (Y.move rfl) ?_
                refine R.flo (Gd.t 24 true 55 rfl rfl) (Y.fieldP Tryz.fo89_0 rfl) ?_
                refine R.flo (Gd.t 24 true 55 rfl rfl) (Y.loadB1 rfl 0 rfl rfl Tryz.isAgg3) ?_
                refine R.flo (Gd.t 24 true 55 rfl rfl) (Y.eqlI rfl rfl) ?_
                refine R.flo (Gd.t 24 true 55 rfl rfl) (Y.move rfl) ?_
                refine TOps.part (b := decide (v.kind = (7 : Int))) (fun bhb36 hb36 => ?_)
                cases bhb36
                · rw [hb36]; replace hr := cond_f hb36 hr
                  refine R.flo (Gd.t 28 false 59 rfl rfl) (Y.fieldP Tryz.fo89_4 rfl) ?_
                  refine R.flo (Gd.t 28 false 59 rfl rfl) (Y.loadB1 rfl 0 rfl rfl Tryz.isAgg87) ?_
                  refine TOps.fact (Fact.lenR (x := .tmp 61) (n := v.items.length) rfl (encItems_length _)) (fun hl37 => ?_)
                  refine R.flo (Gd.t 28 false 59 rfl rfl) (Y.lenR (m := v.items.length) Tryz.underlying87 rfl rfl (encItems_length _)) ?_
                  refine R.flo (Gd.t 28 false 59 rfl rfl) (Y.eqlI rfl rfl) ?_
                  refine R.flo (Gd.t 24 true 55 rfl rfl) (Y.pickF rfl rfl) ?_
                  refine R.flo Gd.no (Y.pickT rfl rfl) ?_
                  refine R.flo Gd.no (Y.assign rfl) ?_
                  refine R.nil ?_
                  refine Tri.weak (Weak.to [2] [] rfl) ?_
                  refine Tri.ret ?_
                  have hx := Option.some.inj hr
                  subst hx
                  exact ⟨.inl rfl, _, .inr (.inl ⟨_, _, rfl, rfl, rfl⟩), ⟨rfl, rfl⟩⟩
                · rw [hb36]; replace hr := cond_t hb36 hr
                  refine R.skip (.f 28 true 59 rfl rfl) ?_
                  refine R.skip (.f 28 true 59 rfl rfl) ?_
                  refine R.skip (.f 28 true 59 rfl rfl) ?_
                  refine R.skip (.f 28 true 59 rfl rfl) ?_
                  refine R.flo (Gd.t 24 true 55 rfl rfl) (Y.pickT rfl rfl) ?_
                  refine R.flo Gd.no (Y.pickT rfl rfl) ?_
                  refine R.flo Gd.no (Y.assign rfl) ?_
                  refine R.nil ?_
                  refine Tri.weak (Weak.to [2] [] rfl) ?_
                  refine Tri.ret ?_
                  have hx := Option.some.inj hr
                  subst hx
                  exact ⟨.inl rfl, _, .inr (.inl ⟨_, _, rfl, rfl, rfl⟩), ⟨rfl, rfl⟩⟩
          · rw [hb27]; replace hr := cond_t hb27 hr
            refine R.skip (.f 10 true 41 rfl rfl) ?_
            refine R.skip (.f 10 true 41 rfl rfl) ?_
            refine R.skip (.f 10 true 41 rfl rfl) ?_
            refine R.flo (Gd.t 6 true 37 rfl rfl) (Y.pickT rfl rfl) ?_
            refine R.flo Gd.no (Y.pickT rfl rfl) ?_
            refine R.flo Gd.no (Y.move rfl) ?_
            refine R.flo (Gd.t 16 true 47 rfl rfl) (Y.move rfl) ?_
            refine R.flo (Gd.t 16 true 47 rfl rfl) (Y.move rfl) ?_
            refine TOps.part (b := s9) (fun bhb28 hb28 => ?_)
            cases bhb28
            · rw [hb28]; replace hr := cond_f hb28 hr
              refine R.flo (Gd.t 18 false 49 rfl rfl) (Y.fieldP Tryz.fo89_3 rfl) ?_
              refine R.flo (Gd.t 18 false 49 rfl rfl) (Y.loadB1 rfl 0 rfl rfl Tryz.isAgg9) ?_
              refine R.flo (Gd.t 18 false 49 rfl rfl) (Y.eqlS rfl rfl) ?_
              refine R.flo (Gd.t 16 true 47 rfl rfl) (Y.pickF rfl rfl) ?_
              refine R.flo Gd.no (Y.pickT rfl rfl) ?_
              refine R.flo Gd.no (Y.move rfl) ?_
              refine TOps.part (b := decide (v.text = ([] : Bytes))) (fun bhb31 hb31 => ?_)
              cases bhb31
              · rw [hb31]; replace hr := cond_f hb31 hr
                refine R.skip (.f 24 false 55 rfl rfl) ?_
                refine R.skip (.f 24 false 55 rfl rfl) ?_
                refine R.skip (.f 24 false 55 rfl rfl) ?_
                refine R.skip (.f 24 false 55 rfl rfl) ?_
                refine R.skip (.u 28 false 59 rfl rfl) ?_
                refine R.skip (.u 28 false 59 rfl rfl) ?_
                refine R.skip (.u 28 false 59 rfl rfl) ?_
                refine R.skip (.u 28 false 59 rfl rfl) ?_
                refine R.skip (.f 24 false 55 rfl rfl) ?_
                refine R.flo Gd.no (Y.pickF rfl rfl) ?_
                refine R.flo Gd.no (Y.assign rfl) ?_
                refine R.nil ?_
                refine Tri.weak (Weak.to [2] [] rfl) ?_
                refine Tri.ret ?_
                have hx := Option.some.inj hr
                subst hx
                exact ⟨.inl rfl, _, .inr (.inl ⟨_, _, rfl, rfl, rfl⟩), ⟨rfl, rfl⟩⟩
              · rw [hb31]; replace hr := cond_t hb31 hr
                refine R.flo (Gd.t 24 true 55 rfl rfl) (Y.fieldP Tryz.fo89_0 rfl) ?_
                refine R.flo (Gd.t 24 true 55 rfl rfl) (Y.loadB1 rfl 0 rfl rfl Tryz.isAgg3) ?_
                refine R.flo (Gd.t 24 true 55 rfl rfl) (Y.eqlI rfl rfl) ?_
                refine R.flo (Gd.t 24 true 55 rfl rfl) (Y.move rfl) ?_
                refine TOps.part (b := decide (v.kind = (7 : Int))) (fun bhb32 hb32 => ?_)
                cases bhb32
                · rw [hb32]; replace hr := cond_f hb32 hr
                  refine R.flo (Gd.t 28 false 59 rfl rfl) (Y.fieldP Tryz.fo89_4 rfl) ?_
                  refine R.flo (Gd.t 28 false 59 rfl rfl) (Y.loadB1 rfl 0 rfl rfl Tryz.isAgg87) ?_
                  refine TOps.fact (Fact.lenR (x := .tmp 61) (n := v.items.length) rfl (encItems_length _)) (fun hl33 => ?_)
                  refine R.flo (Gd.t 28 false 59 rfl rfl) (Y.lenR (m := v.items.length) Tryz.underlying87 rfl rfl (encItems_length _)) ?_
                  refine R.flo (Gd.t 28 false 59 rfl rfl) (Y.eqlI rfl rfl) ?_
                  refine R.flo (Gd.t 24 true 55 rfl rfl) (Y.pickF rfl rfl) ?_
                  refine R.flo Gd.no (Y.pickT rfl rfl) ?_
                  refine R.flo Gd.no (Y.assign rfl) ?_
                  refine R.nil ?_
                  refine Tri.weak (Weak.to [2] [] rfl) ?_
                  refine Tri.ret ?_
                  have hx := Option.some.inj hr
                  subst hx
                  exact ⟨.inl rfl, _, .inr (.inl ⟨_, _, rfl, rfl, rfl⟩), ⟨rfl, rfl⟩⟩
                · rw [hb32]; replace hr := cond_t hb32 hr
                  refine R.skip (.f 28 true 59 rfl rfl) ?_
                  refine R.skip (.f 28 true 59 rfl rfl) ?_
                  refine R.skip (.f 28 true 59 rfl rfl) ?_
                  refine R.skip (.f 28 true 59 rfl rfl) ?_
                  refine R.flo (Gd.t 24 true 55 rfl rfl) (Y.pickT rfl rfl) ?_
                  refine R.flo Gd.no (Y.pickT rfl rfl) ?_
                  refine R.flo Gd.no (Y.assign rfl) ?_
                  refine R.nil ?_
                  refine Tri.weak (Weak.to [2] [] rfl) ?_
                  refine Tri.ret ?_
                  have hx := Option.some.inj hr
                  subst hx
                  exact ⟨.inl rfl, _, .inr (.inl ⟨_, _, rfl, rfl, rfl⟩), ⟨rfl, rfl⟩⟩
            · rw [hb28]; replace hr := cond_t hb28 hr
              refine R.skip (.f 18 true 49 rfl rfl) ?_
              refine R.skip (.f 18 true 49 rfl rfl) ?_
              refine R.skip (.f 18 true 49 rfl rfl) ?_
              refine R.flo (Gd.t 16 true 47 rfl rfl) (Y.pickT rfl rfl) ?_
              refine R.flo Gd.no (Y.pickT rfl rfl) ?_
              refine R.flo Gd.no (Y.move rfl) ?_
              refine R.flo (Gd.t 24 true 55 rfl rfl) (Y.fieldP Tryz.fo89_0 rfl) ?_
              refine R.flo (Gd.t 24 true 55 rfl rfl) (Y.loadB1 rfl 0 rfl rfl Tryz.isAgg3) ?_
              refine R.flo (Gd.t 24 true 55 rfl rfl) (Y.eqlI rfl rfl) ?_
              refine R.flo (Gd.t 24 true 55 rfl rfl) (Y.move rfl) ?_
              refine TOps.part (b := decide (v.kind = (7 : Int))) (fun bhb29 hb29 => ?_)
              cases bhb29
              · rw [hb29]; replace hr := cond_f hb29 hr
                refine R.flo (Gd.t 28 false 59 rfl rfl) (Y.fieldP Tryz.fo89_4 rfl) ?_
                refine R.flo (Gd.t 28 false 59 rfl rfl) (Y.loadB1 rfl 0 rfl rfl Tryz.isAgg87) ?_
                refine TOps.fact (Fact.lenR (x := .tmp 61) (n := v.items.length) rfl (encItems_length _)) (fun hl30 => ?_)
                refine R.flo (Gd.t 28 false 59 rfl rfl) (Y.lenR (m := v.items.length) Tryz.underlying87 rfl rfl (encItems_length _)) ?_
                refine R.flo (Gd.t 28 false 59 rfl rfl) (Y.eqlI rfl rfl) ?_
                refine R.flo (Gd.t 24 true 55 rfl rfl) (Y.pickF rfl rfl) ?_
                refine R.flo Gd.no (Y.pickT rfl rfl) ?_
                refine R.flo Gd.no (Y.assign rfl) ?_
                refine R.nil ?_
                refine Tri.weak (Weak.to [2] [] rfl) ?_
                refine Tri.ret ?_
                have hx := Option.some.inj hr
                subst hx
                exact ⟨.inl rfl, _, .inr (.inl ⟨_, _, rfl, rfl, rfl⟩), ⟨rfl, rfl⟩⟩
              · rw [hb29]; replace hr := cond_t hb29 hr
                refine R.skip (.f 28 true 59 rfl rfl) ?_
                refine R.skip (.f 28 true 59 rfl rfl) ?_
                refine R.skip (.f 28 true 59 rfl rfl) ?_
                refine R.skip (.f 28 true 59 rfl rfl) ?_
                refine R.flo (Gd.t 24 true 55 rfl rfl) (Y.pickT rfl rfl) ?_
                refine R.flo Gd.no (Y.pickT rfl rfl) ?_
                refine R.flo Gd.no (Y.assign rfl) ?_
                refine R.nil ?_
                refine Tri.weak (Weak.to [2] [] rfl) ?_
                refine Tri.ret ?_
                have hx := Option.some.inj hr
                subst hx
                exact ⟨.inl rfl, _, .inr (.inl ⟨_, _, rfl, rfl, rfl⟩), ⟨rfl, rfl⟩⟩
      · rw [hb11]; replace hr := cond_t hb11 hr
        refine R.skip (.f 1 true 32 rfl rfl) ?_
        refine R.skip (.f 1 true 32 rfl rfl) ?_
        refine R.skip (.f 1 true 32 rfl rfl) ?_
        refine R.flo Gd.no (Y.pickT rfl rfl) ?_
        refine R.flo Gd.no (Y.move rfl) ?_
        refine R.flo (Gd.t 6 true 37 rfl rfl) (Y.fieldP Tryz.fo89_0 rfl) ?_
        refine R.flo (Gd.t 6 true 37 rfl rfl) (Y.loadB1 rfl 0 rfl rfl Tryz.isAgg3) ?_
        refine R.flo (Gd.t 6 true 37 rfl rfl) (Y.eqlI rfl rfl) ?_
        refine R.flo (Gd.t 6 true 37 rfl rfl) (Y.move rfl) ?_
        refine TOps.part (b := decide (v.kind = (5 : Int))) (fun bhb12 hb12 => ?_)
        cases bhb12
        · rw [hb12]; replace hr := cond_f hb12 hr
          refine R.flo (Gd.t 10 false 41 rfl rfl) (Y.fieldP Tryz.fo89_2 rfl) ?_
          refine R.flo (Gd.t 10 false 41 rfl rfl) (Y.loadB1 rfl 0 rfl rfl Tryz.isAgg3) ?_
          refine R.flo (Gd.t 10 false 41 rfl rfl) (Y.eqlI rfl rfl) ?_
          refine R.flo (Gd.t 6 true 37 rfl rfl) (Y.pickF rfl rfl) ?_
          refine R.flo Gd.no (Y.pickT rfl rfl) ?_
          refine R.flo Gd.no (Y.move rfl) ?_
          refine TOps.part (b := decide (v.to = (0 : Int))) (fun bhb19 hb19 => ?_)
          cases bhb19
          · rw [hb19]; replace hr := cond_f hb19 hr
            refine R.skip (.f 16 false 47 rfl rfl) ?_
            refine R.skip (.f 16 false 47 rfl rfl) ?_
            refine R.skip (.u 18 false 49 rfl rfl) ?_
            refine R.skip (.u 18 false 49 rfl rfl) ?_
            refine R.skip (.u 18 false 49 rfl rfl) ?_
            refine R.skip (.f 16 false 47 rfl rfl) ?_
            refine R.flo Gd.no (Y.pickF rfl rfl) ?_
            refine R.flo Gd.no (Y.move rfl) ?_
            refine R.skip (.f 24 false 55 rfl rfl) ?_
            refine R.skip (.f 24 false 55 rfl rfl) ?_
            refine R.skip (.f 24 false 55 rfl rfl) ?_
            refine R.skip (.f 24 false 55 rfl rfl) ?_
            refine R.skip (.u 28 false 59 rfl rfl) ?_
            refine R.skip (.u 28 false 59 rfl rfl) ?_
            refine R.skip (.u 28 false 59 rfl rfl) ?_
            refine R.skip (.u 28 false 59 rfl rfl) ?_
            refine R.skip (.f 24 false 55 rfl rfl) ?_
            refine R.flo Gd.no (Y.pickF rfl rfl) ?_
            refine R.flo Gd.no (Y.assign rfl) ?_
            refine R.nil ?_
            refine Tri.weak (Weak.to [2] [] rfl) ?_
            refine Tri.ret ?_
            have hx := Option.some.inj hr
            subst hx
            exact ⟨.inl rfl, _, .inr (.inl ⟨_, _, rfl, rfl, rfl⟩), ⟨rfl, rfl⟩⟩
          · rw [hb19]; replace hr := cond_t hb19 hr
            refine R.flo (Gd.t 16 true 47 rfl rfl) (Y.move rfl) ?_
            refine R.flo (Gd.t 16 true 47 rfl rfl) (Y.move rfl) ?_
            refine TOps.part (b := s9) (fun bhb20 hb20 => ?_)
            cases bhb20
            · rw [hb20]; replace hr := cond_f hb20 hr
              refine R.flo (Gd.t 18 false 49 rfl rfl) (Y.fieldP Tryz.fo89_3 rfl) ?_
              refine R.flo (Gd.t 18 false 49 rfl rfl) (Y.loadB1 rfl 0 rfl rfl Tryz.isAgg9) ?_
              refine R.flo (Gd.t 18 false 49 rfl rfl) (Y.eqlS rfl rfl) ?_
              refine R.flo (Gd.t 16 true 47 rfl rfl) (Y.pickF rfl rfl) ?_
              refine R.flo Gd.no (Y.pickT rfl rfl) ?_
              refine R.flo Gd.no (Y.move rfl) ?_
              refine TOps.part (b := decide (v.text = ([] : Bytes))) (fun bhb23 hb23 => ?_)
              cases bhb23
              · rw [hb23]; replace hr := cond_f hb23 hr
                refine R.skip (.f 24 false 55 rfl rfl) ?_
                refine R.skip (.f 24 false 55 rfl rfl) ?_
                refine R.skip (.f 24 false 55 rfl rfl) ?_
                refine R.skip (.f 24 false 55 rfl rfl) ?_
                refine R.skip (.u 28 false 59 rfl rfl) ?_
                refine R.skip (.u 28 false 59 rfl rfl) ?_
                refine R.skip (.u 28 false 59 rfl rfl) ?_
                refine R.skip (.u 28 false 59 rfl rfl) ?_
                refine R.skip (.f 24 false 55 rfl rfl) ?_
                refine R.flo Gd.no (Y.pickF rfl rfl) ?_
                refine R.flo Gd.no (Y.assign rfl) ?_
                refine R.nil ?_
                refine Tri.weak (Weak.to [2] [] rfl) ?_
                refine Tri.ret ?_
                have hx := Option.some.inj hr
                subst hx
                exact ⟨.inl rfl, _, .inr (.inl ⟨_, _, rfl, rfl, rfl⟩), ⟨rfl, rfl⟩⟩
              · rw [hb23]; replace hr := cond_t hb23 hr
                refine R.flo (Gd.t 24 true 55 rfl rfl) (Y.fieldP Tryz.fo89_0 rfl) ?_
                refine R.flo (Gd.t 24 true 55 rfl rfl) (Y.loadB1 rfl 0 rfl rfl Tryz.isAgg3) ?_
                refine R.flo (Gd.t 24 true 55 rfl rfl) (Y.eqlI rfl rfl) ?_
                refine R.flo (Gd.t 24 true 55 rfl rfl) (Y.move rfl) ?_
                refine TOps.part (b := decide (v.kind = (7 : Int))) (fun bhb24 hb24 => ?_)
                cases bhb24
                · rw [hb24]; replace hr := cond_f hb24 hr
                  refine R.flo (Gd.t 28 false 59 rfl rfl) (Y.fieldP Tryz.fo89_4 rfl) ?_
                  refine R.flo (Gd.t 28 false 59 rfl rfl) (Y.loadB1 rfl 0 rfl rfl Tryz.isAgg87) ?_
                  refine TOps.fact (Fact.lenR (x := .tmp 61) (n := v.items.length) rfl (encItems_length _)) (fun hl25 => ?_)
                  refine R.flo (Gd.t 28 false 59 rfl rfl) (Y.lenR (m := v.items.length) Tryz.underlying87 rfl rfl (encItems_length _)) ?_
                  refine R.flo (Gd.t 28 false 59 rfl rfl) (Y.eqlI rfl rfl) ?_
                  refine R.flo (Gd.t 24 true 55 rfl rfl) (Y.pickF rfl rfl) ?_
                  refine R.flo Gd.no (Y.pickT rfl rfl) ?_
                  refine R.flo Gd.no (Y.assign rfl) ?_
                  refine R.nil ?_
                  refine Tri.weak (Weak.to [2] [] rfl) ?_
                  refine Tri.ret ?_
                  have hx := Option.some.inj hr
                  subst hx
                  exact ⟨.inl rfl, _, .inr (.inl ⟨_, _, rfl, rfl, rfl⟩), ⟨rfl, rfl⟩⟩
                · rw [hb24]; replace hr := cond_t hb24 hr
                  refine R.skip (.f 28 true 59 rfl rfl) ?_
                  refine R.skip (.f 28 true 59 rfl rfl) ?_
                  refine R.skip (.f 28 true 59 rfl rfl) ?_
                  refine R.skip (.f 28 true 59 rfl rfl) ?_
                  refine R.flo (Gd.t 24 true 55 rfl rfl) (Y.pickT rfl rfl) ?_
                  refine R.flo Gd.no (Y.pickT rfl rfl) ?_
                  refine R.flo Gd.no (Y.assign rfl) ?_
                  refine R.nil ?_
                  refine Tri.weak (Weak.to [2] [] rfl) ?_
                  refine Tri.ret ?_
                  have hx := Option.some.inj hr
                  subst hx
                  exact ⟨.inl rfl, _, .inr (.inl ⟨_, _, rfl, rfl, rfl⟩), ⟨rfl, rfl⟩⟩
            · rw [hb20]; replace hr := cond_t hb20 hr
              refine R.skip (.f 18 true 49 rfl rfl) ?_
              refine R.skip (.f 18 true 49 rfl rfl) ?_
              refine R.skip (.f 18 true 49 rfl rfl) ?_
              refine R.flo (Gd.t 16 true 47 rfl rfl) (Y.pickT rfl rfl) ?_
              refine R.flo Gd.no (Y.pickT rfl rfl) ?_
              refine R.flo Gd.no (Y.move rfl) ?_
              refine R.flo (Gd.t 24 true 55 rfl rfl) (Y.fieldP Tryz.fo89_0 rfl) ?_
              refine R.flo (Gd.t 24 true 55 rfl rfl) (Y.loadB1 rfl 0 rfl rfl Tryz.isAgg3) ?_
              refine R.flo (Gd.t 24 true 55 rfl rfl) (Y.eqlI rfl rfl) ?_
              refine R.flo (Gd.t 24 true 55 rfl rfl) (Y.move rfl) ?_
              refine TOps.part (b := decide (v.kind = (7 : Int))) (fun bhb21 hb21 => ?_)
              cases bhb21
              · rw [hb21]; replace hr := cond_f hb21 hr
                refine R.flo (Gd.t 28 false 59 rfl rfl) (Y.fieldP Tryz.fo89_4 rfl) ?_
                refine R.flo (Gd.t 28 false 59 rfl rfl) (Y.loadB1 rfl 0 rfl rfl Tryz.isAgg87) ?_
                refine TOps.fact (Fact.lenR (x := .tmp 61) (n := v.items.length) rfl (encItems_length _)) (fun hl22 => ?_)
                refine R.flo (Gd.t 28 false 59 rfl rfl) (Y.lenR (m := v.items.length) Tryz.underlying87 rfl rfl (encItems_length _)) ?_
                refine R.flo (Gd.t 28 false 59 rfl rfl) (Y.eqlI rfl rfl) ?_
                refine R.flo (Gd.t 24 true 55 rfl rfl) (Y.pickF rfl rfl) ?_
                refine R.flo Gd.no (Y.pickT rfl rfl) ?_
                refine R.flo Gd.no (Y.assign rfl) ?_
                refine R.nil ?_
                refine Tri.weak (Weak.to [2] [] rfl) ?_
                refine Tri.ret ?_
                have hx := Option.some.inj hr
                subst hx
                exact ⟨.inl rfl, _, .inr (.inl ⟨_, _, rfl, rfl, rfl⟩), ⟨rfl, rfl⟩⟩
              · rw [hb21]; replace hr := cond_t hb21 hr
                refine R.skip (.f 28 true 59 rfl rfl) ?_
                refine R.skip (.f 28 true 59 rfl rfl) ?_
                refine R.skip (.f 28 true 59 rfl rfl) ?_
                refine R.skip (.f 28 true 59 rfl rfl) ?_
                refine R.flo (Gd.t 24 true 55 rfl rfl) (Y.pickT rfl rfl) ?_
                refine R.flo Gd.no (Y.pickT rfl rfl) ?_
                refine R.flo Gd.no (Y.assign rfl) ?_
                refine R.nil ?_
                refine Tri.weak (Weak.to [2] [] rfl) ?_
                refine Tri.ret ?_
                have hx := Option.some.inj hr
                subst hx
                exact ⟨.inl rfl, _, .inr (.inl ⟨_, _, rfl, rfl, rfl⟩), ⟨rfl, rfl⟩⟩
        · rw [hb12]; replace hr := cond_t hb12 hr
          refine R.skip (.f 10 true 41 rfl rfl) ?_
          refine R.skip (.f 10 true 41 rfl rfl) ?_
          refine R.skip (.f 10 true 41 rfl rfl) ?_
          refine R.flo (Gd.t 6 true 37 rfl rfl) (Y.pickT rfl rfl) ?_
          refine R.flo Gd.no (Y.pickT rfl rfl) ?_
          refine R.flo Gd.no (Y.move rfl) ?_
          refine R.flo (Gd.t 16 true 47 rfl rfl) (Y.move rfl) ?_
          refine R.flo (Gd.t 16 true 47 rfl rfl) (Y.move rfl) ?_
          refine TOps.part (b := s9) (fun bhb13 hb13 => ?_)
          cases bhb13
          · rw [hb13]; replace hr := cond_f hb13 hr
            refine R.flo (Gd.t 18 false 49 rfl rfl) (Y.fieldP Tryz.fo89_3 rfl) ?_
            refine R.flo (Gd.t 18 false 49 rfl rfl) (Y.loadB1 rfl 0 rfl rfl Tryz.isAgg9) ?_
            refine R.flo (Gd.t 18 false 49 rfl rfl) (Y.eqlS rfl rfl) ?_
            refine R.flo (Gd.t 16 true 47 rfl rfl) (Y.pickF rfl rfl) ?_
            refine R.flo Gd.no (Y.pickT rfl rfl) ?_
            refine R.flo Gd.no (Y.move rfl) ?_
            refine TOps.part (b := decide (v.text = ([] : Bytes))) (fun bhb16 hb16 => ?_)
            cases bhb16
            · rw [hb16]; replace hr := cond_f hb16 hr
              refine R.skip (.f 24 false 55 rfl rfl) ?_
              refine R.skip (.f 24 false 55 rfl rfl) ?_
              refine R.skip (.f 24 false 55 rfl rfl) ?_
              refine R.skip (.f 24 false 55 rfl rfl) ?_
              refine R.skip (.u 28 false 59 rfl rfl) ?_
              refine R.skip (.u 28 false 59 rfl rfl) ?_
              refine R.skip (.u 28 false 59 rfl rfl) ?_
              refine R.skip (.u 28 false 59 rfl rfl) ?_
              refine R.skip (.f 24 false 55 rfl rfl) ?_
              refine R.flo Gd.no (Y.pickF rfl rfl) ?_
              refine R.flo Gd.no (Y.assign rfl) ?_
              refine R.nil ?_
              refine Tri.weak (Weak.to [2] [] rfl) ?_
              refine Tri.ret ?_
              have hx := Option.some.inj hr
              subst hx
              exact ⟨.inl rfl, _, .inr (.inl ⟨_, _, rfl, rfl, rfl⟩), ⟨rfl, rfl⟩⟩
            · rw [hb16]; replace hr := cond_t hb16 hr
              refine R.flo (Gd.t 24 true 55 rfl rfl) (Y.fieldP Tryz.fo89_0 rfl) ?_
              refine R.flo (Gd.t 24 true 55 rfl rfl) (Y.loadB1 rfl 0 rfl rfl Tryz.isAgg3) ?_
              refine R.flo (Gd.t 24 true 55 rfl rfl) (Y.eqlI rfl rfl) ?_
              refine R.flo (Gd.t 24 true 55 rfl rfl) (Y.move rfl) ?_
              refine TOps.part (b := decide (v.kind = (7 : Int))) (fun bhb17 hb17 => ?_)
              cases bhb17
              · rw [hb17]; replace hr := cond_f hb17 hr
                refine R.flo (Gd.t 28 false 59 rfl rfl) (Y.fieldP Tryz.fo89_4 rfl) ?_
                refine R.flo (Gd.t 28 false 59 rfl rfl) (Y.loadB1 rfl 0 rfl rfl Tryz.isAgg87) ?_
                refine TOps.fact (Fact.lenR (x := .tmp 61) (n := v.items.length) rfl (encItems_length _)) (fun hl18 => ?_)
                refine R.flo (Gd.t 28 false 59 rfl rfl) (Y.lenR (m := v.items.length) Tryz.underlying87 rfl rfl (encItems_length _)) ?_
                refine R.flo (Gd.t 28 false 59 rfl rfl) (Y.eqlI rfl rfl) ?_
                refine R.flo (Gd.t 24 true 55 rfl rfl) (Y.pickF rfl rfl) ?_
                refine R.flo Gd.no (Y.pickT rfl rfl) ?_
                refine R.flo Gd.no (Y.assign rfl) ?_
                refine R.nil ?_
                refine Tri.weak (Weak.to [2] [] rfl) ?_
                refine Tri.ret ?_
                have hx := Option.some.inj hr
                subst hx
                exact ⟨.inl rfl, _, .inr (.inl ⟨_, _, rfl, rfl, rfl⟩), ⟨rfl, rfl⟩⟩
              · rw [hb17]; replace hr := cond_t hb17 hr
                refine R.skip (.f 28 true 59 rfl rfl) ?_
                refine R.skip (.f 28 true 59 rfl rfl) ?_
                refine R.skip (.f 28 true 59 rfl rfl) ?_
                refine R.skip (.f 28 true 59 rfl rfl) ?_
                refine R.flo (Gd.t 24 true 55 rfl rfl) (Y.pickT rfl rfl) ?_
                refine R.flo Gd.no (Y.pickT rfl rfl) ?_
                refine R.flo Gd.no (Y.assign rfl) ?_
                refine R.nil ?_
                refine Tri.weak (Weak.to [2] [] rfl) ?_
                refine Tri.ret ?_
                have hx := Option.some.inj hr
                subst hx
                exact ⟨.inl rfl, _, .inr (.inl ⟨_, _, rfl, rfl, rfl⟩), ⟨rfl, rfl⟩⟩
          · rw [hb13]; replace hr := cond_t hb13 hr
            refine R.skip (.f 18 true 49 rfl rfl) ?_
            refine R.skip (.f 18 true 49 rfl rfl) ?_
            refine R.skip (.f 18 true 49 rfl rfl) ?_
            refine R.flo (Gd.t 16 true 47 rfl rfl) (Y.pickT rfl rfl) ?_
            refine R.flo Gd.no (Y.pickT rfl rfl) ?_
            refine R.flo Gd.no (Y.move rfl) ?_
            refine R.flo (Gd.t 24 true 55 rfl rfl) (Y.fieldP Tryz.fo89_0 rfl) ?_
            refine R.flo (Gd.t 24 true 55 rfl rfl) (Y.loadB1 rfl 0 rfl rfl Tryz.isAgg3) ?_
            refine R.flo (Gd.t 24 true 55 rfl rfl) (Y.eqlI rfl rfl) ?_
            refine R.flo (Gd.t 24 true 55 rfl rfl) (Y.move rfl) ?_
            refine TOps.part (b := decide (v.kind = (7 : Int))) (fun bhb14 hb14 => ?_)
            cases bhb14
            · rw [hb14]; replace hr := cond_f hb14 hr
              refine R.flo (Gd.t 28 false 59 rfl rfl) (Y.fieldP Tryz.fo89_4 rfl) ?_
              refine R.flo (Gd.t 28 false 59 rfl rfl) (Y.loadB1 rfl 0 rfl rfl Tryz.isAgg87) ?_
              refine TOps.fact (Fact.lenR (x := .tmp 61) (n := v.items.length) rfl (encItems_length _)) (fun hl15 => ?_)
              refine R.flo (Gd.t 28 false 59 rfl rfl) (Y.lenR (m := v.items.length) Tryz.underlying87 rfl rfl (encItems_length _)) ?_
              refine R.flo (Gd.t 28 false 59 rfl rfl) (Y.eqlI rfl rfl) ?_
              refine R.flo (Gd.t 24 true 55 rfl rfl) (Y.pickF rfl rfl) ?_
              refine R.flo Gd.no (Y.pickT rfl rfl) ?_
              refine R.flo Gd.no (Y.assign rfl) ?_
              refine R.nil ?_
              refine Tri.weak (Weak.to [2] [] rfl) ?_
              refine Tri.ret ?_
              have hx := Option.some.inj hr
              subst hx
              exact ⟨.inl rfl, _, .inr (.inl ⟨_, _, rfl, rfl, rfl⟩), ⟨rfl, rfl⟩⟩
            · rw [hb14]; replace hr := cond_t hb14 hr
              refine R.skip (.f 28 true 59 rfl rfl) ?_
              refine R.skip (.f 28 true 59 rfl rfl) ?_
              refine R.skip (.f 28 true 59 rfl rfl) ?_
              refine R.skip (.f 28 true 59 rfl rfl) ?_
              refine R.flo (Gd.t 24 true 55 rfl rfl) (Y.pickT rfl rfl) ?_
              refine R.flo Gd.no (Y.pickT rfl rfl) ?_
              refine R.flo Gd.no (Y.assign rfl) ?_
              refine R.nil ?_
              refine Tri.weak (Weak.to [2] [] rfl) ?_
              refine Tri.ret ?_
              have hx := Option.some.inj hr
              subst hx
              exact ⟨.inl rfl, _, .inr (.inl ⟨_, _, rfl, rfl, rfl⟩), ⟨rfl, rfl⟩⟩
theorem ok_prop_checkNumbers {v : PVal} {r : Int} (hr : f_prop_checkNumbers v = some r) (nx : Nat) : OkH Tryz.prog 98 [.agg [.c (.lit (.int .i64 v.kind)), .c (.lit (.int .i64 v.int)), .c (.lit (.int .i64 v.to)), .c (.lit (str v.text)), .c (.ro 5 false (encItems v))]] [] nx fun v H' _ => v = .v (.one (.c (.lit (.int .i64 r)))) ∧ H' = [] := by
  refine OkH.intro Tryz.func98 rfl Tryz.ntmps98 (by simp) ?_
  unfold f_prop_checkNumbers at hr
  refine Tri.seq ?_
  refine Tri.region ?_
  refine R.eff Gd.no (E.box (cs := [.c (.lit (.int .i64 v.kind)), .c (.lit (.int .i64 v.int)), .c (.lit (.int .i64 v.to)), .c (.lit (str v.text)), .c (.ro 5 false (encItems v))]) rfl rfl rfl) ?_
  refine R.flo Gd.no (Y.assign rfl) ?_
  refine R.nil ?_
  refine Tri.seq ?_
  refine Tri.seq ?_
  refine Tri.region ?_
  refine R.flo Gd.no (Y.fieldP Tryz.fo89_0 rfl) ?_
  refine R.flo Gd.no (Y.loadB1 rfl 0 rfl rfl Tryz.isAgg3) ?_
  refine R.nil ?_
  refine Tri.block ?_
  refine Tri.seq ?_
  refine Tri.region ?_
  refine R.flo Gd.no (Y.eqlI rfl rfl) ?_
  refine R.flo Gd.no (Y.assign rfl) ?_
  refine R.nil ?_
  refine Tri.cond rfl (fun hc1 => ?_) (fun hc1 => ?_)
  · replace hr := cond_t hc1 hr
    refine Tri.seq ?_
    refine Tri.region ?_
    refine R.flo Gd.no (Y.fieldP Tryz.fo89_1 rfl) ?_
    refine R.flo Gd.no (Y.loadB1 rfl 0 rfl rfl Tryz.isAgg3) ?_
    replace hr := bind_inv hr
    obtain ⟨r2, hcr2, hr⟩ := hr
    refine R.call (H1 := []) (H2 := [(nx, .box 89 [.c (.lit (.int .i64 v.kind)), .c (.lit (.int .i64 v.int)), .c (.lit (.int .i64 v.to)), .c (.lit (str v.text)), .c (.ro 5 false (encItems v))])]) Gd.no Tryz.en96 rfl (ok_prop_outside hcr2 (nx + 1)) (perm_idx [0] rfl) (fun _ _ nx_3 hq => ?_)
    obtain ⟨rfl, rfl⟩ := hq
    refine R.nil ?_
    refine Tri.cond rfl (fun hc4 => ?_) (fun hc4 => ?_)
    · replace hr := cond_t hc4 hr
      refine Tri.seq ?_
      refine Tri.region ?_
      refine R.flo Gd.no (Y.assign rfl) ?_
      refine R.nil ?_
      refine Tri.weak (Weak.to [2] [] rfl) ?_
      refine Tri.ret ?_
      have hx := Option.some.inj hr
      subst hx
      exact ⟨.inl rfl, _, .inr (.inl ⟨_, _, rfl, rfl, rfl⟩), ⟨rfl, rfl⟩⟩
    · replace hr := cond_f hc4 hr
      refine Tri.skip ?_
      refine Tri.seq ?_
      refine Tri.region ?_
      refine R.flo Gd.no (Y.assign rfl) ?_
      refine R.nil ?_
      refine Tri.weak (Weak.to [2] [] rfl) ?_
      refine Tri.ret ?_
      have hx := Option.some.inj hr
      subst hx
      exact ⟨.inl rfl, _, .inr (.inl ⟨_, _, rfl, rfl, rfl⟩), ⟨rfl, rfl⟩⟩
  · replace hr := cond_f hc1 hr
    refine Tri.seq ?_
    refine Tri.region ?_
    refine R.flo Gd.no (Y.eqlI rfl rfl) ?_
    refine R.flo Gd.no (Y.assign rfl) ?_
    refine R.nil ?_
    refine Tri.cond rfl (fun hc5 => ?_) (fun hc5 => ?_)
    · replace hr := cond_t hc5 hr
      refine Tri.seq ?_
      refine Tri.region ?_
      refine R.flo Gd.no (Y.fieldP Tryz.fo89_1 rfl) ?_
      refine R.flo Gd.no (Y.loadB1 rfl 0 rfl rfl Tryz.isAgg3) ?_
      replace hr := bind_inv hr
      obtain ⟨r6, hcr6, hr⟩ := hr
      refine R.call (H1 := []) (H2 := [(nx, .box 89 [.c (.lit (.int .i64 v.kind)), .c (.lit (.int .i64 v.int)), .c (.lit (.int .i64 v.to)), .c (.lit (str v.text)), .c (.ro 5 false (encItems v))])]) Gd.no Tryz.en96 rfl (ok_prop_outside hcr6 (nx + 1)) (perm_idx [0] rfl) (fun _ _ nx_7 hq => ?_)
      obtain ⟨rfl, rfl⟩ := hq
      refine R.nil ?_
      refine Tri.cond rfl (fun hc8 => ?_) (fun hc8 => ?_)
      · replace hr := cond_t hc8 hr
        refine Tri.seq ?_
        refine Tri.region ?_
        refine R.flo Gd.no (Y.assign rfl) ?_
        refine R.nil ?_
        refine Tri.weak (Weak.to [2] [] rfl) ?_
        refine Tri.ret ?_
        have hx := Option.some.inj hr
        subst hx
        exact ⟨.inl rfl, _, .inr (.inl ⟨_, _, rfl, rfl, rfl⟩), ⟨rfl, rfl⟩⟩
      · replace hr := cond_f hc8 hr
        refine Tri.skip ?_
        refine Tri.seq ?_
        refine Tri.region ?_
        refine R.flo Gd.no (Y.assign rfl) ?_
        refine R.nil ?_
        refine Tri.weak (Weak.to [2] [] rfl) ?_
        refine Tri.ret ?_
        have hx := Option.some.inj hr
        subst hx
        exact ⟨.inl rfl, _, .inr (.inl ⟨_, _, rfl, rfl, rfl⟩), ⟨rfl, rfl⟩⟩
    · replace hr := cond_f hc5 hr
      refine Tri.seq ?_
      refine Tri.region ?_
      refine R.flo Gd.no (Y.eqlI rfl rfl) ?_
      refine R.flo Gd.no (Y.assign rfl) ?_
      refine R.nil ?_
      refine Tri.cond rfl (fun hc9 => ?_) (fun hc9 => ?_)
      · replace hr := cond_t hc9 hr
        refine Tri.seq ?_
        refine Tri.region ?_
        refine R.flo Gd.no (Y.fieldP Tryz.fo89_1 rfl) ?_
        refine R.flo Gd.no (Y.loadB1 rfl 0 rfl rfl Tryz.isAgg3) ?_
        replace hr := bind_inv hr
        obtain ⟨r10, hcr10, hr⟩ := hr
        refine R.call (H1 := []) (H2 := [(nx, .box 89 [.c (.lit (.int .i64 v.kind)), .c (.lit (.int .i64 v.int)), .c (.lit (.int .i64 v.to)), .c (.lit (str v.text)), .c (.ro 5 false (encItems v))])]) Gd.no Tryz.en96 rfl (ok_prop_outside hcr10 (nx + 1)) (perm_idx [0] rfl) (fun _ _ nx_11 hq => ?_)
        obtain ⟨rfl, rfl⟩ := hq
        refine R.nil ?_
        refine Tri.cond rfl (fun hc12 => ?_) (fun hc12 => ?_)
        · replace hr := cond_t hc12 hr
          refine Tri.seq ?_
          refine Tri.region ?_
          refine R.flo Gd.no (Y.assign rfl) ?_
          refine R.nil ?_
          refine Tri.weak (Weak.to [2] [] rfl) ?_
          refine Tri.ret ?_
          have hx := Option.some.inj hr
          subst hx
          exact ⟨.inl rfl, _, .inr (.inl ⟨_, _, rfl, rfl, rfl⟩), ⟨rfl, rfl⟩⟩
        · replace hr := cond_f hc12 hr
          refine Tri.skip ?_
          refine Tri.seq ?_
          refine Tri.region ?_
          refine R.flo Gd.no (Y.assign rfl) ?_
          refine R.nil ?_
          refine Tri.weak (Weak.to [2] [] rfl) ?_
          refine Tri.ret ?_
          have hx := Option.some.inj hr
          subst hx
          exact ⟨.inl rfl, _, .inr (.inl ⟨_, _, rfl, rfl, rfl⟩), ⟨rfl, rfl⟩⟩
      · replace hr := cond_f hc9 hr
        refine Tri.seq ?_
        refine Tri.region ?_
        refine R.flo Gd.no (Y.eqlI rfl rfl) ?_
        refine R.flo Gd.no (Y.assign rfl) ?_
        refine R.nil ?_
        refine Tri.cond rfl (fun hc13 => ?_) (fun hc13 => ?_)
        · replace hr := cond_t hc13 hr
          refine Tri.seq ?_
          replace hr := bind_inv hr
          obtain ⟨x19, hr, hox19⟩ := hr
          refine Tri.meet (α := Bool × Nat) (fun ⟨s20, nx_21⟩ => s20 = x19) (fun ⟨s20, nx_21⟩ => ⟨35, [(1, some (.v (.one (.ptr nx 0 0)))), (29, some (.v (.one (.c (.lit (.bool s20))))))], [(nx, .box 89 [.c (.lit (.int .i64 v.kind)), .c (.lit (.int .i64 v.int)), .c (.lit (.int .i64 v.to)), .c (.lit (str v.text)), .c (.ro 5 false (encItems v))])], nx_21⟩) ?_ (fun ⟨s20, nx_21⟩ hx => ?_)
          · refine Tri.region ?_
            refine R.flo Gd.no (Y.fieldP Tryz.fo89_1 rfl) ?_
            refine R.flo Gd.no (Y.loadB1 rfl 0 rfl rfl Tryz.isAgg3) ?_
            replace hr := bind_inv hr
            obtain ⟨r14, hcr14, hr⟩ := hr
            refine R.call (H1 := []) (H2 := [(nx, .box 89 [.c (.lit (.int .i64 v.kind)), .c (.lit (.int .i64 v.int)), .c (.lit (.int .i64 v.to)), .c (.lit (str v.text)), .c (.ro 5 false (encItems v))])]) Gd.no Tryz.en96 rfl (ok_prop_outside hcr14 (nx + 1)) (perm_idx [0] rfl) (fun _ _ nx_15 hq => ?_)
            obtain ⟨rfl, rfl⟩ := hq
            refine R.flo Gd.no (Y.move rfl) ?_
            refine TOps.part (b := r14) (fun bhb16 hb16 => ?_)
            cases bhb16
            · rw [hb16]; replace hr := cond_f hb16 hr
              refine R.flo (Gd.t 3 false 25 rfl rfl) (Y.fieldP Tryz.fo89_2 rfl) ?_
              refine R.flo (Gd.t 3 false 25 rfl rfl) (Y.loadB1 rfl 0 rfl rfl Tryz.isAgg3) ?_
              replace hr := bind_inv hr
              obtain ⟨r17, hcr17, hr⟩ := hr
              refine R.call (H1 := []) (H2 := [(nx, .box 89 [.c (.lit (.int .i64 v.kind)), .c (.lit (.int .i64 v.int)), .c (.lit (.int .i64 v.to)), .c (.lit (str v.text)), .c (.ro 5 false (encItems v))])]) (Gd.t 3 false 25 rfl rfl) Tryz.en96 rfl (ok_prop_outside hcr17 nx_15) (perm_idx [0] rfl) (fun _ _ nx_18 hq => ?_)
              obtain ⟨rfl, rfl⟩ := hq
              refine R.flo Gd.no (Y.pickF rfl rfl) ?_
              refine R.nil ?_
              have hx := Option.some.inj hr
              subst hx
              refine meet_mk ⟨r17, nx_18⟩ rfl (Weak.to [1, 29] [0] rfl)
            · rw [hb16]; replace hr := cond_t hb16 hr
              refine R.skip (.f 3 true 25 rfl rfl) ?_
              refine R.skip (.f 3 true 25 rfl rfl) ?_
              refine R.skip (.f 3 true 25 rfl rfl) ?_
              refine R.flo Gd.no (Y.pickT rfl rfl) ?_
              refine R.nil ?_
              have hx := Option.some.inj hr
              subst hx
              refine meet_mk ⟨true, nx_15⟩ rfl (Weak.to [1, 29] [0] rfl)
          · subst hx
            have hr := hox19
            refine Tri.cond rfl (fun hc22 => ?_) (fun hc22 => ?_)
            · replace hr := cond_t hc22 hr
              refine Tri.seq ?_
              refine Tri.region ?_
              refine R.flo Gd.no (Y.assign rfl) ?_
              refine R.nil ?_
              refine Tri.weak (Weak.to [2] [] rfl) ?_
              refine Tri.ret ?_
              have hx := Option.some.inj hr
              subst hx
              exact ⟨.inl rfl, _, .inr (.inl ⟨_, _, rfl, rfl, rfl⟩), ⟨rfl, rfl⟩⟩
            · replace hr := cond_f hc22 hr
              refine Tri.skip ?_
              refine Tri.seq ?_
              refine Tri.region ?_
              refine R.flo Gd.no (Y.fieldP Tryz.fo89_2 rfl) ?_
              refine R.flo Gd.no (Y.loadB1 rfl 0 rfl rfl Tryz.isAgg3) ?_
              refine R.flo Gd.no (Y.fieldP Tryz.fo89_1 rfl) ?_
              refine R.flo Gd.no (Y.loadB1 rfl 0 rfl rfl Tryz.isAgg3) ?_
              refine R.flo Gd.no (Y.lssI rfl rfl) ?_
              refine R.nil ?_
              refine Tri.cond rfl (fun hc23 => ?_) (fun hc23 => ?_)
              · replace hr := cond_t hc23 hr
                refine Tri.seq ?_
                refine Tri.region ?_
                refine R.flo Gd.no (Y.assign rfl) ?_
                refine R.nil ?_
                refine Tri.weak (Weak.to [2] [] rfl) ?_
                refine Tri.ret ?_
                have hx := Option.some.inj hr
                subst hx
                exact ⟨.inl rfl, _, .inr (.inl ⟨_, _, rfl, rfl, rfl⟩), ⟨rfl, rfl⟩⟩
              · replace hr := cond_f hc23 hr
                refine Tri.skip ?_
                refine Tri.seq ?_
                refine Tri.region ?_
                refine R.flo Gd.no (Y.assign rfl) ?_
                refine R.nil ?_
                refine Tri.weak (Weak.to [2] [] rfl) ?_
                refine Tri.ret ?_
                have hx := Option.some.inj hr
                subst hx
                exact ⟨.inl rfl, _, .inr (.inl ⟨_, _, rfl, rfl, rfl⟩), ⟨rfl, rfl⟩⟩
        · replace hr := cond_f hc13 hr
          refine Tri.skip ?_
          refine Tri.seq ?_
          refine Tri.region ?_
          refine R.flo Gd.no (Y.assign rfl) ?_
          refine R.nil ?_
          refine Tri.weak (Weak.to [2] [] rfl) ?_
          refine Tri.ret ?_
          have hx := Option.some.inj hr
          subst hx
          exact ⟨.inl rfl, _, .inr (.inl ⟨_, _, rfl, rfl, rfl⟩), ⟨rfl, rfl⟩⟩
theorem ok_prop_hasControl_1 {r : Int} {r_ : Bool} (hr : f_prop_hasControl_1 r = some r_) (nx : Nat) : OkH Tryz.prog 117 [.one (.c (.lit (.int .i32 r)))] [] nx fun v H' _ => v = .v (.one (.c (.lit (.bool r_)))) ∧ H' = [] := by
  refine OkH.intro Tryz.func117 rfl Tryz.ntmps117 (by simp) ?_
  unfold f_prop_hasControl_1 at hr
  refine Tri.seq ?_
  refine Tri.region ?_
  refine R.flo Gd.no (Y.assign rfl) ?_
  refine R.nil ?_
  refine Tri.seq ?_
  refine Tri.region ?_
  refine R.flo Gd.no (Y.move rfl) ?_
  refine R.flo Gd.no (Y.lssI rfl rfl) ?_
  refine R.flo Gd.no (Y.move rfl) ?_
  refine TOps.part (b := decide (r < (32 : Int))) (fun bhb1 hb1 => ?_)
  cases bhb1
  · rw [hb1]; replace hr := cond_f hb1 hr
    refine R.flo (Gd.t 2 false 5 rfl rfl) (Y.move rfl) ?_
    refine R.flo (Gd.t 2 false 5 rfl rfl) (Y.eqlI rfl rfl) ?_
    refine R.flo Gd.no (Y.pickF rfl rfl) ?_
    refine R.flo Gd.no (Y.assign rfl) ?_
    refine R.nil ?_
    refine Tri.ret ?_
    have hx := Option.some.inj hr
    subst hx
    exact ⟨.inl rfl, _, .inr (.inl ⟨_, _, rfl, rfl, rfl⟩), ⟨rfl, rfl⟩⟩
  · rw [hb1]; replace hr := cond_t hb1 hr
    refine R.skip (.f 2 true 5 rfl rfl) ?_
    refine R.skip (.f 2 true 5 rfl rfl) ?_
    refine R.flo Gd.no (Y.pickT rfl rfl) ?_
    refine R.flo Gd.no (Y.assign rfl) ?_
    refine R.nil ?_
    refine Tri.ret ?_
    have hx := Option.some.inj hr
    subst hx
    exact ⟨.inl rfl, _, .inr (.inl ⟨_, _, rfl, rfl, rfl⟩), ⟨rfl, rfl⟩⟩
theorem ok_strings_indexFunc_b3fb {s : Bytes} {r : Int} (hr : f_strings_indexFunc_b3fb s = some r) (nx : Nat) : OkH Tryz.prog 124 [.one (.c (.lit (str s))), .one (.fn 117 []), .one (.c (.lit (.bool true)))] [] nx fun v H' _ => v = .v (.one (.c (.lit (.int .i64 r)))) ∧ H' = [] := by
  refine OkH.intro Tryz.func124 rfl Tryz.ntmps124 (by simp) ?_
  unfold f_strings_indexFunc_b3fb at hr
  refine Tri.seq ?_
  refine Tri.region ?_
  refine R.flo Gd.no (Y.assign rfl) ?_
  refine R.nil ?_
  refine Tri.seq ?_
  refine Tri.seq ?_
  refine Tri.region ?_
  refine R.flo Gd.no (Y.move rfl) ?_
  refine R.eff Gd.no (E.rangeS Tryz.underlying9 rfl) ?_
  refine R.nil ?_
  replace hr := bind_inv hr
  obtain ⟨x7, hr, hox7⟩ := hr
  refine Tri.meet1 (α := Unit × Nat) (fun ⟨s8, nx_9⟩ => (.inl s8) = x7) (fun ⟨s8, nx_9⟩ => ⟨21, [], [], nx_9⟩) ?_ (fun ⟨s8, nx_9⟩ hx => ?_)
  · refine Tri.block ?_
    refine Tri.loop (α := Nat × Nat × Nat) (fun ⟨fuel12, v1, nx_2⟩ => f_strings_indexFunc_b3fb_l1 s fuel12 v1 = some x7) (fun ⟨fuel12, v1, nx_2⟩ => ⟨21, [(1, some (.v (.one (.fn 117 [])))), (2, some (.v (.one (.c (.lit (.bool true)))))), (10, some (.v (.one (.obj nx))))], [(nx, .iter s v1)], nx_2⟩) (fun ⟨fuel12, v1, nx_2⟩ => fuel12) ⟨FUEL, 0, nx + 1⟩ ?_ (Weak.to [1, 2, 10] [0] rfl) ?_
    · exact hr
    · rintro ⟨fuel12, v1, nx_2⟩ (hr : f_strings_indexFunc_b3fb_l1 s fuel12 v1 = some x7)
      cases fuel12 with
      | zero => rw [f_strings_indexFunc_b3fb_l1] at hr; cases hr
      | succ fuel12 =>
        rw [f_strings_indexFunc_b3fb_l1] at hr
        refine Tri.seq ?_
        refine Tri.region ?_
        by_cases hp3 : v1 < s.length
        · replace hr := cond_t (decide_eq_true hp3) hr
          refine R.eff Gd.no (E.nextT 0 rfl rfl hp3) ?_
          refine R.flo Gd.no (Y.extract rfl rfl) ?_
          refine R.nil ?_
          refine Tri.seq ?_
          refine Tri.condT rfl ?_
          refine Tri.skip ?_
          refine Tri.block ?_
          refine Tri.seq ?_
          refine Tri.region ?_
          refine R.flo Gd.no (Y.extract rfl rfl) ?_
          refine R.flo Gd.no (Y.extract rfl rfl) ?_
          refine R.flo Gd.no (Y.assign rfl) ?_
          refine R.flo Gd.no (Y.assign rfl) ?_
          refine R.nil ?_
          refine Tri.seq ?_
          refine Tri.region ?_
          refine R.flo Gd.no (Y.move rfl) ?_
          refine R.flo Gd.no (Y.move rfl) ?_
          replace hr := bind_inv hr
          obtain ⟨r4, hcr4, hr⟩ := hr
          refine R.callV (H1 := []) (H2 := [(nx, .iter s (v1 + (runeAt s v1).2))]) Gd.no Tryz.en117 rfl rfl (ok_prop_hasControl_1 hcr4 nx_2) (perm_idx [0] rfl) (fun _ _ nx_5 hq => ?_)
          obtain ⟨rfl, rfl⟩ := hq
          refine R.flo Gd.no (Y.move rfl) ?_
          refine R.flo Gd.no (Y.eqlB Tryz.underlying4 rfl rfl) ?_
          refine R.nil ?_
          refine Tri.cond rfl (fun hc6 => ?_) (fun hc6 => ?_)
          · replace hr := cond_t hc6 hr
            refine Tri.seq ?_
            refine Tri.region ?_
            refine R.flo Gd.no (Y.move rfl) ?_
            refine R.flo Gd.no (Y.assign rfl) ?_
            refine R.nil ?_
            have hx := Option.some.inj hr
            subst hx
            have hr := sum_r hox7
            refine Tri.weak (Weak.to [6] [] rfl) ?_
            refine Tri.ret ?_
            have hx := Option.some.inj hr
            subst hx
            exact ⟨.inl rfl, _, .inr (.inl ⟨_, _, rfl, rfl, rfl⟩), ⟨rfl, rfl⟩⟩
          · replace hr := cond_f hc6 hr
            refine Tri.skip ?_
            refine back_mk ⟨fuel12, v1 + (runeAt s v1).2, nx_5⟩ hr (Nat.lt_succ_self _) (Weak.to [1, 2, 10] [0] rfl)
        · replace hr := cond_f (decide_eq_false hp3) hr
          refine R.flo Gd.no (Y.nextF 0 rfl rfl hp3) ?_
          refine R.flo Gd.no (Y.extract rfl rfl) ?_
          refine R.nil ?_
          refine Tri.seq ?_
          refine Tri.condF rfl ?_
          refine Tri.exit ?_
          have hx := Option.some.inj hr
          subst hx
          refine meet_mk ⟨(), nx_2⟩ rfl (Weak.to [] [] rfl)
  · subst hx
    have hr := sum_l hox7
    refine Tri.seq ?_
    refine Tri.region ?_
    refine R.flo Gd.no (Y.assign rfl) ?_
    refine R.nil ?_
    refine Tri.ret ?_
    have hx := Option.some.inj hr
    subst hx
    exact ⟨.inl rfl, _, .inr (.inl ⟨_, _, rfl, rfl, rfl⟩), ⟨rfl, rfl⟩⟩
theorem ok_strings_IndexFunc_bb48 {s : Bytes} {r : Int} (hr : f_strings_IndexFunc_bb48 s = some r) (nx : Nat) : OkH Tryz.prog 119 [.one (.c (.lit (str s))), .one (.fn 117 [])] [] nx fun v H' _ => v = .v (.one (.c (.lit (.int .i64 r)))) ∧ H' = [] := by
  refine OkH.intro Tryz.func119 rfl Tryz.ntmps119 (by simp) ?_
  unfold f_strings_IndexFunc_bb48 at hr
  refine Tri.seq ?_
  refine Tri.region ?_
  refine R.flo Gd.no (Y.assign rfl) ?_
  refine R.nil ?_
  refine Tri.seq ?_
  refine Tri.region ?_
  refine R.flo Gd.no (Y.move rfl) ?_
  refine R.flo Gd.no (Y.move rfl) ?_
  replace hr := bind_inv hr
  obtain ⟨r1, hcr1, hr⟩ := hr
  refine R.call (H1 := []) (H2 := []) Gd.no Tryz.en124 rfl (ok_strings_indexFunc_b3fb hcr1 nx) (perm_idx [] rfl) (fun _ _ nx_2 hq => ?_)
  obtain ⟨rfl, rfl⟩ := hq
  refine R.flo Gd.no (Y.assign rfl) ?_
  refine R.nil ?_
  refine Tri.ret ?_
  have hx := Option.some.inj hr
  subst hx
  exact ⟨.inl rfl, _, .inr (.inl ⟨_, _, rfl, rfl, rfl⟩), ⟨rfl, rfl⟩⟩
theorem ok_strings_ContainsFunc_bb48 {s : Bytes} {r : Bool} (hr : f_strings_ContainsFunc_bb48 s = some r) (nx : Nat) : OkH Tryz.prog 116 [.one (.c (.lit (str s))), .one (.fn 117 [])] [] nx fun v H' _ => v = .v (.one (.c (.lit (.bool r)))) ∧ H' = [] := by
  refine OkH.intro Tryz.func116 rfl Tryz.ntmps116 (by simp) ?_
  unfold f_strings_ContainsFunc_bb48 at hr
  refine Tri.seq ?_
  refine Tri.region ?_
  refine R.flo Gd.no (Y.assign rfl) ?_
  refine R.nil ?_
  refine Tri.seq ?_
  refine Tri.region ?_
  refine R.flo Gd.no (Y.move rfl) ?_
  refine R.flo Gd.no (Y.move rfl) ?_
  replace hr := bind_inv hr
  obtain ⟨r1, hcr1, hr⟩ := hr
  refine R.call (H1 := []) (H2 := []) Gd.no Tryz.en119 rfl (ok_strings_IndexFunc_bb48 hcr1 nx) (perm_idx [] rfl) (fun _ _ nx_2 hq => ?_)
  obtain ⟨rfl, rfl⟩ := hq
  refine R.flo Gd.no (Y.geqI rfl rfl) ?_
  refine R.flo Gd.no (Y.assign rfl) ?_
  refine R.nil ?_
  refine Tri.ret ?_
  have hx := Option.some.inj hr
  subst hx
  exact ⟨.inl rfl, _, .inr (.inl ⟨_, _, rfl, rfl, rfl⟩), ⟨rfl, rfl⟩⟩
theorem ok_prop_hasControl {s : Bytes} {r : Bool} (hr : f_prop_hasControl s = some r) (nx : Nat) : OkH Tryz.prog 111 [.one (.c (.lit (str s)))] [] nx fun v H' _ => v = .v (.one (.c (.lit (.bool r)))) ∧ H' = [] := by
  refine OkH.intro Tryz.func111 rfl Tryz.ntmps111 (by simp) ?_
  unfold f_prop_hasControl at hr
  refine Tri.seq ?_
  refine Tri.region ?_
  refine R.flo Gd.no (Y.assign rfl) ?_
  refine R.nil ?_
  refine Tri.seq ?_
  refine Tri.region ?_
  refine R.flo Gd.no (Y.move rfl) ?_
  replace hr := bind_inv hr
  obtain ⟨r1, hcr1, hr⟩ := hr
  refine R.call (H1 := []) (H2 := []) Gd.no Tryz.en116 rfl (ok_strings_ContainsFunc_bb48 hcr1 nx) (perm_idx [] rfl) (fun _ _ nx_2 hq => ?_)
  obtain ⟨rfl, rfl⟩ := hq
  refine R.flo Gd.no (Y.assign rfl) ?_
  refine R.nil ?_
  refine Tri.ret ?_
  have hx := Option.some.inj hr
  subst hx
  exact ⟨.inl rfl, _, .inr (.inl ⟨_, _, rfl, rfl, rfl⟩), ⟨rfl, rfl⟩⟩
theorem ok_strings_shouldUseASCIISet {bufLen : Int} {r : Bool} (hr : f_strings_shouldUseASCIISet bufLen = some r) (nx : Nat) : OkH Tryz.prog 121 [.one (.c (.lit (.int .i64 bufLen)))] [] nx fun v H' _ => v = .v (.one (.c (.lit (.bool r)))) ∧ H' = [] := by
  refine OkH.intro Tryz.func121 rfl Tryz.ntmps121 (by simp) ?_
  unfold f_strings_shouldUseASCIISet at hr
  refine Tri.seq ?_
  refine Tri.region ?_
  refine R.flo Gd.no (Y.assign rfl) ?_
  refine R.nil ?_
  refine Tri.seq ?_
  refine Tri.region ?_
  refine R.flo Gd.no (Y.move rfl) ?_
  refine R.flo Gd.no (Y.gtrI rfl rfl) ?_
  refine R.flo Gd.no (Y.assign rfl) ?_
  refine R.nil ?_
  refine Tri.ret ?_
  have hx := Option.some.inj hr
  subst hx
  exact ⟨.inl rfl, _, .inr (.inl ⟨_, _, rfl, rfl, rfl⟩), ⟨rfl, rfl⟩⟩
theorem ok_strings_makeASCIISet_6248 {r : Bool} (hr : f_strings_makeASCIISet_6248 = some r) (nx : Nat) : OkH Tryz.prog 122 [.one (.c (.lit (str ([91, 93, 124] : Bytes))))] [] nx fun v H' _ => v = .tup [.agg [.c (.lit (.bool false)), .c (.lit (.bool false)), .c (.lit (.bool false)), .c (.lit (.bool false)), .c (.lit (.bool false)), .c (.lit (.bool false)), .c (.lit (.bool false)), .c (.lit (.bool false)), .c (.lit (.bool false)), .c (.lit (.bool false)), .c (.lit (.bool false)), .c (.lit (.bool false)), .c (.lit (.bool false)), .c (.lit (.bool false)), .c (.lit (.bool false)), .c (.lit (.bool false)), .c (.lit (.bool false)), .c (.lit (.bool false)), .c (.lit (.bool false)), .c (.lit (.bool false)), .c (.lit (.bool false)), .c (.lit (.bool false)), .c (.lit (.bool false)), .c (.lit (.bool false)), .c (.lit (.bool false)), .c (.lit (.bool false)), .c (.lit (.bool false)), .c (.lit (.bool false)), .c (.lit (.bool false)), .c (.lit (.bool false)), .c (.lit (.bool false)), .c (.lit (.bool false)), .c (.lit (.bool false)), .c (.lit (.bool false)), .c (.lit (.bool false)), .c (.lit (.bool false)), .c (.lit (.bool false)), .c (.lit (.bool false)), .c (.lit (.bool false)), .c (.lit (.bool false)), .c (.lit (.bool false)), .c (.lit (.bool false)), .c (.lit (.bool false)), .c (.lit (.bool false)), .c (.lit (.bool false)), .c (.lit (.bool false)), .c (.lit (.bool false)), .c (.lit (.bool false)), .c (.lit (.bool false)), .c (.lit (.bool false)), .c (.lit (.bool false)), .c (.lit (.bool false)), .c (.lit (.bool false)), .c (.lit (.bool false)), .c (.lit (.bool false)), .c (.lit (.bool false)), .c (.lit (.bool false)), .c (.lit (.bool false)), .c (.lit (.bool false)), .c (.lit (.bool false)), .c (.lit (.bool false)), .c (.lit (.bool false)), .c (.lit (.bool false)), .c (.lit (.bool false)), .c (.lit (.bool false)), .c (.lit (.bool false)), .c (.lit (.bool false)), .c (.lit (.bool false)), .c (.lit (.bool false)), .c (.lit (.bool false)), .c (.lit (.bool false)), .c (.lit (.bool false)), .c (.lit (.bool false)), .c (.lit (.bool false)), .c (.lit (.bool false)), .c (.lit (.bool false)), .c (.lit (.bool false)), .c (.lit (.bool false)), .c (.lit (.bool false)), .c (.lit (.bool false)), .c (.lit (.bool false)), .c (.lit (.bool false)), .c (.lit (.bool false)), .c (.lit (.bool false)), .c (.lit (.bool false)), .c (.lit (.bool false)), .c (.lit (.bool false)), .c (.lit (.bool false)), .c (.lit (.bool false)), .c (.lit (.bool false)), .c (.lit (.bool false)), .c (.lit (.bool true)), .c (.lit (.bool false)), .c (.lit (.bool true)), .c (.lit (.bool false)), .c (.lit (.bool false)), .c (.lit (.bool false)), .c (.lit (.bool false)), .c (.lit (.bool false)), .c (.lit (.bool false)), .c (.lit (.bool false)), .c (.lit (.bool false)), .c (.lit (.bool false)), .c (.lit (.bool false)), .c (.lit (.bool false)), .c (.lit (.bool false)), .c (.lit (.bool false)), .c (.lit (.bool false)), .c (.lit (.bool false)), .c (.lit (.bool false)), .c (.lit (.bool false)), .c (.lit (.bool false)), .c (.lit (.bool false)), .c (.lit (.bool false)), .c (.lit (.bool false)), .c (.lit (.bool false)), .c (.lit (.bool false)), .c (.lit (.bool false)), .c (.lit (.bool false)), .c (.lit (.bool false)), .c (.lit (.bool false)), .c (.lit (.bool false)), .c (.lit (.bool false)), .c (.lit (.bool false)), .c (.lit (.bool true)), .c (.lit (.bool false)), .c (.lit (.bool false)), .c (.lit (.bool false)), .c (.lit (.bool false)), .c (.lit (.bool false)), .c (.lit (.bool false)), .c (.lit (.bool false)), .c (.lit (.bool false)), .c (.lit (.bool false)), .c (.lit (.bool false)), .c (.lit (.bool false)), .c (.lit (.bool false)), .c (.lit (.bool false)), .c (.lit (.bool false)), .c (.lit (.bool false)), .c (.lit (.bool false)), .c (.lit (.bool false)), .c (.lit (.bool false)), .c (.lit (.bool false)), .c (.lit (.bool false)), .c (.lit (.bool false)), .c (.lit (.bool false)), .c (.lit (.bool false)), .c (.lit (.bool false)), .c (.lit (.bool false)), .c (.lit (.bool false)), .c (.lit (.bool false)), .c (.lit (.bool false)), .c (.lit (.bool false)), .c (.lit (.bool false)), .c (.lit (.bool false)), .c (.lit (.bool false)), .c (.lit (.bool false)), .c (.lit (.bool false)), .c (.lit (.bool false)), .c (.lit (.bool false)), .c (.lit (.bool false)), .c (.lit (.bool false)), .c (.lit (.bool false)), .c (.lit (.bool false)), .c (.lit (.bool false)), .c (.lit (.bool false)), .c (.lit (.bool false)), .c (.lit (.bool false)), .c (.lit (.bool false)), .c (.lit (.bool false)), .c (.lit (.bool false)), .c (.lit (.bool false)), .c (.lit (.bool false)), .c (.lit (.bool false)), .c (.lit (.bool false)), .c (.lit (.bool false)), .c (.lit (.bool false)), .c (.lit (.bool false)), .c (.lit (.bool false)), .c (.lit (.bool false)), .c (.lit (.bool false)), .c (.lit (.bool false)), .c (.lit (.bool false)), .c (.lit (.bool false)), .c (.lit (.bool false)), .c (.lit (.bool false)), .c (.lit (.bool false)), .c (.lit (.bool false)), .c (.lit (.bool false)), .c (.lit (.bool false)), .c (.lit (.bool false)), .c (.lit (.bool false)), .c (.lit (.bool false)), .c (.lit (.bool false)), .c (.lit (.bool false)), .c (.lit (.bool false)), .c (.lit (.bool false)), .c (.lit (.bool false)), .c (.lit (.bool false)), .c (.lit (.bool false)), .c (.lit (.bool false)), .c (.lit (.bool false)), .c (.lit (.bool false)), .c (.lit (.bool false)), .c (.lit (.bool false)), .c (.lit (.bool false)), .c (.lit (.bool false)), .c (.lit (.bool false)), .c (.lit (.bool false)), .c (.lit (.bool false)), .c (.lit (.bool false)), .c (.lit (.bool false)), .c (.lit (.bool false)), .c (.lit (.bool false)), .c (.lit (.bool false)), .c (.lit (.bool false)), .c (.lit (.bool false)), .c (.lit (.bool false)), .c (.lit (.bool false)), .c (.lit (.bool false)), .c (.lit (.bool false)), .c (.lit (.bool false)), .c (.lit (.bool false)), .c (.lit (.bool false)), .c (.lit (.bool false)), .c (.lit (.bool false)), .c (.lit (.bool false)), .c (.lit (.bool false)), .c (.lit (.bool false)), .c (.lit (.bool false)), .c (.lit (.bool false)), .c (.lit (.bool false)), .c (.lit (.bool false)), .c (.lit (.bool false)), .c (.lit (.bool false)), .c (.lit (.bool false)), .c (.lit (.bool false)), .c (.lit (.bool false)), .c (.lit (.bool false)), .c (.lit (.bool false)), .c (.lit (.bool false)), .c (.lit (.bool false)), .c (.lit (.bool false)), .c (.lit (.bool false)), .c (.lit (.bool false)), .c (.lit (.bool false)), .c (.lit (.bool false)), .c (.lit (.bool false)), .c (.lit (.bool false)), .c (.lit (.bool false)), .c (.lit (.bool false)), .c (.lit (.bool false)), .c (.lit (.bool false)), .c (.lit (.bool false)), .c (.lit (.bool false))], .one (.c (.lit (.bool r)))] ∧ H' = [] := by
  refine OkH.sub ?_
  refine OkH.intro Tryz.func122 rfl Tryz.ntmps122 (by simp) ?_
  unfold f_strings_makeASCIISet_6248 at hr
  refine Tri.seq ?_
  refine Tri.region ?_
  refine R.eff Gd.no (E.alloc (cs := [.c (.lit (.bool false)), .c (.lit (.bool false)), .c (.lit (.bool false)), .c (.lit (.bool false)), .c (.lit (.bool false)), .c (.lit (.bool false)), .c (.lit (.bool false)), .c (.lit (.bool false)), .c (.lit (.bool false)), .c (.lit (.bool false)), .c (.lit (.bool false)), .c (.lit (.bool false)), .c (.lit (.bool false)), .c (.lit (.bool false)), .c (.lit (.bool false)), .c (.lit (.bool false)), .c (.lit (.bool false)), .c (.lit (.bool false)), .c (.lit (.bool false)), .c (.lit (.bool false)), .c (.lit (.bool false)), .c (.lit (.bool false)), .c (.lit (.bool false)), .c (.lit (.bool false)), .c (.lit (.bool false)), .c (.lit (.bool false)), .c (.lit (.bool false)), .c (.lit (.bool false)), .c (.lit (.bool false)), .c (.lit (.bool false)), .c (.lit (.bool false)), .c (.lit (.bool false)), .c (.lit (.bool false)), .c (.lit (.bool false)), .c (.lit (.bool false)), .c (.lit (.bool false)), .c (.lit (.bool false)), .c (.lit (.bool false)), .c (.lit (.bool false)), .c (.lit (.bool false)), .c (.lit (.bool false)), .c (.lit (.bool false)), .c (.lit (.bool false)), .c (.lit (.bool false)), .c (.lit (.bool false)), .c (.lit (.bool false)), .c (.lit (.bool false)), .c (.lit (.bool false)), .c (.lit (.bool false)), .c (.lit (.bool false)), .c (.lit (.bool false)), .c (.lit (.bool false)), .c (.lit (.bool false)), .c (.lit (.bool false)), .c (.lit (.bool false)), .c (.lit (.bool false)), .c (.lit (.bool false)), .c (.lit (.bool false)), .c (.lit (.bool false)), .c (.lit (.bool false)), .c (.lit (.bool false)), .c (.lit (.bool false)), .c (.lit (.bool false)), .c (.lit (.bool false)), .c (.lit (.bool false)), .c (.lit (.bool false)), .c (.lit (.bool false)), .c (.lit (.bool false)), .c (.lit (.bool false)), .c (.lit (.bool false)), .c (.lit (.bool false)), .c (.lit (.bool false)), .c (.lit (.bool false)), .c (.lit (.bool false)), .c (.lit (.bool false)), .c (.lit (.bool false)), .c (.lit (.bool false)), .c (.lit (.bool false)), .c (.lit (.bool false)), .c (.lit (.bool false)), .c (.lit (.bool false)), .c (.lit (.bool false)), .c (.lit (.bool false)), .c (.lit (.bool false)), .c (.lit (.bool false)), .c (.lit (.bool false)), .c (.lit (.bool false)), .c (.lit (.bool false)), .c (.lit (.bool false)), .c (.lit (.bool false)), .c (.lit (.bool false)), .c (.lit (.bool false)), .c (.lit (.bool false)), .c (.lit (.bool false)), .c (.lit (.bool false)), .c (.lit (.bool false)), .c (.lit (.bool false)), .c (.lit (.bool false)), .c (.lit (.bool false)), .c (.lit (.bool false)), .c (.lit (.bool false)), .c (.lit (.bool false)), .c (.lit (.bool false)), .c (.lit (.bool false)), .c (.lit (.bool false)), .c (.lit (.bool false)), .c (.lit (.bool false)), .c (.lit (.bool false)), .c (.lit (.bool false)), .c (.lit (.bool false)), .c (.lit (.bool false)), .c (.lit (.bool false)), .c (.lit (.bool false)), .c (.lit (.bool false)), .c (.lit (.bool false)), .c (.lit (.bool false)), .c (.lit (.bool false)), .c (.lit (.bool false)), .c (.lit (.bool false)), .c (.lit (.bool false)), .c (.lit (.bool false)), .c (.lit (.bool false)), .c (.lit (.bool false)), .c (.lit (.bool false)), .c (.lit (.bool false)), .c (.lit (.bool false)), .c (.lit (.bool false)), .c (.lit (.bool false)), .c (.lit (.bool false)), .c (.lit (.bool false)), .c (.lit (.bool false)), .c (.lit (.bool false)), .c (.lit (.bool false)), .c (.lit (.bool false)), .c (.lit (.bool false)), .c (.lit (.bool false)), .c (.lit (.bool false)), .c (.lit (.bool false)), .c (.lit (.bool false)), .c (.lit (.bool false)), .c (.lit (.bool false)), .c (.lit (.bool false)), .c (.lit (.bool false)), .c (.lit (.bool false)), .c (.lit (.bool false)), .c (.lit (.bool false)), .c (.lit (.bool false)), .c (.lit (.bool false)), .c (.lit (.bool false)), .c (.lit (.bool false)), .c (.lit (.bool false)), .c (.lit (.bool false)), .c (.lit (.bool false)), .c (.lit (.bool false)), .c (.lit (.bool false)), .c (.lit (.bool false)), .c (.lit (.bool false)), .c (.lit (.bool false)), .c (.lit (.bool false)), .c (.lit (.bool false)), .c (.lit (.bool false)), .c (.lit (.bool false)), .c (.lit (.bool false)), .c (.lit (.bool false)), .c (.lit (.bool false)), .c (.lit (.bool false)), .c (.lit (.bool false)), .c (.lit (.bool false)), .c (.lit (.bool false)), .c (.lit (.bool false)), .c (.lit (.bool false)), .c (.lit (.bool false)), .c (.lit (.bool false)), .c (.lit (.bool false)), .c (.lit (.bool false)), .c (.lit (.bool false)), .c (.lit (.bool false)), .c (.lit (.bool false)), .c (.lit (.bool false)), .c (.lit (.bool false)), .c (.lit (.bool false)), .c (.lit (.bool false)), .c (.lit (.bool false)), .c (.lit (.bool false)), .c (.lit (.bool false)), .c (.lit (.bool false)), .c (.lit (.bool false)), .c (.lit (.bool false)), .c (.lit (.bool false)), .c (.lit (.bool false)), .c (.lit (.bool false)), .c (.lit (.bool false)), .c (.lit (.bool false)), .c (.lit (.bool false)), .c (.lit (.bool false)), .c (.lit (.bool false)), .c (.lit (.bool false)), .c (.lit (.bool false)), .c (.lit (.bool false)), .c (.lit (.bool false)), .c (.lit (.bool false)), .c (.lit (.bool false)), .c (.lit (.bool false)), .c (.lit (.bool false)), .c (.lit (.bool false)), .c (.lit (.bool false)), .c (.lit (.bool false)), .c (.lit (.bool false)), .c (.lit (.bool false)), .c (.lit (.bool false)), .c (.lit (.bool false)), .c (.lit (.bool false)), .c (.lit (.bool false)), .c (.lit (.bool false)), .c (.lit (.bool false)), .c (.lit (.bool false)), .c (.lit (.bool false)), .c (.lit (.bool false)), .c (.lit (.bool false)), .c (.lit (.bool false)), .c (.lit (.bool false)), .c (.lit (.bool false)), .c (.lit (.bool false)), .c (.lit (.bool false)), .c (.lit (.bool false)), .c (.lit (.bool false)), .c (.lit (.bool false)), .c (.lit (.bool false)), .c (.lit (.bool false)), .c (.lit (.bool false)), .c (.lit (.bool false)), .c (.lit (.bool false)), .c (.lit (.bool false)), .c (.lit (.bool false)), .c (.lit (.bool false)), .c (.lit (.bool false)), .c (.lit (.bool false)), .c (.lit (.bool false)), .c (.lit (.bool false)), .c (.lit (.bool false)), .c (.lit (.bool false)), .c (.lit (.bool false)), .c (.lit (.bool false)), .c (.lit (.bool false)), .c (.lit (.bool false)), .c (.lit (.bool false)), .c (.lit (.bool false)), .c (.lit (.bool false)), .c (.lit (.bool false)), .c (.lit (.bool false)), .c (.lit (.bool false)), .c (.lit (.bool false)), .c (.lit (.bool false)), .c (.lit (.bool false)), .c (.lit (.bool false)), .c (.lit (.bool false))]) Tryz.et153.zero Tryz.et153.one (by rfl)) ?_
  refine R.flo Gd.no (Y.assign rfl) ?_
  refine R.nil ?_
  refine Tri.seq ?_
  refine Tri.seq ?_
  refine Tri.region ?_
  refine R.flo Gd.no (Y.assign rfl) ?_
  refine R.nil ?_
  refine Tri.block ?_
  refine Tri.rounds 4 ?_
  refine RT.one ?_
  refine Tri.seq ?_
  refine Tri.seq ?_
  refine Tri.region ?_
  refine R.flo Gd.no (Y.move rfl) ?_
  refine R.flo Gd.no (Y.move rfl) ?_
  refine R.flo Gd.no (Y.lenS Tryz.underlying9 rfl rfl) ?_
  refine R.flo Gd.no (Y.lssI rfl rfl) ?_
  refine R.nil ?_
  refine Tri.condT rfl ?_
  refine Tri.skip ?_
  refine Tri.seq ?_
  refine Tri.block ?_
  refine Tri.seq ?_
  refine Tri.region ?_
  refine R.flo Gd.no (Y.move rfl) ?_
  refine R.flo Gd.no (Y.move rfl) ?_
  refine R.flo Gd.no (Y.idxS 0 Tryz.underlying9 rfl rfl rfl) ?_
  refine R.flo Gd.no (Y.assign rfl) ?_
  refine R.nil ?_
  refine Tri.seq ?_
  refine Tri.seq ?_
  refine Tri.region ?_
  refine R.flo Gd.no (Y.move rfl) ?_
  refine R.flo Gd.no (Y.geqI rfl rfl) ?_
  refine R.nil ?_
  refine Tri.condF rfl ?_
  refine Tri.skip ?_
  refine Tri.region ?_
  refine R.flo Gd.no (Y.move rfl) ?_
  refine R.flo Gd.no (Y.idxA (m := 91) 91 Tryz.underlying153 Tryz.sizeOf4 rfl rfl (by decide) (by decide)) ?_
  refine R.eff Gd.no (E.storeB 0 rfl rfl rfl rfl Tryz.sizeOf4 rfl rfl rfl) ?_
  refine R.nil ?_
  refine Tri.region ?_
  refine R.flo Gd.no (Y.move rfl) ?_
  refine R.flo Gd.no (Y.addI rfl rfl (by decide) (by decide)) ?_
  refine R.flo Gd.no (Y.assign rfl) ?_
  refine R.nil ?_
  refine RT.one ?_
  refine Tri.seq ?_
  refine Tri.seq ?_
  refine Tri.region ?_
  refine R.flo Gd.no (Y.move rfl) ?_
  refine R.flo Gd.no (Y.move rfl) ?_
  refine R.flo Gd.no (Y.lenS Tryz.underlying9 rfl rfl) ?_
  refine R.flo Gd.no (Y.lssI rfl rfl) ?_
  refine R.nil ?_
  refine Tri.condT rfl ?_
  refine Tri.skip ?_
  refine Tri.seq ?_
  refine Tri.block ?_
  refine Tri.seq ?_
  refine Tri.region ?_
  refine R.flo Gd.no (Y.move rfl) ?_
  refine R.flo Gd.no (Y.move rfl) ?_
  refine R.flo Gd.no (Y.idxS 1 Tryz.underlying9 rfl rfl rfl) ?_
  refine R.flo Gd.no (Y.assign rfl) ?_
  refine R.nil ?_
  refine Tri.seq ?_
  refine Tri.seq ?_
  refine Tri.region ?_
  refine R.flo Gd.no (Y.move rfl) ?_
  refine R.flo Gd.no (Y.geqI rfl rfl) ?_
  refine R.nil ?_
  refine Tri.condF rfl ?_
  refine Tri.skip ?_
  refine Tri.region ?_
  refine R.flo Gd.no (Y.move rfl) ?_
  refine R.flo Gd.no (Y.idxA (m := 93) 93 Tryz.underlying153 Tryz.sizeOf4 rfl rfl (by decide) (by decide)) ?_
  refine R.eff Gd.no (E.storeB 0 rfl rfl rfl rfl Tryz.sizeOf4 rfl rfl rfl) ?_
  refine R.nil ?_
  refine Tri.region ?_
  refine R.flo Gd.no (Y.move rfl) ?_
  refine R.flo Gd.no (Y.addI rfl rfl (by decide) (by decide)) ?_
  refine R.flo Gd.no (Y.assign rfl) ?_
  refine R.nil ?_
  refine RT.one ?_
  refine Tri.seq ?_
  refine Tri.seq ?_
  refine Tri.region ?_
  refine R.flo Gd.no (Y.move rfl) ?_
  refine R.flo Gd.no (Y.move rfl) ?_
  refine R.flo Gd.no (Y.lenS Tryz.underlying9 rfl rfl) ?_
  refine R.flo Gd.no (Y.lssI rfl rfl) ?_
  refine R.nil ?_
  refine Tri.condT rfl ?_
  refine Tri.skip ?_
  refine Tri.seq ?_
  refine Tri.block ?_
  refine Tri.seq ?_
  refine Tri.region ?_
  refine R.flo Gd.no (Y.move rfl) ?_
  refine R.flo Gd.no (Y.move rfl) ?_
  refine R.flo Gd.no (Y.idxS 2 Tryz.underlying9 rfl rfl rfl) ?_
  refine R.flo Gd.no (Y.assign rfl) ?_
  refine R.nil ?_
  refine Tri.seq ?_
  refine Tri.seq ?_
  refine Tri.region ?_
  refine R.flo Gd.no (Y.move rfl) ?_
  refine R.flo Gd.no (Y.geqI rfl rfl) ?_
  refine R.nil ?_
  refine Tri.condF rfl ?_
  refine Tri.skip ?_
  refine Tri.region ?_
  refine R.flo Gd.no (Y.move rfl) ?_
  refine R.flo Gd.no (Y.idxA (m := 124) 124 Tryz.underlying153 Tryz.sizeOf4 rfl rfl (by decide) (by decide)) ?_
  refine R.eff Gd.no (E.storeB 0 rfl rfl rfl rfl Tryz.sizeOf4 rfl rfl rfl) ?_
  refine R.nil ?_
  refine Tri.region ?_
  refine R.flo Gd.no (Y.move rfl) ?_
  refine R.flo Gd.no (Y.addI rfl rfl (by decide) (by decide)) ?_
  refine R.flo Gd.no (Y.assign rfl) ?_
  refine R.nil ?_
  refine RT.one ?_
  refine Tri.seq ?_
  refine Tri.seq ?_
  refine Tri.region ?_
  refine R.flo Gd.no (Y.move rfl) ?_
  refine R.flo Gd.no (Y.move rfl) ?_
  refine R.flo Gd.no (Y.lenS Tryz.underlying9 rfl rfl) ?_
  refine R.flo Gd.no (Y.lssI rfl rfl) ?_
  refine R.nil ?_
  refine Tri.condF rfl ?_
  refine Tri.exit ?_
  refine Tri.seq ?_
  refine Tri.region ?_
  refine R.flo Gd.no (Y.loadBN rfl 0 rfl Tryz.isAgg153 Tryz.sizeOf153 rfl rfl) ?_
  refine R.eff Gd.no (E.storeB 0 rfl rfl rfl rfl Tryz.sizeOf153 rfl rfl rfl) ?_
  refine R.flo Gd.no (Y.assign rfl) ?_
  refine R.nil ?_
  refine Tri.ret ?_
  have hx := Option.some.inj hr
  subst hx
  exact ⟨.inl rfl, _, .inr (.inr (.inl ⟨_, _, _, _, rfl, ⟨_, _, rfl, (Leads.box 0 rfl), .inr ⟨_, Tryz.isAgg153, Tryz.sizeOf153, Nat.le_of_ble_eq_true rfl, rfl⟩⟩, rfl, rfl⟩)), ⟨_, List.take_sublist 0 _, ⟨rfl, rfl⟩⟩⟩
theorem ok_strings_asciiSet_contains_124d {c : Int} {r : Bool} (hr : f_strings_asciiSet_contains_124d c = some r) (o : Nat) (nx : Nat) : OkH Tryz.prog 123 [.one (.ptr o 0 0), .one (.c (.lit (.int .u8 c)))] [(o, .box 153 [.c (.lit (.bool false)), .c (.lit (.bool false)), .c (.lit (.bool false)), .c (.lit (.bool false)), .c (.lit (.bool false)), .c (.lit (.bool false)), .c (.lit (.bool false)), .c (.lit (.bool false)), .c (.lit (.bool false)), .c (.lit (.bool false)), .c (.lit (.bool false)), .c (.lit (.bool false)), .c (.lit (.bool false)), .c (.lit (.bool false)), .c (.lit (.bool false)), .c (.lit (.bool false)), .c (.lit (.bool false)), .c (.lit (.bool false)), .c (.lit (.bool false)), .c (.lit (.bool false)), .c (.lit (.bool false)), .c (.lit (.bool false)), .c (.lit (.bool false)), .c (.lit (.bool false)), .c (.lit (.bool false)), .c (.lit (.bool false)), .c (.lit (.bool false)), .c (.lit (.bool false)), .c (.lit (.bool false)), .c (.lit (.bool false)), .c (.lit (.bool false)), .c (.lit (.bool false)), .c (.lit (.bool false)), .c (.lit (.bool false)), .c (.lit (.bool false)), .c (.lit (.bool false)), .c (.lit (.bool false)), .c (.lit (.bool false)), .c (.lit (.bool false)), .c (.lit (.bool false)), .c (.lit (.bool false)), .c (.lit (.bool false)), .c (.lit (.bool false)), .c (.lit (.bool false)), .c (.lit (.bool false)), .c (.lit (.bool false)), .c (.lit (.bool false)), .c (.lit (.bool false)), .c (.lit (.bool false)), .c (.lit (.bool false)), .c (.lit (.bool false)), .c (.lit (.bool false)), .c (.lit (.bool false)), .c (.lit (.bool false)), .c (.lit (.bool false)), .c (.lit (.bool false)), .c (.lit (.bool false)), .c (.lit (.bool false)), .c (.lit (.bool false)), .c (.lit (.bool false)), .c (.lit (.bool false)), .c (.lit (.bool false)), .c (.lit (.bool false)), .c (.lit (.bool false)), .c (.lit (.bool false)), .c (.lit (.bool false)), .c (.lit (.bool false)), .c (.lit (.bool false)), .c (.lit (.bool false)), .c (.lit (.bool false)), .c (.lit (.bool false)), .c (.lit (.bool false)), .c (.lit (.bool false)), .c (.lit (.bool false)), .c (.lit (.bool false)), .c (.lit (.bool false)), .c (.lit (.bool false)), .c (.lit (.bool false)), .c (.lit (.bool false)), .c (.lit (.bool false)), .c (.lit (.bool false)), .c (.lit (.bool false)), .c (.lit (.bool false)), .c (.lit (.bool false)), .c (.lit (.bool false)), .c (.lit (.bool false)), .c (.lit (.bool false)), .c (.lit (.bool false)), .c (.lit (.bool false)), .c (.lit (.bool false)), .c (.lit (.bool false)), .c (.lit (.bool true)), .c (.lit (.bool false)), .c (.lit (.bool true)), .c (.lit (.bool false)), .c (.lit (.bool false)), .c (.lit (.bool false)), .c (.lit (.bool false)), .c (.lit (.bool false)), .c (.lit (.bool false)), .c (.lit (.bool false)), .c (.lit (.bool false)), .c (.lit (.bool false)), .c (.lit (.bool false)), .c (.lit (.bool false)), .c (.lit (.bool false)), .c (.lit (.bool false)), .c (.lit (.bool false)), .c (.lit (.bool false)), .c (.lit (.bool false)), .c (.lit (.bool false)), .c (.lit (.bool false)), .c (.lit (.bool false)), .c (.lit (.bool false)), .c (.lit (.bool false)), .c (.lit (.bool false)), .c (.lit (.bool false)), .c (.lit (.bool false)), .c (.lit (.bool false)), .c (.lit (.bool false)), .c (.lit (.bool false)), .c (.lit (.bool false)), .c (.lit (.bool false)), .c (.lit (.bool false)), .c (.lit (.bool true)), .c (.lit (.bool false)), .c (.lit (.bool false)), .c (.lit (.bool false)), .c (.lit (.bool false)), .c (.lit (.bool false)), .c (.lit (.bool false)), .c (.lit (.bool false)), .c (.lit (.bool false)), .c (.lit (.bool false)), .c (.lit (.bool false)), .c (.lit (.bool false)), .c (.lit (.bool false)), .c (.lit (.bool false)), .c (.lit (.bool false)), .c (.lit (.bool false)), .c (.lit (.bool false)), .c (.lit (.bool false)), .c (.lit (.bool false)), .c (.lit (.bool false)), .c (.lit (.bool false)), .c (.lit (.bool false)), .c (.lit (.bool false)), .c (.lit (.bool false)), .c (.lit (.bool false)), .c (.lit (.bool false)), .c (.lit (.bool false)), .c (.lit (.bool false)), .c (.lit (.bool false)), .c (.lit (.bool false)), .c (.lit (.bool false)), .c (.lit (.bool false)), .c (.lit (.bool false)), .c (.lit (.bool false)), .c (.lit (.bool false)), .c (.lit (.bool false)), .c (.lit (.bool false)), .c (.lit (.bool false)), .c (.lit (.bool false)), .c (.lit (.bool false)), .c (.lit (.bool false)), .c (.lit (.bool false)), .c (.lit (.bool false)), .c (.lit (.bool false)), .c (.lit (.bool false)), .c (.lit (.bool false)), .c (.lit (.bool false)), .c (.lit (.bool false)), .c (.lit (.bool false)), .c (.lit (.bool false)), .c (.lit (.bool false)), .c (.lit (.bool false)), .c (.lit (.bool false)), .c (.lit (.bool false)), .c (.lit (.bool false)), .c (.lit (.bool false)), .c (.lit (.bool false)), .c (.lit (.bool false)), .c (.lit (.bool false)), .c (.lit (.bool false)), .c (.lit (.bool false)), .c (.lit (.bool false)), .c (.lit (.bool false)), .c (.lit (.bool false)), .c (.lit (.bool false)), .c (.lit (.bool false)), .c (.lit (.bool false)), .c (.lit (.bool false)), .c (.lit (.bool false)), .c (.lit (.bool false)), .c (.lit (.bool false)), .c (.lit (.bool false)), .c (.lit (.bool false)), .c (.lit (.bool false)), .c (.lit (.bool false)), .c (.lit (.bool false)), .c (.lit (.bool false)), .c (.lit (.bool false)), .c (.lit (.bool false)), .c (.lit (.bool false)), .c (.lit (.bool false)), .c (.lit (.bool false)), .c (.lit (.bool false)), .c (.lit (.bool false)), .c (.lit (.bool false)), .c (.lit (.bool false)), .c (.lit (.bool false)), .c (.lit (.bool false)), .c (.lit (.bool false)), .c (.lit (.bool false)), .c (.lit (.bool false)), .c (.lit (.bool false)), .c (.lit (.bool false)), .c (.lit (.bool false)), .c (.lit (.bool false)), .c (.lit (.bool false)), .c (.lit (.bool false)), .c (.lit (.bool false)), .c (.lit (.bool false)), .c (.lit (.bool false)), .c (.lit (.bool false)), .c (.lit (.bool false)), .c (.lit (.bool false)), .c (.lit (.bool false)), .c (.lit (.bool false)), .c (.lit (.bool false)), .c (.lit (.bool false)), .c (.lit (.bool false)), .c (.lit (.bool false)), .c (.lit (.bool false)), .c (.lit (.bool false)), .c (.lit (.bool false)), .c (.lit (.bool false)), .c (.lit (.bool false)), .c (.lit (.bool false)), .c (.lit (.bool false)), .c (.lit (.bool false)), .c (.lit (.bool false)), .c (.lit (.bool false)), .c (.lit (.bool false)), .c (.lit (.bool false)), .c (.lit (.bool false)), .c (.lit (.bool false)), .c (.lit (.bool false)), .c (.lit (.bool false)), .c (.lit (.bool false)), .c (.lit (.bool false)), .c (.lit (.bool false)), .c (.lit (.bool false)), .c (.lit (.bool false)), .c (.lit (.bool false)), .c (.lit (.bool false))])] nx fun v H' _ => v = .v (.one (.c (.lit (.bool r)))) ∧ H' = [(o, .box 153 [.c (.lit (.bool false)), .c (.lit (.bool false)), .c (.lit (.bool false)), .c (.lit (.bool false)), .c (.lit (.bool false)), .c (.lit (.bool false)), .c (.lit (.bool false)), .c (.lit (.bool false)), .c (.lit (.bool false)), .c (.lit (.bool false)), .c (.lit (.bool false)), .c (.lit (.bool false)), .c (.lit (.bool false)), .c (.lit (.bool false)), .c (.lit (.bool false)), .c (.lit (.bool false)), .c (.lit (.bool false)), .c (.lit (.bool false)), .c (.lit (.bool false)), .c (.lit (.bool false)), .c (.lit (.bool false)), .c (.lit (.bool false)), .c (.lit (.bool false)), .c (.lit (.bool false)), .c (.lit (.bool false)), .c (.lit (.bool false)), .c (.lit (.bool false)), .c (.lit (.bool false)), .c (.lit (.bool false)), .c (.lit (.bool false)), .c (.lit (.bool false)), .c (.lit (.bool false)), .c (.lit (.bool false)), .c (.lit (.bool false)), .c (.lit (.bool false)), .c (.lit (.bool false)), .c (.lit (.bool false)), .c (.lit (.bool false)), .c (.lit (.bool false)), .c (.lit (.bool false)), .c (.lit (.bool false)), .c (.lit (.bool false)), .c (.lit (.bool false)), .c (.lit (.bool false)), .c (.lit (.bool false)), .c (.lit (.bool false)), .c (.lit (.bool false)), .c (.lit (.bool false)), .c (.lit (.bool false)), .c (.lit (.bool false)), .c (.lit (.bool false)), .c (.lit (.bool false)), .c (.lit (.bool false)), .c (.lit (.bool false)), .c (.lit (.bool false)), .c (.lit (.bool false)), .c (.lit (.bool false)), .c (.lit (.bool false)), .c (.lit (.bool false)), .c (.lit (.bool false)), .c (.lit (.bool false)), .c (.lit (.bool false)), .c (.lit (.bool false)), .c (.lit (.bool false)), .c (.lit (.bool false)), .c (.lit (.bool false)), .c (.lit (.bool false)), .c (.lit (.bool false)), .c (.lit (.bool false)), .c (.lit (.bool false)), .c (.lit (.bool false)), .c (.lit (.bool false)), .c (.lit (.bool false)), .c (.lit (.bool false)), .c (.lit (.bool false)), .c (.lit (.bool false)), .c (.lit (.bool false)), .c (.lit (.bool false)), .c (.lit (.bool false)), .c (.lit (.bool false)), .c (.lit (.bool false)), .c (.lit (.bool false)), .c (.lit (.bool false)), .c (.lit (.bool false)), .c (.lit (.bool false)), .c (.lit (.bool false)), .c (.lit (.bool false)), .c (.lit (.bool false)), .c (.lit (.bool false)), .c (.lit (.bool false)), .c (.lit (.bool false)), .c (.lit (.bool true)), .c (.lit (.bool false)), .c (.lit (.bool true)), .c (.lit (.bool false)), .c (.lit (.bool false)), .c (.lit (.bool false)), .c (.lit (.bool false)), .c (.lit (.bool false)), .c (.lit (.bool false)), .c (.lit (.bool false)), .c (.lit (.bool false)), .c (.lit (.bool false)), .c (.lit (.bool false)), .c (.lit (.bool false)), .c (.lit (.bool false)), .c (.lit (.bool false)), .c (.lit (.bool false)), .c (.lit (.bool false)), .c (.lit (.bool false)), .c (.lit (.bool false)), .c (.lit (.bool false)), .c (.lit (.bool false)), .c (.lit (.bool false)), .c (.lit (.bool false)), .c (.lit (.bool false)), .c (.lit (.bool false)), .c (.lit (.bool false)), .c (.lit (.bool false)), .c (.lit (.bool false)), .c (.lit (.bool false)), .c (.lit (.bool false)), .c (.lit (.bool false)), .c (.lit (.bool false)), .c (.lit (.bool true)), .c (.lit (.bool false)), .c (.lit (.bool false)), .c (.lit (.bool false)), .c (.lit (.bool false)), .c (.lit (.bool false)), .c (.lit (.bool false)), .c (.lit (.bool false)), .c (.lit (.bool false)), .c (.lit (.bool false)), .c (.lit (.bool false)), .c (.lit (.bool false)), .c (.lit (.bool false)), .c (.lit (.bool false)), .c (.lit (.bool false)), .c (.lit (.bool false)), .c (.lit (.bool false)), .c (.lit (.bool false)), .c (.lit (.bool false)), .c (.lit (.bool false)), .c (.lit (.bool false)), .c (.lit (.bool false)), .c (.lit (.bool false)), .c (.lit (.bool false)), .c (.lit (.bool false)), .c (.lit (.bool false)), .c (.lit (.bool false)), .c (.lit (.bool false)), .c (.lit (.bool false)), .c (.lit (.bool false)), .c (.lit (.bool false)), .c (.lit (.bool false)), .c (.lit (.bool false)), .c (.lit (.bool false)), .c (.lit (.bool false)), .c (.lit (.bool false)), .c (.lit (.bool false)), .c (.lit (.bool false)), .c (.lit (.bool false)), .c (.lit (.bool false)), .c (.lit (.bool false)), .c (.lit (.bool false)), .c (.lit (.bool false)), .c (.lit (.bool false)), .c (.lit (.bool false)), .c (.lit (.bool false)), .c (.lit (.bool false)), .c (.lit (.bool false)), .c (.lit (.bool false)), .c (.lit (.bool false)), .c (.lit (.bool false)), .c (.lit (.bool false)), .c (.lit (.bool false)), .c (.lit (.bool false)), .c (.lit (.bool false)), .c (.lit (.bool false)), .c (.lit (.bool false)), .c (.lit (.bool false)), .c (.lit (.bool false)), .c (.lit (.bool false)), .c (.lit (.bool false)), .c (.lit (.bool false)), .c (.lit (.bool false)), .c (.lit (.bool false)), .c (.lit (.bool false)), .c (.lit (.bool false)), .c (.lit (.bool false)), .c (.lit (.bool false)), .c (.lit (.bool false)), .c (.lit (.bool false)), .c (.lit (.bool false)), .c (.lit (.bool false)), .c (.lit (.bool false)), .c (.lit (.bool false)), .c (.lit (.bool false)), .c (.lit (.bool false)), .c (.lit (.bool false)), .c (.lit (.bool false)), .c (.lit (.bool false)), .c (.lit (.bool false)), .c (.lit (.bool false)), .c (.lit (.bool false)), .c (.lit (.bool false)), .c (.lit (.bool false)), .c (.lit (.bool false)), .c (.lit (.bool false)), .c (.lit (.bool false)), .c (.lit (.bool false)), .c (.lit (.bool false)), .c (.lit (.bool false)), .c (.lit (.bool false)), .c (.lit (.bool false)), .c (.lit (.bool false)), .c (.lit (.bool false)), .c (.lit (.bool false)), .c (.lit (.bool false)), .c (.lit (.bool false)), .c (.lit (.bool false)), .c (.lit (.bool false)), .c (.lit (.bool false)), .c (.lit (.bool false)), .c (.lit (.bool false)), .c (.lit (.bool false)), .c (.lit (.bool false)), .c (.lit (.bool false)), .c (.lit (.bool false)), .c (.lit (.bool false)), .c (.lit (.bool false)), .c (.lit (.bool false)), .c (.lit (.bool false)), .c (.lit (.bool false)), .c (.lit (.bool false)), .c (.lit (.bool false)), .c (.lit (.bool false)), .c (.lit (.bool false)), .c (.lit (.bool false)), .c (.lit (.bool false)), .c (.lit (.bool false)), .c (.lit (.bool false)), .c (.lit (.bool false)), .c (.lit (.bool false)), .c (.lit (.bool false)), .c (.lit (.bool false)), .c (.lit (.bool false)), .c (.lit (.bool false)), .c (.lit (.bool false)), .c (.lit (.bool false)), .c (.lit (.bool false)), .c (.lit (.bool false)), .c (.lit (.bool false)), .c (.lit (.bool false)), .c (.lit (.bool false))])] := by
  refine OkH.intro Tryz.func123 rfl Tryz.ntmps123 (by simp) ?_
  unfold f_strings_asciiSet_contains_124d at hr
  refine Tri.seq ?_
  refine Tri.region ?_
  refine R.flo Gd.no (Y.assign rfl) ?_
  refine R.nil ?_
  refine Tri.seq ?_
  refine Tri.region ?_
  refine R.flo Gd.no (Y.move rfl) ?_
  refine R.flo Gd.no (Y.move rfl) ?_
  refine R.flo Gd.no (Y.nilP rfl) ?_
  replace hr := ckP_inv hr
  obtain ⟨h0, hr⟩ := hr
  replace hr := bind_inv hr
  obtain ⟨x1, hx1, hr⟩ := hr
  refine R.flo Gd.no (Y.idxA (m := ((c).toNat)) ((c).toNat) Tryz.underlying153 Tryz.sizeOf4 rfl (ev_tn rfl h0) (idx_lt hx1 rfl) (by omega)) ?_
  refine R.flo Gd.no (Y.loadB1 rfl 0 rfl (arr_get (f := fun x => A.c (.lit (.bool x))) hx1) Tryz.isAgg4) ?_
  refine R.flo Gd.no (Y.assign rfl) ?_
  refine R.nil ?_
  refine Tri.ret ?_
  have hx := Option.some.inj hr
  subst hx
  exact ⟨.inl rfl, _, .inr (.inl ⟨_, _, rfl, rfl, rfl⟩), ⟨rfl, rfl⟩⟩
theorem ok_internal_stringslite_IndexByte_f3a1 {c : Int} {r : Int} (hr : f_internal_stringslite_IndexByte_f3a1 c = some r) (nx : Nat) : OkH Tryz.prog 101 [.one (.c (.lit (str ([91, 93, 124] : Bytes)))), .one (.c (.lit (.int .u8 c)))] [] nx fun v H' _ => v = .v (.one (.c (.lit (.int .i64 r)))) ∧ H' = [] := by
  refine OkH.intro Tryz.func101 rfl Tryz.ntmps101 (by simp) ?_
  unfold f_internal_stringslite_IndexByte_f3a1 at hr
  refine Tri.seq ?_
  refine Tri.region ?_
  refine R.flo Gd.no (Y.assign rfl) ?_
  refine R.nil ?_
  refine Tri.seq ?_
  refine Tri.region ?_
  refine R.flo Gd.no (Y.move rfl) ?_
  refine R.flo Gd.no (Y.move rfl) ?_
  refine R.flo Gd.no (Y.ext2 (Tryz.exI113 ([91, 93, 124] : Bytes) c) rfl rfl) ?_
  refine R.flo Gd.no (Y.assign rfl) ?_
  refine R.nil ?_
  refine Tri.ret ?_
  have hx := Option.some.inj hr
  subst hx
  exact ⟨.inl rfl, _, .inr (.inl ⟨_, _, rfl, rfl, rfl⟩), ⟨rfl, rfl⟩⟩
theorem ok_strings_IndexByte_f3a1 {c : Int} {r : Int} (hr : f_strings_IndexByte_f3a1 c = some r) (nx : Nat) : OkH Tryz.prog 125 [.one (.c (.lit (str ([91, 93, 124] : Bytes)))), .one (.c (.lit (.int .u8 c)))] [] nx fun v H' _ => v = .v (.one (.c (.lit (.int .i64 r)))) ∧ H' = [] := by
  refine OkH.intro Tryz.func125 rfl Tryz.ntmps125 (by simp) ?_
  unfold f_strings_IndexByte_f3a1 at hr
  refine Tri.seq ?_
  refine Tri.region ?_
  refine R.flo Gd.no (Y.assign rfl) ?_
  refine R.nil ?_
  refine Tri.seq ?_
  refine Tri.region ?_
  refine R.flo Gd.no (Y.move rfl) ?_
  refine R.flo Gd.no (Y.move rfl) ?_
  replace hr := bind_inv hr
  obtain ⟨r1, hcr1, hr⟩ := hr
  refine R.call (H1 := []) (H2 := []) Gd.no Tryz.en101 rfl (ok_internal_stringslite_IndexByte_f3a1 hcr1 nx) (perm_idx [] rfl) (fun _ _ nx_2 hq => ?_)
  obtain ⟨rfl, rfl⟩ := hq
  refine R.flo Gd.no (Y.assign rfl) ?_
  refine R.nil ?_
  refine Tri.ret ?_
  have hx := Option.some.inj hr
  subst hx
  exact ⟨.inl rfl, _, .inr (.inl ⟨_, _, rfl, rfl, rfl⟩), ⟨rfl, rfl⟩⟩
theorem ok_unicode_utf8_ValidRune {r : Int} {r_ : Bool} (hr : f_unicode_utf8_ValidRune r = some r_) (nx : Nat) : OkH Tryz.prog 126 [.one (.c (.lit (.int .i32 r)))] [] nx fun v H' _ => v = .v (.one (.c (.lit (.bool r_)))) ∧ H' = [] := by
  refine OkH.intro Tryz.func126 rfl Tryz.ntmps126 (by simp) ?_
  unfold f_unicode_utf8_ValidRune at hr
  refine Tri.seq ?_
  refine Tri.region ?_
  refine R.flo Gd.no (Y.assign rfl) ?_
  refine R.nil ?_
  refine Tri.seq ?_
  refine Tri.block ?_
  replace hr := bind_inv hr
  obtain ⟨x2, hr, hox2⟩ := hr
  refine Tri.meet (α := Bool × Nat) (fun ⟨s3, nx_4⟩ => s3 = x2) (fun ⟨s3, nx_4⟩ => ⟨17, [(0, some (.v (.one (.c (.lit (.int .i32 r)))))), (3, some (.v (.one (.c (.lit (.bool s3))))))], [], nx_4⟩) ?_ (fun ⟨s3, nx_4⟩ hx => ?_)
  · refine Tri.region ?_
    refine R.flo Gd.no (Y.move rfl) ?_
    refine R.flo Gd.no (Y.leqI rfl rfl) ?_
    refine R.flo Gd.no (Y.move rfl) ?_
    refine TOps.part (b := decide ((0 : Int) ≤ r)) (fun bhb1 hb1 => ?_)
    cases bhb1
    · rw [hb1]; replace hr := cond_f hb1 hr
      refine R.skip (.f 2 false 6 rfl rfl) ?_
      refine R.skip (.f 2 false 6 rfl rfl) ?_
      refine R.flo Gd.no (Y.pickF rfl rfl) ?_
      refine R.flo Gd.no (Y.assign rfl) ?_
      refine R.nil ?_
      have hx := Option.some.inj hr
      subst hx
      refine meet_mk ⟨false, nx⟩ rfl (Weak.to [0, 3] [] rfl)
    · rw [hb1]; replace hr := cond_t hb1 hr
      refine R.flo (Gd.t 2 true 6 rfl rfl) (Y.move rfl) ?_
      refine R.flo (Gd.t 2 true 6 rfl rfl) (Y.lssI rfl rfl) ?_
      refine R.flo Gd.no (Y.pickT rfl rfl) ?_
      refine R.flo Gd.no (Y.assign rfl) ?_
      refine R.nil ?_
      have hx := Option.some.inj hr
      subst hx
      refine meet_mk ⟨decide (r < (55296 : Int)), nx⟩ rfl (Weak.to [0, 3] [] rfl)
  · subst hx
    have hr := hox2
    refine Tri.cond rfl (fun hc5 => ?_) (fun hc5 => ?_)
    · replace hr := cond_t hc5 hr
      refine Tri.seq ?_
      refine Tri.region ?_
      refine R.flo Gd.no (Y.assign rfl) ?_
      refine R.nil ?_
      refine Tri.ret ?_
      have hx := Option.some.inj hr
      subst hx
      exact ⟨.inl rfl, _, .inr (.inl ⟨_, _, rfl, rfl, rfl⟩), ⟨rfl, rfl⟩⟩
    · replace hr := cond_f hc5 hr
      replace hr := bind_inv hr
      obtain ⟨x7, hr, hox7⟩ := hr
      refine Tri.meet (α := Bool × Nat) (fun ⟨s8, nx_9⟩ => s8 = x7) (fun ⟨s8, nx_9⟩ => ⟨17, [(10, some (.v (.one (.c (.lit (.bool s8))))))], [], nx_9⟩) ?_ (fun ⟨s8, nx_9⟩ hx => ?_)
      · refine Tri.region ?_
        refine R.flo Gd.no (Y.move rfl) ?_
        refine R.flo Gd.no (Y.lssI rfl rfl) ?_
        refine R.flo Gd.no (Y.move rfl) ?_
        refine TOps.part (b := decide ((57343 : Int) < r)) (fun bhb6 hb6 => ?_)
        cases bhb6
        · rw [hb6]; replace hr := cond_f hb6 hr
          refine R.skip (.f 2 false 13 rfl rfl) ?_
          refine R.skip (.f 2 false 13 rfl rfl) ?_
          refine R.flo Gd.no (Y.pickF rfl rfl) ?_
          refine R.flo Gd.no (Y.assign rfl) ?_
          refine R.nil ?_
          have hx := Option.some.inj hr
          subst hx
          refine meet_mk ⟨false, nx_4⟩ rfl (Weak.to [10] [] rfl)
        · rw [hb6]; replace hr := cond_t hb6 hr
          refine R.flo (Gd.t 2 true 13 rfl rfl) (Y.move rfl) ?_
          refine R.flo (Gd.t 2 true 13 rfl rfl) (Y.leqI rfl rfl) ?_
          refine R.flo Gd.no (Y.pickT rfl rfl) ?_
          refine R.flo Gd.no (Y.assign rfl) ?_
          refine R.nil ?_
          have hx := Option.some.inj hr
          subst hx
          refine meet_mk ⟨decide (r ≤ (1114111 : Int)), nx_4⟩ rfl (Weak.to [10] [] rfl)
      · subst hx
        have hr := hox7
        refine Tri.cond rfl (fun hc10 => ?_) (fun hc10 => ?_)
        · replace hr := cond_t hc10 hr
          refine Tri.seq ?_
          refine Tri.region ?_
          refine R.flo Gd.no (Y.assign rfl) ?_
          refine R.nil ?_
          refine Tri.ret ?_
          have hx := Option.some.inj hr
          subst hx
          exact ⟨.inl rfl, _, .inr (.inl ⟨_, _, rfl, rfl, rfl⟩), ⟨rfl, rfl⟩⟩
        · replace hr := cond_f hc10 hr
          refine Tri.skip ?_
          refine Tri.seq ?_
          refine Tri.region ?_
          refine R.flo Gd.no (Y.assign rfl) ?_
          refine R.nil ?_
          refine Tri.ret ?_
          have hx := Option.some.inj hr
          subst hx
          exact ⟨.inl rfl, _, .inr (.inl ⟨_, _, rfl, rfl, rfl⟩), ⟨rfl, rfl⟩⟩
theorem ok_internal_stringslite_IndexByte {s : Bytes} {c : Int} {r : Int} (hr : f_internal_stringslite_IndexByte s c = some r) (nx : Nat) : OkH Tryz.prog 101 [.one (.c (.lit (str s))), .one (.c (.lit (.int .u8 c)))] [] nx fun v H' _ => v = .v (.one (.c (.lit (.int .i64 r)))) ∧ H' = [] := by
  refine OkH.intro Tryz.func101 rfl Tryz.ntmps101 (by simp) ?_
  unfold f_internal_stringslite_IndexByte at hr
  refine Tri.seq ?_
  refine Tri.region ?_
  refine R.flo Gd.no (Y.assign rfl) ?_
  refine R.nil ?_
  refine Tri.seq ?_
  refine Tri.region ?_
  refine R.flo Gd.no (Y.move rfl) ?_
  refine R.flo Gd.no (Y.move rfl) ?_
  refine R.flo Gd.no (Y.ext2 (Tryz.exI113 s c) rfl rfl) ?_
  refine R.flo Gd.no (Y.assign rfl) ?_
  refine R.nil ?_
  refine Tri.ret ?_
  have hx := Option.some.inj hr
  subst hx
  exact ⟨.inl rfl, _, .inr (.inl ⟨_, _, rfl, rfl, rfl⟩), ⟨rfl, rfl⟩⟩
theorem ok_strings_IndexByte {s : Bytes} {c : Int} {r : Int} (hr : f_strings_IndexByte s c = some r) (nx : Nat) : OkH Tryz.prog 125 [.one (.c (.lit (str s))), .one (.c (.lit (.int .u8 c)))] [] nx fun v H' _ => v = .v (.one (.c (.lit (.int .i64 r)))) ∧ H' = [] := by
  refine OkH.intro Tryz.func125 rfl Tryz.ntmps125 (by simp) ?_
  unfold f_strings_IndexByte at hr
  refine Tri.seq ?_
  refine Tri.region ?_
  refine R.flo Gd.no (Y.assign rfl) ?_
  refine R.nil ?_
  refine Tri.seq ?_
  refine Tri.region ?_
  refine R.flo Gd.no (Y.move rfl) ?_
  refine R.flo Gd.no (Y.move rfl) ?_
  replace hr := bind_inv hr
  obtain ⟨r1, hcr1, hr⟩ := hr
  refine R.call (H1 := []) (H2 := []) Gd.no Tryz.en101 rfl (ok_internal_stringslite_IndexByte hcr1 nx) (perm_idx [] rfl) (fun _ _ nx_2 hq => ?_)
  obtain ⟨rfl, rfl⟩ := hq
  refine R.flo Gd.no (Y.assign rfl) ?_
  refine R.nil ?_
  refine Tri.ret ?_
  have hx := Option.some.inj hr
  subst hx
  exact ⟨.inl rfl, _, .inr (.inl ⟨_, _, rfl, rfl, rfl⟩), ⟨rfl, rfl⟩⟩
theorem ok_strings_IndexRune_1289 {r : Int} {r_ : Int} (hr : f_strings_IndexRune_1289 r = some r_) (nx : Nat) : OkH Tryz.prog 120 [.one (.c (.lit (str ([91, 93, 124] : Bytes)))), .one (.c (.lit (.int .i32 r)))] [] nx fun v H' _ => v = .v (.one (.c (.lit (.int .i64 r_)))) ∧ H' = [] := by
  refine OkH.intro Tryz.func120 rfl Tryz.ntmps120 (by simp) ?_
  unfold f_strings_IndexRune_1289 at hr
  refine Tri.seq ?_
  refine Tri.region ?_
  refine R.flo Gd.no (Y.assign rfl) ?_
  refine R.nil ?_
  refine Tri.block ?_
  replace hr := bind_inv hr
  obtain ⟨x2, hr, hox2⟩ := hr
  refine Tri.meet (α := Bool × Nat) (fun ⟨s3, nx_4⟩ => s3 = x2) (fun ⟨s3, nx_4⟩ => ⟨187, [(0, some (.v (.one (.c (.lit (str ([91, 93, 124] : Bytes))))))), (1, some (.v (.one (.c (.lit (.int .i32 r)))))), (160, some (.v (.one (.c (.lit (.bool s3))))))], [], nx_4⟩) ?_ (fun ⟨s3, nx_4⟩ hx => ?_)
  · refine Tri.region ?_
    refine R.flo Gd.no (Y.move rfl) ?_
    refine R.flo Gd.no (Y.leqI rfl rfl) ?_
    refine R.flo Gd.no (Y.move rfl) ?_
    refine TOps.part (b := decide ((0 : Int) ≤ r)) (fun bhb1 hb1 => ?_)
    cases bhb1
    · rw [hb1]; replace hr := cond_f hb1 hr
      refine R.skip (.f 2 false 163 rfl rfl) ?_
      refine R.skip (.f 2 false 163 rfl rfl) ?_
      refine R.flo Gd.no (Y.pickF rfl rfl) ?_
      refine R.flo Gd.no (Y.assign rfl) ?_
      refine R.nil ?_
      have hx := Option.some.inj hr
      subst hx
      refine meet_mk ⟨false, nx⟩ rfl (Weak.to [0, 1, 160] [] rfl)
    · rw [hb1]; replace hr := cond_t hb1 hr
      refine R.flo (Gd.t 2 true 163 rfl rfl) (Y.move rfl) ?_
      refine R.flo (Gd.t 2 true 163 rfl rfl) (Y.lssI rfl rfl) ?_
      refine R.flo Gd.no (Y.pickT rfl rfl) ?_
      refine R.flo Gd.no (Y.assign rfl) ?_
      refine R.nil ?_
      have hx := Option.some.inj hr
      subst hx
      refine meet_mk ⟨decide (r < (128 : Int)), nx⟩ rfl (Weak.to [0, 1, 160] [] rfl)
  · subst hx
    have hr := hox2
    refine Tri.cond rfl (fun hc5 => ?_) (fun hc5 => ?_)
    · replace hr := cond_t hc5 hr
      refine Tri.seq ?_
      refine Tri.region ?_
      refine R.flo Gd.no (Y.move rfl) ?_
      refine R.flo Gd.no (Y.move rfl) ?_
      refine R.flo Gd.no (Y.convII Tryz.underlying21 Tryz.underlying5 rfl) ?_
      replace hr := bind_inv hr
      obtain ⟨r6, hcr6, hr⟩ := hr
      refine R.call (H1 := []) (H2 := []) Gd.no Tryz.en125 rfl (ok_strings_IndexByte_f3a1 hcr6 nx_4) (perm_idx [] rfl) (fun _ _ nx_7 hq => ?_)
      obtain ⟨rfl, rfl⟩ := hq
      refine R.flo Gd.no (Y.assign rfl) ?_
      refine R.nil ?_
      refine Tri.ret ?_
      have hx := Option.some.inj hr
      subst hx
      exact ⟨.inl rfl, _, .inr (.inl ⟨_, _, rfl, rfl, rfl⟩), ⟨rfl, rfl⟩⟩
    · replace hr := cond_f hc5 hr
      refine Tri.seq ?_
      refine Tri.region ?_
      refine R.flo Gd.no (Y.move rfl) ?_
      refine R.flo Gd.no (Y.eqlI rfl rfl) ?_
      refine R.flo Gd.no (Y.assign rfl) ?_
      refine R.nil ?_
      refine Tri.cond rfl (fun hc8 => ?_) (fun hc8 => ?_)
      · replace hr := cond_t hc8 hr
        refine Tri.seq ?_
        refine Tri.seq ?_
        refine Tri.region ?_
        refine R.flo Gd.no (Y.move rfl) ?_
        refine R.eff Gd.no (E.rangeS Tryz.underlying9 rfl) ?_
        refine R.nil ?_
        refine Tri.block ?_
        refine Tri.rounds 4 ?_
        refine RT.one ?_
        refine Tri.seq ?_
        refine Tri.region ?_
        refine R.eff Gd.no (E.nextT 0 rfl rfl (by decide)) ?_
        refine R.flo Gd.no (Y.extract rfl rfl) ?_
        refine R.nil ?_
        refine Tri.seq ?_
        refine Tri.condT rfl ?_
        refine Tri.skip ?_
        refine Tri.block ?_
        refine Tri.seq ?_
        refine Tri.region ?_
        refine R.flo Gd.no (Y.extract rfl rfl) ?_
        refine R.flo Gd.no (Y.extract rfl rfl) ?_
        refine R.flo Gd.no (Y.assign rfl) ?_
        refine R.flo Gd.no (Y.assign rfl) ?_
        refine R.nil ?_
        refine Tri.seq ?_
        refine Tri.region ?_
        refine R.flo Gd.no (Y.move rfl) ?_
        refine R.flo Gd.no (Y.eqlI rfl rfl) ?_
        refine R.nil ?_
        refine Tri.condF rfl ?_
        refine Tri.skip ?_
        refine RT.one ?_
        refine Tri.seq ?_
        refine Tri.region ?_
        refine R.eff Gd.no (E.nextT 0 rfl rfl (by decide)) ?_
        refine R.flo Gd.no (Y.extract rfl rfl) ?_
        refine R.nil ?_
        refine Tri.seq ?_
        refine Tri.condT rfl ?_
        refine Tri.skip ?_
        refine Tri.block ?_
        refine Tri.seq ?_
        refine Tri.region ?_
        refine R.flo Gd.no (Y.extract rfl rfl) ?_
        refine R.flo Gd.no (Y.extract rfl rfl) ?_
        refine R.flo Gd.no (Y.assign rfl) ?_
        refine R.flo Gd.no (Y.assign rfl) ?_
        refine R.nil ?_
        refine Tri.seq ?_
        refine Tri.region ?_
        refine R.flo Gd.no (Y.move rfl) ?_
        refine R.flo Gd.no (Y.eqlI rfl rfl) ?_
        refine R.nil ?_
        refine Tri.condF rfl ?_
        refine Tri.skip ?_
        refine RT.one ?_
        refine Tri.seq ?_
        refine Tri.region ?_
        refine R.eff Gd.no (E.nextT 0 rfl rfl (by decide)) ?_
        refine R.flo Gd.no (Y.extract rfl rfl) ?_
        refine R.nil ?_
        refine Tri.seq ?_
        refine Tri.condT rfl ?_
        refine Tri.skip ?_
        refine Tri.block ?_
        refine Tri.seq ?_
        refine Tri.region ?_
        refine R.flo Gd.no (Y.extract rfl rfl) ?_
        refine R.flo Gd.no (Y.extract rfl rfl) ?_
        refine R.flo Gd.no (Y.assign rfl) ?_
        refine R.flo Gd.no (Y.assign rfl) ?_
        refine R.nil ?_
        refine Tri.seq ?_
        refine Tri.region ?_
        refine R.flo Gd.no (Y.move rfl) ?_
        refine R.flo Gd.no (Y.eqlI rfl rfl) ?_
        refine R.nil ?_
        refine Tri.condF rfl ?_
        refine Tri.skip ?_
        refine RT.one ?_
        refine Tri.seq ?_
        refine Tri.region ?_
        refine R.flo Gd.no (Y.nextF 0 rfl rfl (by decide)) ?_
        refine R.flo Gd.no (Y.extract rfl rfl) ?_
        refine R.nil ?_
        refine Tri.seq ?_
        refine Tri.condF rfl ?_
        refine Tri.exit ?_
        refine Tri.seq ?_
        refine Tri.region ?_
        refine R.flo Gd.no (Y.assign rfl) ?_
        refine R.nil ?_
        refine Tri.weak (Weak.to [4] [] rfl) ?_
        refine Tri.ret ?_
        have hx := Option.some.inj hr
        subst hx
        exact ⟨.inl rfl, _, .inr (.inl ⟨_, _, rfl, rfl, rfl⟩), ⟨rfl, rfl⟩⟩
      · replace hr := cond_f hc8 hr
        refine Tri.seq ?_
        refine Tri.region ?_
        refine R.flo Gd.no (Y.move rfl) ?_
        replace hr := bind_inv hr
        obtain ⟨r13, hcr13, hr⟩ := hr
        refine R.call (H1 := []) (H2 := []) Gd.no Tryz.en126 rfl (ok_unicode_utf8_ValidRune hcr13 nx_4) (perm_idx [] rfl) (fun _ _ nx_14 hq => ?_)
        obtain ⟨rfl, rfl⟩ := hq
        refine R.flo Gd.no (Y.not rfl) ?_
        refine R.flo Gd.no (Y.assign rfl) ?_
        refine R.nil ?_
        refine Tri.cond rfl (fun hc15 => ?_) (fun hc15 => ?_)
        · replace hr := cond_t hc15 hr
          refine Tri.seq ?_
          refine Tri.region ?_
          refine R.flo Gd.no (Y.assign rfl) ?_
          refine R.nil ?_
          refine Tri.ret ?_
          have hx := Option.some.inj hr
          subst hx
          exact ⟨.inl rfl, _, .inr (.inl ⟨_, _, rfl, rfl, rfl⟩), ⟨rfl, rfl⟩⟩
        · replace hr := cond_f hc15 hr
          refine Tri.scope ?_
          refine Tri.seq ?_
          refine Tri.region ?_
          refine R.flo Gd.no (Y.move rfl) ?_
          refine R.flo Gd.no (Y.runeStr Tryz.underlying21 Tryz.underlying9 rfl) ?_
          refine R.flo Gd.no (Y.assign rfl) ?_
          refine R.nil ?_
          refine Tri.seq ?_
          refine Tri.region ?_
          refine R.flo Gd.no (Y.move rfl) ?_
          refine R.flo Gd.no (Y.lenS Tryz.underlying9 rfl rfl) ?_
          replace hr := ckI_inv hr
          obtain ⟨ha, hb, hr⟩ := hr
          refine R.flo Gd.no (Y.subI rfl rfl ha hb) ?_
          refine R.flo Gd.no (Y.assign rfl) ?_
          refine R.nil ?_
          refine Tri.seq ?_
          refine Tri.region ?_
          refine R.flo Gd.no (Y.move rfl) ?_
          refine R.flo Gd.no (Y.assign rfl) ?_
          refine R.nil ?_
          refine Tri.seq ?_
          refine Tri.region ?_
          refine R.flo Gd.no (Y.assign rfl) ?_
          refine R.nil ?_
          replace hr := bind_inv hr
          obtain ⟨x48, hr, hox48⟩ := hr
          refine Tri.meet (α := Unit × Nat) (fun ⟨s49, nx_50⟩ => (.inl s49) = x48) (fun ⟨s49, nx_50⟩ => ⟨187, [], [], nx_50⟩) ?_ (fun ⟨s49, nx_50⟩ hx => ?_)
          · refine Tri.block ?_
            refine Tri.loop (α := Nat × Nat) (fun ⟨fuel53, nx_16⟩ => f_strings_IndexRune_1289_l1 r fuel53  = some x48) (fun ⟨fuel53, nx_16⟩ => ⟨187, [(0, some (.v (.one (.c (.lit (str ([91, 93, 124] : Bytes))))))), (7, some (.v (.one (.c (.lit (str (runeStr r))))))), (8, some (.v (.one (.c (.lit (.int .i64 ((((runeStr r).length : Int)) - 1))))))), (9, some (.v (.one (.c (.lit (.int .i64 ((((runeStr r).length : Int)) - 1)))))))], [], nx_16⟩) (fun ⟨fuel53, nx_16⟩ => fuel53) ⟨FUEL, nx_14⟩ ?_ (Weak.to [0, 7, 8, 9] [] rfl) ?_
            · exact hr
            · rintro ⟨fuel53, nx_16⟩ (hr : f_strings_IndexRune_1289_l1 r fuel53  = some x48)
              cases fuel53 with
              | zero => rw [f_strings_IndexRune_1289_l1] at hr; cases hr
              | succ fuel53 =>
                rw [f_strings_IndexRune_1289_l1] at hr
                refine Tri.seq ?_
                refine Tri.seq ?_
                refine Tri.region ?_
                refine R.flo Gd.no (Y.move rfl) ?_
                refine R.flo Gd.no (Y.move rfl) ?_
                refine R.flo Gd.no (Y.lenS Tryz.underlying9 rfl rfl) ?_
                refine R.flo Gd.no (Y.lssI rfl rfl) ?_
                refine R.nil ?_
                refine Tri.cond rfl (fun hc17 => ?_) (fun hc17 => ?_)
                · replace hr := cond_t hc17 hr
                  refine Tri.skip ?_
                  refine Tri.block ?_
                  refine Tri.scope ?_
                  replace hr := bind_inv hr
                  obtain ⟨x31, hr, hox31⟩ := hr
                  refine Tri.meet (α := Int × Nat) (fun ⟨s32, nx_33⟩ => (.inl s32) = x31) (fun ⟨s32, nx_33⟩ => ⟨187, [(0, some (.v (.one (.c (.lit (str ([91, 93, 124] : Bytes))))))), (7, some (.v (.one (.c (.lit (str (runeStr r))))))), (8, some (.v (.one (.c (.lit (.int .i64 ((((runeStr r).length : Int)) - 1))))))), (9, some (.v (.one (.c (.lit (.int .i64 s32))))))], [], nx_33⟩) ?_ (fun ⟨s32, nx_33⟩ hx => ?_)
                  · refine Tri.seq ?_
                    refine Tri.draw 7 rfl rfl [] [] rfl ?_
                    refine TAny.flo 0 rfl (by decide +kernel) (by decide +kernel) (by decide +kernel) Gd.no (Y.move rfl) ?_
                    refine TAny.flo 1 rfl (by decide +kernel) (by decide +kernel) (by decide +kernel) Gd.no (Y.move rfl) ?_
                    replace hr := atn_inv hr
                    obtain ⟨c18, h19, hc18, hr⟩ := hr
                    refine TAny.flo 2 rfl (by decide +kernel) (by decide +kernel) (by decide +kernel) Gd.no (Y.idxS (((((runeStr r).length : Int)) - 1).toNat) Tryz.underlying9 rfl (ev_tn rfl h19) hc18) ?_
                    refine TAny.flo 3 rfl (by decide +kernel) (by decide +kernel) (by decide +kernel) Gd.no (Y.move rfl) ?_
                    refine TAny.flo 4 rfl (by decide +kernel) (by decide +kernel) (by decide +kernel) Gd.no (Y.move rfl) ?_
                    replace hr := atn_inv hr
                    obtain ⟨c20, h21, hc20, hr⟩ := hr
                    refine TAny.flo 5 rfl (by decide +kernel) (by decide +kernel) (by decide +kernel) Gd.no (Y.idxS (((((runeStr r).length : Int)) - 1).toNat) Tryz.underlying9 rfl (ev_tn rfl h21) hc20) ?_
                    refine TAny.flo 6 rfl (by decide +kernel) (by decide +kernel) (by decide +kernel) Gd.no (Y.neqI rfl rfl) ?_
                    refine TAny.done (by decide +kernel) ?_
                    refine Tri.cond rfl (fun hc22 => ?_) (fun hc22 => ?_)
                    · replace hr := cond_t hc22 hr
                      refine Tri.seq ?_
                      refine Tri.draw 9 rfl rfl [] [] rfl ?_
                      refine TAny.flo 0 rfl (by decide +kernel) (by decide +kernel) (by decide +kernel) Gd.no (Y.move rfl) ?_
                      refine TAny.flo 1 rfl (by decide +kernel) (by decide +kernel) (by decide +kernel) Gd.no (Y.move rfl) ?_
                      replace hr := ckI_inv hr
                      obtain ⟨ha, hb, hr⟩ := hr
                      refine TAny.flo 2 rfl (by decide +kernel) (by decide +kernel) (by decide +kernel) Gd.no (Y.addI rfl rfl ha hb) ?_
                      replace hr := cut_inv hr
                      obtain ⟨y23, m24, n25, e1, e2, h1, h2, h3, hr⟩ := hr
                      refine TAny.flo 3 rfl (by decide +kernel) (by decide +kernel) (by decide +kernel) Gd.no (Y.sliceS Tryz.underlying9 rfl (bnd_int rfl e1) (bnd_l e2) h1 h2 h3) ?_
                      refine TAny.flo 4 rfl (by decide +kernel) (by decide +kernel) (by decide +kernel) Gd.no (Y.move rfl) ?_
                      refine TAny.flo 5 rfl (by decide +kernel) (by decide +kernel) (by decide +kernel) Gd.no (Y.move rfl) ?_
                      replace hr := atn_inv hr
                      obtain ⟨c26, h27, hc26, hr⟩ := hr
                      refine TAny.flo 6 rfl (by decide +kernel) (by decide +kernel) (by decide +kernel) Gd.no (Y.idxS (((((runeStr r).length : Int)) - 1).toNat) Tryz.underlying9 rfl (ev_tn rfl h27) hc26) ?_
                      refine TAny.lists (HE' := [] ++ []) (HS' := []) (perm_idx [] rfl) (sub_idx [] rfl) ?_
                      replace hr := bind_inv hr
                      obtain ⟨r28, hcr28, hr⟩ := hr
                      refine TAny.call 7 rfl (by decide +kernel) Gd.no Tryz.en125 rfl (ok_strings_IndexByte hcr28 nx_16) (fun _ _ nx_29 hq => ?_)
                      obtain ⟨rfl, rfl⟩ := hq
                      refine TAny.flo 8 rfl (by decide +kernel) (by decide +kernel) (by decide +kernel) Gd.no (Y.assign rfl) ?_
                      refine TAny.done (by decide +kernel) ?_
                      refine Tri.seq ?_
                      refine Tri.seq ?_
                      refine Tri.region ?_
                      refine R.flo Gd.no (Y.move rfl) ?_
                      refine R.flo Gd.no (Y.lssI rfl rfl) ?_
                      refine R.nil ?_
                      refine Tri.cond rfl (fun hc30 => ?_) (fun hc30 => ?_)
                      · replace hr := cond_t hc30 hr
                        refine Tri.seq ?_
                        refine Tri.region ?_
                        refine R.flo Gd.no (Y.assign rfl) ?_
                        refine R.nil ?_
                        have hx := Option.some.inj hr
                        subst hx
                        have hr := sum_r hox31
                        have hx := Option.some.inj hr
                        subst hx
                        have hr := sum_r hox48
                        refine Tri.ret ?_
                        have hx := Option.some.inj hr
                        subst hx
                        exact ⟨.inl rfl, _, .inr (.inl ⟨_, _, rfl, rfl, rfl⟩), ⟨rfl, rfl⟩⟩
                      · replace hr := cond_f hc30 hr
                        refine Tri.skip ?_
                        refine Tri.region ?_
                        refine R.flo Gd.no (Y.move rfl) ?_
                        refine R.flo Gd.no (Y.move rfl) ?_
                        replace hr := ckI_inv hr
                        obtain ⟨ha, hb, hr⟩ := hr
                        refine R.flo Gd.no (Y.addI rfl rfl ha hb) ?_
                        replace hr := ckI_inv hr
                        obtain ⟨ha, hb, hr⟩ := hr
                        refine R.flo Gd.no (Y.addI rfl rfl ha hb) ?_
                        refine R.flo Gd.no (Y.assign rfl) ?_
                        refine R.nil ?_
                        have hx := Option.some.inj hr
                        subst hx
                        refine meet_mk ⟨((((runeStr r).length : Int)) - 1) + (r28 + 1), nx_29⟩ rfl (Weak.to [0, 7, 8, 9] [] rfl)
                    · replace hr := cond_f hc22 hr
                      refine Tri.skip ?_
                      have hx := Option.some.inj hr
                      subst hx
                      refine meet_mk ⟨(((runeStr r).length : Int)) - 1, nx_16⟩ rfl (Weak.to [0, 7, 8, 9] [] rfl)
                  · subst hx
                    have hr := sum_l hox31
                    refine Tri.seq ?_
                    refine Tri.seq ?_
                    refine Tri.region ?_
                    refine R.flo Gd.no (Y.assign rfl) ?_
                    refine R.nil ?_
                    replace hr := bind_inv hr
                    obtain ⟨x44, hr, hox44⟩ := hr
                    refine Tri.meet1 (α := Unit × Nat) (fun ⟨s45, nx_46⟩ => s45 = x44) (fun ⟨s45, nx_46⟩ => ⟨187, [(8, some (.v (.one (.c (.lit (.int .i64 ((((runeStr r).length : Int)) - 1))))))), (9, some (.v (.one (.c (.lit (.int .i64 s32))))))], [], nx_46⟩) ?_ (fun ⟨s45, nx_46⟩ hx => ?_)
                    · refine Tri.block ?_
                      refine Tri.loop (α := Nat × Nat × Nat) (fun ⟨fuel47, j36, nx_37⟩ => f_strings_IndexRune_1289_l2 r s32 fuel47 j36 = some x44) (fun ⟨fuel47, j36, nx_37⟩ => ⟨187, [(0, some (.v (.one (.c (.lit (str ([91, 93, 124] : Bytes))))))), (7, some (.v (.one (.c (.lit (str (runeStr r))))))), (8, some (.v (.one (.c (.lit (.int .i64 ((((runeStr r).length : Int)) - 1))))))), (9, some (.v (.one (.c (.lit (.int .i64 s32)))))), (12, some (.v (.one (.c (.lit (.int .i64 ((j36 : Int))))))))], [], nx_37⟩) (fun ⟨fuel47, j36, nx_37⟩ => fuel47) ⟨FUEL, 1, nx_33⟩ ?_ (Weak.to [0, 7, 8, 9, 12] [] rfl) ?_
                      · exact hr
                      · rintro ⟨fuel47, j36, nx_37⟩ (hr : f_strings_IndexRune_1289_l2 r s32 fuel47 j36 = some x44)
                        cases fuel47 with
                        | zero => rw [f_strings_IndexRune_1289_l2] at hr; cases hr
                        | succ fuel47 =>
                          rw [f_strings_IndexRune_1289_l2] at hr
                          refine Tri.seq ?_
                          refine Tri.seq ?_
                          refine Tri.region ?_
                          refine R.flo Gd.no (Y.move rfl) ?_
                          refine R.flo Gd.no (Y.move rfl) ?_
                          refine R.flo Gd.no (Y.lenS Tryz.underlying9 rfl rfl) ?_
                          refine R.flo Gd.no (Y.lssI rfl rfl) ?_
                          refine R.nil ?_
                          refine Tri.cond rfl (fun hc38 => ?_) (fun hc38 => ?_)
                          · replace hr := cond_t hc38 hr
                            refine Tri.skip ?_
                            refine Tri.seq ?_
                            refine Tri.block ?_
                            refine Tri.seq ?_
                            refine Tri.draw 11 rfl rfl [] [] rfl ?_
                            refine TAny.flo 0 rfl (by decide +kernel) (by decide +kernel) (by decide +kernel) Gd.no (Y.move rfl) ?_
                            refine TAny.flo 1 rfl (by decide +kernel) (by decide +kernel) (by decide +kernel) Gd.no (Y.move rfl) ?_
                            refine TAny.flo 2 rfl (by decide +kernel) (by decide +kernel) (by decide +kernel) Gd.no (Y.move rfl) ?_
                            replace hr := ckI_inv hr
                            obtain ⟨ha, hb, hr⟩ := hr
                            refine TAny.flo 3 rfl (by decide +kernel) (by decide +kernel) (by decide +kernel) Gd.no (Y.subI rfl rfl ha hb) ?_
                            replace hr := atn_inv hr
                            obtain ⟨c39, h40, hc39, hr⟩ := hr
                            refine TAny.flo 4 rfl (by decide +kernel) (by decide +kernel) (by decide +kernel) Gd.no (Y.idxS ((s32 - ((j36 : Int))).toNat) Tryz.underlying9 rfl (ev_tn rfl h40) hc39) ?_
                            refine TAny.flo 5 rfl (by decide +kernel) (by decide +kernel) (by decide +kernel) Gd.no (Y.move rfl) ?_
                            refine TAny.flo 6 rfl (by decide +kernel) (by decide +kernel) (by decide +kernel) Gd.no (Y.move rfl) ?_
                            refine TAny.flo 7 rfl (by decide +kernel) (by decide +kernel) (by decide +kernel) Gd.no (Y.move rfl) ?_
                            replace hr := ckI_inv hr
                            obtain ⟨ha, hb, hr⟩ := hr
                            refine TAny.flo 8 rfl (by decide +kernel) (by decide +kernel) (by decide +kernel) Gd.no (Y.subI rfl rfl ha hb) ?_
                            replace hr := atn_inv hr
                            obtain ⟨c41, h42, hc41, hr⟩ := hr
                            refine TAny.flo 9 rfl (by decide +kernel) (by decide +kernel) (by decide +kernel) Gd.no (Y.idxS ((((((runeStr r).length : Int)) - 1) - ((j36 : Int))).toNat) Tryz.underlying9 rfl (ev_tn rfl h42) hc41) ?_
                            refine TAny.flo 10 rfl (by decide +kernel) (by decide +kernel) (by decide +kernel) Gd.no (Y.neqI rfl rfl) ?_
                            refine TAny.done (by decide +kernel) ?_
                            refine Tri.cond rfl (fun hc43 => ?_) (fun hc43 => ?_)
                            · replace hr := cond_t hc43 hr
                              cases hr
                            · replace hr := cond_f hc43 hr
                              refine Tri.skip ?_
                              refine Tri.region ?_
                              refine R.flo Gd.no (Y.move rfl) ?_
                              replace hr := ckI_inv hr
                              obtain ⟨ha, hb, hr⟩ := hr
                              refine R.flo Gd.no (Y.addI rfl rfl ha hb) ?_
                              refine R.flo Gd.no (Y.assign rfl) ?_
                              refine R.nil ?_
                              refine back_mk ⟨fuel47, j36 + 1, nx_37⟩ hr (Nat.lt_succ_self _) (Weak.to [0, 7, 8, 9, 12] [] rfl)
                          · replace hr := cond_f hc38 hr
                            refine Tri.exit ?_
                            have hx := Option.some.inj hr
                            subst hx
                            refine meet_mk ⟨(), nx_37⟩ rfl (Weak.to [8, 9] [] rfl)
                    · subst hx
                      have hr := hox44
                      refine Tri.seq ?_
                      refine Tri.seq ?_
                      refine Tri.region ?_
                      refine R.flo Gd.no (Y.move rfl) ?_
                      refine R.flo Gd.no (Y.move rfl) ?_
                      replace hr := ckI_inv hr
                      obtain ⟨ha, hb, hr⟩ := hr
                      refine R.flo Gd.no (Y.subI rfl rfl ha hb) ?_
                      refine R.flo Gd.no (Y.assign rfl) ?_
                      refine R.nil ?_
                      have hx := Option.some.inj hr
                      subst hx
                      have hr := sum_r hox48
                      refine Tri.ret ?_
                      have hx := Option.some.inj hr
                      subst hx
                      exact ⟨.inl rfl, _, .inr (.inl ⟨_, _, rfl, rfl, rfl⟩), ⟨rfl, rfl⟩⟩
                · replace hr := cond_f hc17 hr
                  refine Tri.exit ?_
                  have hx := Option.some.inj hr
                  subst hx
                  refine meet_mk ⟨(), nx_16⟩ rfl (Weak.to [] [] rfl)
          · subst hx
            have hr := sum_l hox48
            refine Tri.seq ?_
            refine Tri.seq ?_
            refine Tri.region ?_
            refine R.flo Gd.no (Y.assign rfl) ?_
            refine R.nil ?_
            refine Tri.ret ?_
            have hx := Option.some.inj hr
            subst hx
            exact ⟨.inl rfl, _, .inr (.inl ⟨_, _, rfl, rfl, rfl⟩), ⟨rfl, rfl⟩⟩
theorem ok_strings_IndexAny_1877 {s : Bytes} {r : Int} (hr : f_strings_IndexAny_1877 s = some r) (nx : Nat) : OkH Tryz.prog 118 [.one (.c (.lit (str s))), .one (.c (.lit (str ([91, 93, 124] : Bytes))))] [] nx fun v H' _ => v = .v (.one (.c (.lit (.int .i64 r)))) ∧ H' = [] := by
  refine OkH.intro Tryz.func118 rfl Tryz.ntmps118 (by simp) ?_
  unfold f_strings_IndexAny_1877 at hr
  refine Tri.seq ?_
  refine Tri.region ?_
  refine R.flo Gd.no (Y.assign rfl) ?_
  refine R.nil ?_
  refine Tri.seq ?_
  refine Tri.seq ?_
  refine Tri.region ?_
  refine R.flo Gd.no (Y.move rfl) ?_
  refine R.flo Gd.no (Y.eqlS rfl rfl) ?_
  refine R.nil ?_
  refine Tri.condF rfl ?_
  refine Tri.skip ?_
  refine Tri.seq ?_
  refine Tri.seq ?_
  refine Tri.region ?_
  refine R.flo Gd.no (Y.move rfl) ?_
  refine R.flo Gd.no (Y.lenS Tryz.underlying9 rfl rfl) ?_
  refine R.flo Gd.no (Y.eqlI rfl rfl) ?_
  refine R.nil ?_
  refine Tri.condF rfl ?_
  refine Tri.skip ?_
  replace hr := bind_inv hr
  obtain ⟨x20, hr, hox20⟩ := hr
  refine Tri.meet (α := Unit × Nat) (fun ⟨s21, nx_22⟩ => (.inl s21) = x20) (fun ⟨s21, nx_22⟩ => ⟨55, [(0, some (.v (.one (.c (.lit (str s)))))), (1, some (.v (.one (.c (.lit (str ([91, 93, 124] : Bytes)))))))], [], nx_22⟩) ?_ (fun ⟨s21, nx_22⟩ hx => ?_)
  · refine Tri.seq ?_
    refine Tri.region ?_
    refine R.flo Gd.no (Y.move rfl) ?_
    refine R.flo Gd.no (Y.lenS Tryz.underlying9 rfl rfl) ?_
    replace hr := bind_inv hr
    obtain ⟨r1, hcr1, hr⟩ := hr
    refine R.call (H1 := []) (H2 := []) Gd.no Tryz.en121 rfl (ok_strings_shouldUseASCIISet hcr1 nx) (perm_idx [] rfl) (fun _ _ nx_2 hq => ?_)
    obtain ⟨rfl, rfl⟩ := hq
    refine R.nil ?_
    refine Tri.cond rfl (fun hc3 => ?_) (fun hc3 => ?_)
    · replace hr := cond_t hc3 hr
      refine Tri.seq ?_
      refine Tri.region ?_
      refine R.flo Gd.no (Y.move rfl) ?_
      replace hr := bind_inv hr
      obtain ⟨r4, hcr4, hr⟩ := hr
      refine R.call (H1 := []) (H2 := []) Gd.no Tryz.en122 rfl (ok_strings_makeASCIISet_6248 hcr4 nx_2) (perm_idx [] rfl) (fun _ _ nx_5 hq => ?_)
      obtain ⟨rfl, rfl⟩ := hq
      refine R.flo Gd.no (Y.move rfl) ?_
      refine R.flo Gd.no (Y.extract rfl rfl) ?_
      refine R.flo Gd.no (Y.extract rfl rfl) ?_
      refine R.eff Gd.no (E.alloc (cs := [.c (.lit (.bool false)), .c (.lit (.bool false)), .c (.lit (.bool false)), .c (.lit (.bool false)), .c (.lit (.bool false)), .c (.lit (.bool false)), .c (.lit (.bool false)), .c (.lit (.bool false)), .c (.lit (.bool false)), .c (.lit (.bool false)), .c (.lit (.bool false)), .c (.lit (.bool false)), .c (.lit (.bool false)), .c (.lit (.bool false)), .c (.lit (.bool false)), .c (.lit (.bool false)), .c (.lit (.bool false)), .c (.lit (.bool false)), .c (.lit (.bool false)), .c (.lit (.bool false)), .c (.lit (.bool false)), .c (.lit (.bool false)), .c (.lit (.bool false)), .c (.lit (.bool false)), .c (.lit (.bool false)), .c (.lit (.bool false)), .c (.lit (.bool false)), .c (.lit (.bool false)), .c (.lit (.bool false)), .c (.lit (.bool false)), .c (.lit (.bool false)), .c (.lit (.bool false)), .c (.lit (.bool false)), .c (.lit (.bool false)), .c (.lit (.bool false)), .c (.lit (.bool false)), .c (.lit (.bool false)), .c (.lit (.bool false)), .c (.lit (.bool false)), .c (.lit (.bool false)), .c (.lit (.bool false)), .c (.lit (.bool false)), .c (.lit (.bool false)), .c (.lit (.bool false)), .c (.lit (.bool false)), .c (.lit (.bool false)), .c (.lit (.bool false)), .c (.lit (.bool false)), .c (.lit (.bool false)), .c (.lit (.bool false)), .c (.lit (.bool false)), .c (.lit (.bool false)), .c (.lit (.bool false)), .c (.lit (.bool false)), .c (.lit (.bool false)), .c (.lit (.bool false)), .c (.lit (.bool false)), .c (.lit (.bool false)), .c (.lit (.bool false)), .c (.lit (.bool false)), .c (.lit (.bool false)), .c (.lit (.bool false)), .c (.lit (.bool false)), .c (.lit (.bool false)), .c (.lit (.bool false)), .c (.lit (.bool false)), .c (.lit (.bool false)), .c (.lit (.bool false)), .c (.lit (.bool false)), .c (.lit (.bool false)), .c (.lit (.bool false)), .c (.lit (.bool false)), .c (.lit (.bool false)), .c (.lit (.bool false)), .c (.lit (.bool false)), .c (.lit (.bool false)), .c (.lit (.bool false)), .c (.lit (.bool false)), .c (.lit (.bool false)), .c (.lit (.bool false)), .c (.lit (.bool false)), .c (.lit (.bool false)), .c (.lit (.bool false)), .c (.lit (.bool false)), .c (.lit (.bool false)), .c (.lit (.bool false)), .c (.lit (.bool false)), .c (.lit (.bool false)), .c (.lit (.bool false)), .c (.lit (.bool false)), .c (.lit (.bool false)), .c (.lit (.bool false)), .c (.lit (.bool false)), .c (.lit (.bool false)), .c (.lit (.bool false)), .c (.lit (.bool false)), .c (.lit (.bool false)), .c (.lit (.bool false)), .c (.lit (.bool false)), .c (.lit (.bool false)), .c (.lit (.bool false)), .c (.lit (.bool false)), .c (.lit (.bool false)), .c (.lit (.bool false)), .c (.lit (.bool false)), .c (.lit (.bool false)), .c (.lit (.bool false)), .c (.lit (.bool false)), .c (.lit (.bool false)), .c (.lit (.bool false)), .c (.lit (.bool false)), .c (.lit (.bool false)), .c (.lit (.bool false)), .c (.lit (.bool false)), .c (.lit (.bool false)), .c (.lit (.bool false)), .c (.lit (.bool false)), .c (.lit (.bool false)), .c (.lit (.bool false)), .c (.lit (.bool false)), .c (.lit (.bool false)), .c (.lit (.bool false)), .c (.lit (.bool false)), .c (.lit (.bool false)), .c (.lit (.bool false)), .c (.lit (.bool false)), .c (.lit (.bool false)), .c (.lit (.bool false)), .c (.lit (.bool false)), .c (.lit (.bool false)), .c (.lit (.bool false)), .c (.lit (.bool false)), .c (.lit (.bool false)), .c (.lit (.bool false)), .c (.lit (.bool false)), .c (.lit (.bool false)), .c (.lit (.bool false)), .c (.lit (.bool false)), .c (.lit (.bool false)), .c (.lit (.bool false)), .c (.lit (.bool false)), .c (.lit (.bool false)), .c (.lit (.bool false)), .c (.lit (.bool false)), .c (.lit (.bool false)), .c (.lit (.bool false)), .c (.lit (.bool false)), .c (.lit (.bool false)), .c (.lit (.bool false)), .c (.lit (.bool false)), .c (.lit (.bool false)), .c (.lit (.bool false)), .c (.lit (.bool false)), .c (.lit (.bool false)), .c (.lit (.bool false)), .c (.lit (.bool false)), .c (.lit (.bool false)), .c (.lit (.bool false)), .c (.lit (.bool false)), .c (.lit (.bool false)), .c (.lit (.bool false)), .c (.lit (.bool false)), .c (.lit (.bool false)), .c (.lit (.bool false)), .c (.lit (.bool false)), .c (.lit (.bool false)), .c (.lit (.bool false)), .c (.lit (.bool false)), .c (.lit (.bool false)), .c (.lit (.bool false)), .c (.lit (.bool false)), .c (.lit (.bool false)), .c (.lit (.bool false)), .c (.lit (.bool false)), .c (.lit (.bool false)), .c (.lit (.bool false)), .c (.lit (.bool false)), .c (.lit (.bool false)), .c (.lit (.bool false)), .c (.lit (.bool false)), .c (.lit (.bool false)), .c (.lit (.bool false)), .c (.lit (.bool false)), .c (.lit (.bool false)), .c (.lit (.bool false)), .c (.lit (.bool false)), .c (.lit (.bool false)), .c (.lit (.bool false)), .c (.lit (.bool false)), .c (.lit (.bool false)), .c (.lit (.bool false)), .c (.lit (.bool false)), .c (.lit (.bool false)), .c (.lit (.bool false)), .c (.lit (.bool false)), .c (.lit (.bool false)), .c (.lit (.bool false)), .c (.lit (.bool false)), .c (.lit (.bool false)), .c (.lit (.bool false)), .c (.lit (.bool false)), .c (.lit (.bool false)), .c (.lit (.bool false)), .c (.lit (.bool false)), .c (.lit (.bool false)), .c (.lit (.bool false)), .c (.lit (.bool false)), .c (.lit (.bool false)), .c (.lit (.bool false)), .c (.lit (.bool false)), .c (.lit (.bool false)), .c (.lit (.bool false)), .c (.lit (.bool false)), .c (.lit (.bool false)), .c (.lit (.bool false)), .c (.lit (.bool false)), .c (.lit (.bool false)), .c (.lit (.bool false)), .c (.lit (.bool false)), .c (.lit (.bool false)), .c (.lit (.bool false)), .c (.lit (.bool false)), .c (.lit (.bool false)), .c (.lit (.bool false)), .c (.lit (.bool false)), .c (.lit (.bool false)), .c (.lit (.bool false)), .c (.lit (.bool false)), .c (.lit (.bool false)), .c (.lit (.bool false)), .c (.lit (.bool false)), .c (.lit (.bool false)), .c (.lit (.bool false)), .c (.lit (.bool false)), .c (.lit (.bool false)), .c (.lit (.bool false)), .c (.lit (.bool false)), .c (.lit (.bool false)), .c (.lit (.bool false)), .c (.lit (.bool false)), .c (.lit (.bool false)), .c (.lit (.bool false)), .c (.lit (.bool false)), .c (.lit (.bool false)), .c (.lit (.bool false)), .c (.lit (.bool false)), .c (.lit (.bool false)), .c (.lit (.bool false)), .c (.lit (.bool false)), .c (.lit (.bool false)), .c (.lit (.bool false)), .c (.lit (.bool false)), .c (.lit (.bool false)), .c (.lit (.bool false)), .c (.lit (.bool false)), .c (.lit (.bool false))]) Tryz.et153.zero Tryz.et153.one (by rfl)) ?_
      refine R.eff Gd.no (E.storeB 0 rfl rfl rfl rfl Tryz.sizeOf153 rfl rfl rfl) ?_
      refine R.flo Gd.no (Y.assign rfl) ?_
      refine R.nil ?_
      refine Tri.seq ?_
      refine Tri.region ?_
      refine R.flo Gd.no (Y.move rfl) ?_
      refine R.nil ?_
      refine Tri.cond rfl (fun hc6 => ?_) (fun hc6 => ?_)
      · replace hr := cond_t hc6 hr
        refine Tri.seq ?_
        refine Tri.seq ?_
        refine Tri.region ?_
        refine R.flo Gd.no (Y.assign rfl) ?_
        refine R.nil ?_
        replace hr := bind_inv hr
        obtain ⟨x14, hr, hox14⟩ := hr
        refine Tri.meet1 (α := Unit × Nat) (fun ⟨s15, nx_16⟩ => (.inl s15) = x14) (fun ⟨s15, nx_16⟩ => ⟨55, [], [], nx_16⟩) ?_ (fun ⟨s15, nx_16⟩ hx => ?_)
        · refine Tri.block ?_
          refine Tri.loop (α := Nat × Nat × Nat) (fun ⟨fuel19, i7, nx_8⟩ => f_strings_IndexAny_1877_l1 s fuel19 i7 = some x14) (fun ⟨fuel19, i7, nx_8⟩ => ⟨55, [(0, some (.v (.one (.c (.lit (str s)))))), (6, some (.v (.one (.ptr nx_5 0 0)))), (8, some (.v (.one (.c (.lit (.int .i64 ((i7 : Int))))))))], [(nx_5, .box 153 [.c (.lit (.bool false)), .c (.lit (.bool false)), .c (.lit (.bool false)), .c (.lit (.bool false)), .c (.lit (.bool false)), .c (.lit (.bool false)), .c (.lit (.bool false)), .c (.lit (.bool false)), .c (.lit (.bool false)), .c (.lit (.bool false)), .c (.lit (.bool false)), .c (.lit (.bool false)), .c (.lit (.bool false)), .c (.lit (.bool false)), .c (.lit (.bool false)), .c (.lit (.bool false)), .c (.lit (.bool false)), .c (.lit (.bool false)), .c (.lit (.bool false)), .c (.lit (.bool false)), .c (.lit (.bool false)), .c (.lit (.bool false)), .c (.lit (.bool false)), .c (.lit (.bool false)), .c (.lit (.bool false)), .c (.lit (.bool false)), .c (.lit (.bool false)), .c (.lit (.bool false)), .c (.lit (.bool false)), .c (.lit (.bool false)), .c (.lit (.bool false)), .c (.lit (.bool false)), .c (.lit (.bool false)), .c (.lit (.bool false)), .c (.lit (.bool false)), .c (.lit (.bool false)), .c (.lit (.bool false)), .c (.lit (.bool false)), .c (.lit (.bool false)), .c (.lit (.bool false)), .c (.lit (.bool false)), .c (.lit (.bool false)), .c (.lit (.bool false)), .c (.lit (.bool false)), .c (.lit (.bool false)), .c (.lit (.bool false)), .c (.lit (.bool false)), .c (.lit (.bool false)), .c (.lit (.bool false)), .c (.lit (.bool false)), .c (.lit (.bool false)), .c (.lit (.bool false)), .c (.lit (.bool false)), .c (.lit (.bool false)), .c (.lit (.bool false)), .c (.lit (.bool false)), .c (.lit (.bool false)), .c (.lit (.bool false)), .c (.lit (.bool false)), .c (.lit (.bool false)), .c (.lit (.bool false)), .c (.lit (.bool false)), .c (.lit (.bool false)), .c (.lit (.bool false)), .c (.lit (.bool false)), .c (.lit (.bool false)), .c (.lit (.bool false)), .c (.lit (.bool false)), .c (.lit (.bool false)), .c (.lit (.bool false)), .c (.lit (.bool false)), .c (.lit (.bool false)), .c (.lit (.bool false)), .c (.lit (.bool false)), .c (.lit (.bool false)), .c (.lit (.bool false)), .c (.lit (.bool false)), .c (.lit (.bool false)), .c (.lit (.bool false)), .c (.lit (.bool false)), .c (.lit (.bool false)), .c (.lit (.bool false)), .c (.lit (.bool false)), .c (.lit (.bool false)), .c (.lit (.bool false)), .c (.lit (.bool false)), .c (.lit (.bool false)), .c (.lit (.bool false)), .c (.lit (.bool false)), .c (.lit (.bool false)), .c (.lit (.bool false)), .c (.lit (.bool true)), .c (.lit (.bool false)), .c (.lit (.bool true)), .c (.lit (.bool false)), .c (.lit (.bool false)), .c (.lit (.bool false)), .c (.lit (.bool false)), .c (.lit (.bool false)), .c (.lit (.bool false)), .c (.lit (.bool false)), .c (.lit (.bool false)), .c (.lit (.bool false)), .c (.lit (.bool false)), .c (.lit (.bool false)), .c (.lit (.bool false)), .c (.lit (.bool false)), .c (.lit (.bool false)), .c (.lit (.bool false)), .c (.lit (.bool false)), .c (.lit (.bool false)), .c (.lit (.bool false)), .c (.lit (.bool false)), .c (.lit (.bool false)), .c (.lit (.bool false)), .c (.lit (.bool false)), .c (.lit (.bool false)), .c (.lit (.bool false)), .c (.lit (.bool false)), .c (.lit (.bool false)), .c (.lit (.bool false)), .c (.lit (.bool false)), .c (.lit (.bool false)), .c (.lit (.bool false)), .c (.lit (.bool true)), .c (.lit (.bool false)), .c (.lit (.bool false)), .c (.lit (.bool false)), .c (.lit (.bool false)), .c (.lit (.bool false)), .c (.lit (.bool false)), .c (.lit (.bool false)), .c (.lit (.bool false)), .c (.lit (.bool false)), .c (.lit (.bool false)), .c (.lit (.bool false)), .c (.lit (.bool false)), .c (.lit (.bool false)), .c (.lit (.bool false)), .c (.lit (.bool false)), .c (.lit (.bool false)), .c (.lit (.bool false)), .c (.lit (.bool false)), .c (.lit (.bool false)), .c (.lit (.bool false)), .c (.lit (.bool false)), .c (.lit (.bool false)), .c (.lit (.bool false)), .c (.lit (.bool false)), .c (.lit (.bool false)), .c (.lit (.bool false)), .c (.lit (.bool false)), .c (.lit (.bool false)), .c (.lit (.bool false)), .c (.lit (.bool false)), .c (.lit (.bool false)), .c (.lit (.bool false)), .c (.lit (.bool false)), .c (.lit (.bool false)), .c (.lit (.bool false)), .c (.lit (.bool false)), .c (.lit (.bool false)), .c (.lit (.bool false)), .c (.lit (.bool false)), .c (.lit (.bool false)), .c (.lit (.bool false)), .c (.lit (.bool false)), .c (.lit (.bool false)), .c (.lit (.bool false)), .c (.lit (.bool false)), .c (.lit (.bool false)), .c (.lit (.bool false)), .c (.lit (.bool false)), .c (.lit (.bool false)), .c (.lit (.bool false)), .c (.lit (.bool false)), .c (.lit (.bool false)), .c (.lit (.bool false)), .c (.lit (.bool false)), .c (.lit (.bool false)), .c (.lit (.bool false)), .c (.lit (.bool false)), .c (.lit (.bool false)), .c (.lit (.bool false)), .c (.lit (.bool false)), .c (.lit (.bool false)), .c (.lit (.bool false)), .c (.lit (.bool false)), .c (.lit (.bool false)), .c (.lit (.bool false)), .c (.lit (.bool false)), .c (.lit (.bool false)), .c (.lit (.bool false)), .c (.lit (.bool false)), .c (.lit (.bool false)), .c (.lit (.bool false)), .c (.lit (.bool false)), .c (.lit (.bool false)), .c (.lit (.bool false)), .c (.lit (.bool false)), .c (.lit (.bool false)), .c (.lit (.bool false)), .c (.lit (.bool false)), .c (.lit (.bool false)), .c (.lit (.bool false)), .c (.lit (.bool false)), .c (.lit (.bool false)), .c (.lit (.bool false)), .c (.lit (.bool false)), .c (.lit (.bool false)), .c (.lit (.bool false)), .c (.lit (.bool false)), .c (.lit (.bool false)), .c (.lit (.bool false)), .c (.lit (.bool false)), .c (.lit (.bool false)), .c (.lit (.bool false)), .c (.lit (.bool false)), .c (.lit (.bool false)), .c (.lit (.bool false)), .c (.lit (.bool false)), .c (.lit (.bool false)), .c (.lit (.bool false)), .c (.lit (.bool false)), .c (.lit (.bool false)), .c (.lit (.bool false)), .c (.lit (.bool false)), .c (.lit (.bool false)), .c (.lit (.bool false)), .c (.lit (.bool false)), .c (.lit (.bool false)), .c (.lit (.bool false)), .c (.lit (.bool false)), .c (.lit (.bool false)), .c (.lit (.bool false)), .c (.lit (.bool false)), .c (.lit (.bool false)), .c (.lit (.bool false)), .c (.lit (.bool false)), .c (.lit (.bool false)), .c (.lit (.bool false)), .c (.lit (.bool false)), .c (.lit (.bool false)), .c (.lit (.bool false)), .c (.lit (.bool false)), .c (.lit (.bool false)), .c (.lit (.bool false)), .c (.lit (.bool false)), .c (.lit (.bool false)), .c (.lit (.bool false)), .c (.lit (.bool false)), .c (.lit (.bool false)), .c (.lit (.bool false)), .c (.lit (.bool false)), .c (.lit (.bool false)), .c (.lit (.bool false))])], nx_8⟩) (fun ⟨fuel19, i7, nx_8⟩ => fuel19) ⟨FUEL, 0, nx_5 + 1⟩ ?_ (Weak.to [0, 6, 8] [0] rfl) ?_
          · exact hr
          · rintro ⟨fuel19, i7, nx_8⟩ (hr : f_strings_IndexAny_1877_l1 s fuel19 i7 = some x14)
            cases fuel19 with
            | zero => rw [f_strings_IndexAny_1877_l1] at hr; cases hr
            | succ fuel19 =>
              rw [f_strings_IndexAny_1877_l1] at hr
              refine Tri.seq ?_
              refine Tri.seq ?_
              refine Tri.region ?_
              refine R.flo Gd.no (Y.move rfl) ?_
              refine R.flo Gd.no (Y.move rfl) ?_
              refine R.flo Gd.no (Y.lenS Tryz.underlying9 rfl rfl) ?_
              refine R.flo Gd.no (Y.lssI rfl rfl) ?_
              refine R.nil ?_
              refine Tri.cond rfl (fun hc9 => ?_) (fun hc9 => ?_)
              · replace hr := cond_t hc9 hr
                refine Tri.skip ?_
                refine Tri.seq ?_
                refine Tri.block ?_
                refine Tri.seq ?_
                refine Tri.region ?_
                refine R.flo Gd.no (Y.move rfl) ?_
                refine R.flo Gd.no (Y.move rfl) ?_
                replace hr := bind_inv hr
                obtain ⟨c10, hc10, hr⟩ := hr
                refine R.flo Gd.no (Y.idxS i7 Tryz.underlying9 rfl rfl hc10) ?_
                replace hr := bind_inv hr
                obtain ⟨r11, hcr11, hr⟩ := hr
                refine R.call (H1 := [(nx_5, .box 153 [.c (.lit (.bool false)), .c (.lit (.bool false)), .c (.lit (.bool false)), .c (.lit (.bool false)), .c (.lit (.bool false)), .c (.lit (.bool false)), .c (.lit (.bool false)), .c (.lit (.bool false)), .c (.lit (.bool false)), .c (.lit (.bool false)), .c (.lit (.bool false)), .c (.lit (.bool false)), .c (.lit (.bool false)), .c (.lit (.bool false)), .c (.lit (.bool false)), .c (.lit (.bool false)), .c (.lit (.bool false)), .c (.lit (.bool false)), .c (.lit (.bool false)), .c (.lit (.bool false)), .c (.lit (.bool false)), .c (.lit (.bool false)), .c (.lit (.bool false)), .c (.lit (.bool false)), .c (.lit (.bool false)), .c (.lit (.bool false)), .c (.lit (.bool false)), .c (.lit (.bool false)), .c (.lit (.bool false)), .c (.lit (.bool false)), .c (.lit (.bool false)), .c (.lit (.bool false)), .c (.lit (.bool false)), .c (.lit (.bool false)), .c (.lit (.bool false)), .c (.lit (.bool false)), .c (.lit (.bool false)), .c (.lit (.bool false)), .c (.lit (.bool false)), .c (.lit (.bool false)), .c (.lit (.bool false)), .c (.lit (.bool false)), .c (.lit (.bool false)), .c (.lit (.bool false)), .c (.lit (.bool false)), .c (.lit (.bool false)), .c (.lit (.bool false)), .c (.lit (.bool false)), .c (.lit (.bool false)), .c (.lit (.bool false)), .c (.lit (.bool false)), .c (.lit (.bool false)), .c (.lit (.bool false)), .c (.lit (.bool false)), .c (.lit (.bool false)), .c (.lit (.bool false)), .c (.lit (.bool false)), .c (.lit (.bool false)), .c (.lit (.bool false)), .c (.lit (.bool false)), .c (.lit (.bool false)), .c (.lit (.bool false)), .c (.lit (.bool false)), .c (.lit (.bool false)), .c (.lit (.bool false)), .c (.lit (.bool false)), .c (.lit (.bool false)), .c (.lit (.bool false)), .c (.lit (.bool false)), .c (.lit (.bool false)), .c (.lit (.bool false)), .c (.lit (.bool false)), .c (.lit (.bool false)), .c (.lit (.bool false)), .c (.lit (.bool false)), .c (.lit (.bool false)), .c (.lit (.bool false)), .c (.lit (.bool false)), .c (.lit (.bool false)), .c (.lit (.bool false)), .c (.lit (.bool false)), .c (.lit (.bool false)), .c (.lit (.bool false)), .c (.lit (.bool false)), .c (.lit (.bool false)), .c (.lit (.bool false)), .c (.lit (.bool false)), .c (.lit (.bool false)), .c (.lit (.bool false)), .c (.lit (.bool false)), .c (.lit (.bool false)), .c (.lit (.bool true)), .c (.lit (.bool false)), .c (.lit (.bool true)), .c (.lit (.bool false)), .c (.lit (.bool false)), .c (.lit (.bool false)), .c (.lit (.bool false)), .c (.lit (.bool false)), .c (.lit (.bool false)), .c (.lit (.bool false)), .c (.lit (.bool false)), .c (.lit (.bool false)), .c (.lit (.bool false)), .c (.lit (.bool false)), .c (.lit (.bool false)), .c (.lit (.bool false)), .c (.lit (.bool false)), .c (.lit (.bool false)), .c (.lit (.bool false)), .c (.lit (.bool false)), .c (.lit (.bool false)), .c (.lit (.bool false)), .c (.lit (.bool false)), .c (.lit (.bool false)), .c (.lit (.bool false)), .c (.lit (.bool false)), .c (.lit (.bool false)), .c (.lit (.bool false)), .c (.lit (.bool false)), .c (.lit (.bool false)), .c (.lit (.bool false)), .c (.lit (.bool false)), .c (.lit (.bool false)), .c (.lit (.bool true)), .c (.lit (.bool false)), .c (.lit (.bool false)), .c (.lit (.bool false)), .c (.lit (.bool false)), .c (.lit (.bool false)), .c (.lit (.bool false)), .c (.lit (.bool false)), .c (.lit (.bool false)), .c (.lit (.bool false)), .c (.lit (.bool false)), .c (.lit (.bool false)), .c (.lit (.bool false)), .c (.lit (.bool false)), .c (.lit (.bool false)), .c (.lit (.bool false)), .c (.lit (.bool false)), .c (.lit (.bool false)), .c (.lit (.bool false)), .c (.lit (.bool false)), .c (.lit (.bool false)), .c (.lit (.bool false)), .c (.lit (.bool false)), .c (.lit (.bool false)), .c (.lit (.bool false)), .c (.lit (.bool false)), .c (.lit (.bool false)), .c (.lit (.bool false)), .c (.lit (.bool false)), .c (.lit (.bool false)), .c (.lit (.bool false)), .c (.lit (.bool false)), .c (.lit (.bool false)), .c (.lit (.bool false)), .c (.lit (.bool false)), .c (.lit (.bool false)), .c (.lit (.bool false)), .c (.lit (.bool false)), .c (.lit (.bool false)), .c (.lit (.bool false)), .c (.lit (.bool false)), .c (.lit (.bool false)), .c (.lit (.bool false)), .c (.lit (.bool false)), .c (.lit (.bool false)), .c (.lit (.bool false)), .c (.lit (.bool false)), .c (.lit (.bool false)), .c (.lit (.bool false)), .c (.lit (.bool false)), .c (.lit (.bool false)), .c (.lit (.bool false)), .c (.lit (.bool false)), .c (.lit (.bool false)), .c (.lit (.bool false)), .c (.lit (.bool false)), .c (.lit (.bool false)), .c (.lit (.bool false)), .c (.lit (.bool false)), .c (.lit (.bool false)), .c (.lit (.bool false)), .c (.lit (.bool false)), .c (.lit (.bool false)), .c (.lit (.bool false)), .c (.lit (.bool false)), .c (.lit (.bool false)), .c (.lit (.bool false)), .c (.lit (.bool false)), .c (.lit (.bool false)), .c (.lit (.bool false)), .c (.lit (.bool false)), .c (.lit (.bool false)), .c (.lit (.bool false)), .c (.lit (.bool false)), .c (.lit (.bool false)), .c (.lit (.bool false)), .c (.lit (.bool false)), .c (.lit (.bool false)), .c (.lit (.bool false)), .c (.lit (.bool false)), .c (.lit (.bool false)), .c (.lit (.bool false)), .c (.lit (.bool false)), .c (.lit (.bool false)), .c (.lit (.bool false)), .c (.lit (.bool false)), .c (.lit (.bool false)), .c (.lit (.bool false)), .c (.lit (.bool false)), .c (.lit (.bool false)), .c (.lit (.bool false)), .c (.lit (.bool false)), .c (.lit (.bool false)), .c (.lit (.bool false)), .c (.lit (.bool false)), .c (.lit (.bool false)), .c (.lit (.bool false)), .c (.lit (.bool false)), .c (.lit (.bool false)), .c (.lit (.bool false)), .c (.lit (.bool false)), .c (.lit (.bool false)), .c (.lit (.bool false)), .c (.lit (.bool false)), .c (.lit (.bool false)), .c (.lit (.bool false)), .c (.lit (.bool false)), .c (.lit (.bool false)), .c (.lit (.bool false)), .c (.lit (.bool false)), .c (.lit (.bool false)), .c (.lit (.bool false)), .c (.lit (.bool false)), .c (.lit (.bool false)), .c (.lit (.bool false)), .c (.lit (.bool false)), .c (.lit (.bool false)), .c (.lit (.bool false)), .c (.lit (.bool false)), .c (.lit (.bool false)), .c (.lit (.bool false)), .c (.lit (.bool false)), .c (.lit (.bool false)), .c (.lit (.bool false)), .c (.lit (.bool false)), .c (.lit (.bool false)), .c (.lit (.bool false)), .c (.lit (.bool false)), .c (.lit (.bool false)), .c (.lit (.bool false)), .c (.lit (.bool false)), .c (.lit (.bool false))])]) (H2 := []) Gd.no Tryz.en123 rfl (ok_strings_asciiSet_contains_124d hcr11 nx_5 nx_8) (perm_idx [0] rfl) (fun _ _ nx_12 hq => ?_)
                obtain ⟨rfl, rfl⟩ := hq
                refine R.nil ?_
                refine Tri.cond rfl (fun hc13 => ?_) (fun hc13 => ?_)
                · replace hr := cond_t hc13 hr
                  refine Tri.seq ?_
                  refine Tri.region ?_
                  refine R.flo Gd.no (Y.move rfl) ?_
                  refine R.flo Gd.no (Y.assign rfl) ?_
                  refine R.nil ?_
                  have hx := Option.some.inj hr
                  subst hx
                  have hr := sum_r hox14
                  have hx := Option.some.inj hr
                  subst hx
                  have hr := sum_r hox20
                  refine Tri.weak (Weak.to [4] [] rfl) ?_
                  refine Tri.ret ?_
                  have hx := Option.some.inj hr
                  subst hx
                  exact ⟨.inl rfl, _, .inr (.inl ⟨_, _, rfl, rfl, rfl⟩), ⟨rfl, rfl⟩⟩
                · replace hr := cond_f hc13 hr
                  refine Tri.skip ?_
                  refine Tri.region ?_
                  refine R.flo Gd.no (Y.move rfl) ?_
                  replace hr := ckI_inv hr
                  obtain ⟨ha, hb, hr⟩ := hr
                  refine R.flo Gd.no (Y.addI rfl rfl ha hb) ?_
                  refine R.flo Gd.no (Y.assign rfl) ?_
                  refine R.nil ?_
                  refine back_mk ⟨fuel19, i7 + 1, nx_12⟩ hr (Nat.lt_succ_self _) (Weak.to [0, 6, 8] [0] rfl)
              · replace hr := cond_f hc9 hr
                refine Tri.exit ?_
                have hx := Option.some.inj hr
                subst hx
                refine meet_mk ⟨(), nx_8⟩ rfl (Weak.to [] [] rfl)
        · subst hx
          have hr := sum_l hox14
          refine Tri.seq ?_
          refine Tri.region ?_
          refine R.flo Gd.no (Y.assign rfl) ?_
          refine R.nil ?_
          have hx := Option.some.inj hr
          subst hx
          have hr := sum_r hox20
          refine Tri.ret ?_
          have hx := Option.some.inj hr
          subst hx
          exact ⟨.inl rfl, _, .inr (.inl ⟨_, _, rfl, rfl, rfl⟩), ⟨rfl, rfl⟩⟩
      · replace hr := cond_f hc6 hr
        refine Tri.skip ?_
        have hx := Option.some.inj hr
        subst hx
        refine meet_mk ⟨(), nx_5 + 1⟩ rfl (Weak.to [0, 1] [] rfl)
    · replace hr := cond_f hc3 hr
      refine Tri.skip ?_
      have hx := Option.some.inj hr
      subst hx
      refine meet_mk ⟨(), nx_2⟩ rfl (Weak.to [0, 1] [] rfl)
  · subst hx
    have hr := sum_l hox20
    refine Tri.seq ?_
    refine Tri.seq ?_
    refine Tri.region ?_
    refine R.flo Gd.no (Y.move rfl) ?_
    refine R.eff Gd.no (E.rangeS Tryz.underlying9 rfl) ?_
    refine R.nil ?_
    replace hr := bind_inv hr
    obtain ⟨x31, hr, hox31⟩ := hr
    refine Tri.meet1 (α := Unit × Nat) (fun ⟨s32, nx_33⟩ => (.inl s32) = x31) (fun ⟨s32, nx_33⟩ => ⟨55, [], [], nx_33⟩) ?_ (fun ⟨s32, nx_33⟩ hx => ?_)
    · refine Tri.block ?_
      refine Tri.loop (α := Nat × Nat × Nat) (fun ⟨fuel36, v25, nx_26⟩ => f_strings_IndexAny_1877_l2 s fuel36 v25 = some x31) (fun ⟨fuel36, v25, nx_26⟩ => ⟨55, [(1, some (.v (.one (.c (.lit (str ([91, 93, 124] : Bytes))))))), (45, some (.v (.one (.obj nx_22))))], [(nx_22, .iter s v25)], nx_26⟩) (fun ⟨fuel36, v25, nx_26⟩ => fuel36) ⟨FUEL, 0, nx_22 + 1⟩ ?_ (Weak.to [1, 45] [0] rfl) ?_
      · exact hr
      · rintro ⟨fuel36, v25, nx_26⟩ (hr : f_strings_IndexAny_1877_l2 s fuel36 v25 = some x31)
        cases fuel36 with
        | zero => rw [f_strings_IndexAny_1877_l2] at hr; cases hr
        | succ fuel36 =>
          rw [f_strings_IndexAny_1877_l2] at hr
          refine Tri.seq ?_
          refine Tri.region ?_
          by_cases hp27 : v25 < s.length
          · replace hr := cond_t (decide_eq_true hp27) hr
            refine R.eff Gd.no (E.nextT 0 rfl rfl hp27) ?_
            refine R.flo Gd.no (Y.extract rfl rfl) ?_
            refine R.nil ?_
            refine Tri.seq ?_
            refine Tri.condT rfl ?_
            refine Tri.skip ?_
            refine Tri.block ?_
            refine Tri.seq ?_
            refine Tri.region ?_
            refine R.flo Gd.no (Y.extract rfl rfl) ?_
            refine R.flo Gd.no (Y.extract rfl rfl) ?_
            refine R.flo Gd.no (Y.assign rfl) ?_
            refine R.flo Gd.no (Y.assign rfl) ?_
            refine R.nil ?_
            refine Tri.seq ?_
            refine Tri.region ?_
            refine R.flo Gd.no (Y.move rfl) ?_
            refine R.flo Gd.no (Y.move rfl) ?_
            replace hr := bind_inv hr
            obtain ⟨r28, hcr28, hr⟩ := hr
            refine R.call (H1 := []) (H2 := [(nx_22, .iter s (v25 + (runeAt s v25).2))]) Gd.no Tryz.en120 rfl (ok_strings_IndexRune_1289 hcr28 nx_26) (perm_idx [0] rfl) (fun _ _ nx_29 hq => ?_)
            obtain ⟨rfl, rfl⟩ := hq
            refine R.flo Gd.no (Y.geqI rfl rfl) ?_
            refine R.nil ?_
            refine Tri.cond rfl (fun hc30 => ?_) (fun hc30 => ?_)
            · replace hr := cond_t hc30 hr
              refine Tri.seq ?_
              refine Tri.region ?_
              refine R.flo Gd.no (Y.move rfl) ?_
              refine R.flo Gd.no (Y.assign rfl) ?_
              refine R.nil ?_
              have hx := Option.some.inj hr
              subst hx
              have hr := sum_r hox31
              refine Tri.weak (Weak.to [4] [] rfl) ?_
              refine Tri.ret ?_
              have hx := Option.some.inj hr
              subst hx
              exact ⟨.inl rfl, _, .inr (.inl ⟨_, _, rfl, rfl, rfl⟩), ⟨rfl, rfl⟩⟩
            · replace hr := cond_f hc30 hr
              refine Tri.skip ?_
              refine back_mk ⟨fuel36, v25 + (runeAt s v25).2, nx_29⟩ hr (Nat.lt_succ_self _) (Weak.to [1, 45] [0] rfl)
          · replace hr := cond_f (decide_eq_false hp27) hr
            refine R.flo Gd.no (Y.nextF 0 rfl rfl hp27) ?_
            refine R.flo Gd.no (Y.extract rfl rfl) ?_
            refine R.nil ?_
            refine Tri.seq ?_
            refine Tri.condF rfl ?_
            refine Tri.exit ?_
            have hx := Option.some.inj hr
            subst hx
            refine meet_mk ⟨(), nx_26⟩ rfl (Weak.to [] [] rfl)
    · subst hx
      have hr := sum_l hox31
      refine Tri.seq ?_
      refine Tri.region ?_
      refine R.flo Gd.no (Y.assign rfl) ?_
      refine R.nil ?_
      refine Tri.ret ?_
      have hx := Option.some.inj hr
      subst hx
      exact ⟨.inl rfl, _, .inr (.inl ⟨_, _, rfl, rfl, rfl⟩), ⟨rfl, rfl⟩⟩
theorem ok_strings_ContainsAny_1877 {s : Bytes} {r : Bool} (hr : f_strings_ContainsAny_1877 s = some r) (nx : Nat) : OkH Tryz.prog 112 [.one (.c (.lit (str s))), .one (.c (.lit (str ([91, 93, 124] : Bytes))))] [] nx fun v H' _ => v = .v (.one (.c (.lit (.bool r)))) ∧ H' = [] := by
  refine OkH.intro Tryz.func112 rfl Tryz.ntmps112 (by simp) ?_
  unfold f_strings_ContainsAny_1877 at hr
  refine Tri.seq ?_
  refine Tri.region ?_
  refine R.flo Gd.no (Y.assign rfl) ?_
  refine R.nil ?_
  refine Tri.seq ?_
  refine Tri.region ?_
  refine R.flo Gd.no (Y.move rfl) ?_
  refine R.flo Gd.no (Y.move rfl) ?_
  replace hr := bind_inv hr
  obtain ⟨r1, hcr1, hr⟩ := hr
  refine R.call (H1 := []) (H2 := []) Gd.no Tryz.en118 rfl (ok_strings_IndexAny_1877 hcr1 nx) (perm_idx [] rfl) (fun _ _ nx_2 hq => ?_)
  obtain ⟨rfl, rfl⟩ := hq
  refine R.flo Gd.no (Y.geqI rfl rfl) ?_
  refine R.flo Gd.no (Y.assign rfl) ?_
  refine R.nil ?_
  refine Tri.ret ?_
  have hx := Option.some.inj hr
  subst hx
  exact ⟨.inl rfl, _, .inr (.inl ⟨_, _, rfl, rfl, rfl⟩), ⟨rfl, rfl⟩⟩
theorem ok_prop_checkText {v : PVal} {r : Int} (hr : f_prop_checkText v = some r) (nx : Nat) : OkH Tryz.prog 99 [.agg [.c (.lit (.int .i64 v.kind)), .c (.lit (.int .i64 v.int)), .c (.lit (.int .i64 v.to)), .c (.lit (str v.text)), .c (.ro 5 false (encItems v))]] [] nx fun v H' _ => v = .v (.one (.c (.lit (.int .i64 r)))) ∧ H' = [] := by
  refine OkH.intro Tryz.func99 rfl Tryz.ntmps99 (by simp) ?_
  unfold f_prop_checkText at hr
  refine Tri.seq ?_
  refine Tri.region ?_
  refine R.eff Gd.no (E.box (cs := [.c (.lit (.int .i64 v.kind)), .c (.lit (.int .i64 v.int)), .c (.lit (.int .i64 v.to)), .c (.lit (str v.text)), .c (.ro 5 false (encItems v))]) rfl rfl rfl) ?_
  refine R.flo Gd.no (Y.assign rfl) ?_
  refine R.nil ?_
  refine Tri.seq ?_
  refine Tri.region ?_
  refine R.flo Gd.no (Y.fieldP Tryz.fo89_3 rfl) ?_
  refine R.flo Gd.no (Y.loadB1 rfl 0 rfl rfl Tryz.isAgg9) ?_
  refine R.flo Gd.no (Y.assign rfl) ?_
  refine R.nil ?_
  refine Tri.seq ?_
  refine Tri.block ?_
  replace hr := bind_inv hr
  obtain ⟨x3, hr, hox3⟩ := hr
  refine Tri.meet (α := Bool × Nat) (fun ⟨s4, nx_5⟩ => s4 = x3) (fun ⟨s4, nx_5⟩ => ⟨48, [(1, some (.v (.one (.ptr nx 0 0)))), (3, some (.v (.one (.c (.lit (str v.text)))))), (6, some (.v (.one (.c (.lit (.bool s4))))))], [(nx, .box 89 [.c (.lit (.int .i64 v.kind)), .c (.lit (.int .i64 v.int)), .c (.lit (.int .i64 v.to)), .c (.lit (str v.text)), .c (.ro 5 false (encItems v))])], nx_5⟩) ?_ (fun ⟨s4, nx_5⟩ hx => ?_)
  · refine Tri.region ?_
    refine R.flo Gd.no (Y.move rfl) ?_
    refine R.flo Gd.no (Y.lenS Tryz.underlying9 rfl rfl) ?_
    refine R.flo Gd.no (Y.gtrI rfl rfl) ?_
    refine R.flo Gd.no (Y.move rfl) ?_
    refine TOps.part (b := decide ((2000 : Int) < (v.text.length : Int))) (fun bhb1 hb1 => ?_)
    cases bhb1
    · rw [hb1]; replace hr := cond_f hb1 hr
      refine R.flo (Gd.t 3 false 10 rfl rfl) (Y.fieldP Tryz.fo89_0 rfl) ?_
      refine R.flo (Gd.t 3 false 10 rfl rfl) (Y.loadB1 rfl 0 rfl rfl Tryz.isAgg3) ?_
      refine R.flo (Gd.t 3 false 10 rfl rfl) (Y.eqlI rfl rfl) ?_
      refine R.flo (Gd.t 3 false 10 rfl rfl) (Y.move rfl) ?_
      refine TOps.part (b := decide (v.kind = (6 : Int))) (fun bhb2 hb2 => ?_)
      cases bhb2
      · rw [hb2]; replace hr := cond_f hb2 hr
        refine R.skip (.f 7 false 14 rfl rfl) ?_
        refine R.skip (.f 7 false 14 rfl rfl) ?_
        refine R.skip (.f 7 false 14 rfl rfl) ?_
        refine R.flo (Gd.t 3 false 10 rfl rfl) (Y.pickF rfl rfl) ?_
        refine R.flo Gd.no (Y.pickF rfl rfl) ?_
        refine R.flo Gd.no (Y.assign rfl) ?_
        refine R.nil ?_
        have hx := Option.some.inj hr
        subst hx
        refine meet_mk ⟨false, nx + 1⟩ rfl (Weak.to [1, 3, 6] [0] rfl)
      · rw [hb2]; replace hr := cond_t hb2 hr
        refine R.flo (Gd.t 7 true 14 rfl rfl) (Y.move rfl) ?_
        refine R.flo (Gd.t 7 true 14 rfl rfl) (Y.lenS Tryz.underlying9 rfl rfl) ?_
        refine R.flo (Gd.t 7 true 14 rfl rfl) (Y.gtrI rfl rfl) ?_
        refine R.flo (Gd.t 3 false 10 rfl rfl) (Y.pickT rfl rfl) ?_
        refine R.flo Gd.no (Y.pickF rfl rfl) ?_
        refine R.flo Gd.no (Y.assign rfl) ?_
        refine R.nil ?_
        have hx := Option.some.inj hr
        subst hx
        refine meet_mk ⟨decide ((100 : Int) < (v.text.length : Int)), nx + 1⟩ rfl (Weak.to [1, 3, 6] [0] rfl)
    · rw [hb1]; replace hr := cond_t hb1 hr
      refine R.skip (.f 3 true 10 rfl rfl) ?_
      refine R.skip (.f 3 true 10 rfl rfl) ?_
      refine R.skip (.f 3 true 10 rfl rfl) ?_
      refine R.skip (.f 3 true 10 rfl rfl) ?_
      refine R.skip (.u 7 true 14 rfl rfl) ?_
      refine R.skip (.u 7 true 14 rfl rfl) ?_
      refine R.skip (.u 7 true 14 rfl rfl) ?_
      refine R.skip (.f 3 true 10 rfl rfl) ?_
      refine R.flo Gd.no (Y.pickT rfl rfl) ?_
      refine R.flo Gd.no (Y.assign rfl) ?_
      refine R.nil ?_
      have hx := Option.some.inj hr
      subst hx
      refine meet_mk ⟨true, nx + 1⟩ rfl (Weak.to [1, 3, 6] [0] rfl)
  · subst hx
    have hr := hox3
    refine Tri.cond rfl (fun hc6 => ?_) (fun hc6 => ?_)
    · replace hr := cond_t hc6 hr
      refine Tri.seq ?_
      refine Tri.region ?_
      refine R.flo Gd.no (Y.assign rfl) ?_
      refine R.nil ?_
      refine Tri.weak (Weak.to [2] [] rfl) ?_
      refine Tri.ret ?_
      have hx := Option.some.inj hr
      subst hx
      exact ⟨.inl rfl, _, .inr (.inl ⟨_, _, rfl, rfl, rfl⟩), ⟨rfl, rfl⟩⟩
    · replace hr := cond_f hc6 hr
      refine Tri.seq ?_
      refine Tri.region ?_
      refine R.flo Gd.no (Y.move rfl) ?_
      replace hr := bind_inv hr
      obtain ⟨r7, hcr7, hr⟩ := hr
      refine R.call (H1 := []) (H2 := [(nx, .box 89 [.c (.lit (.int .i64 v.kind)), .c (.lit (.int .i64 v.int)), .c (.lit (.int .i64 v.to)), .c (.lit (str v.text)), .c (.ro 5 false (encItems v))])]) Gd.no Tryz.en111 rfl (ok_prop_hasControl hcr7 nx_5) (perm_idx [0] rfl) (fun _ _ nx_8 hq => ?_)
      obtain ⟨rfl, rfl⟩ := hq
      refine R.flo Gd.no (Y.assign rfl) ?_
      refine R.nil ?_
      refine Tri.cond rfl (fun hc9 => ?_) (fun hc9 => ?_)
      · replace hr := cond_t hc9 hr
        refine Tri.seq ?_
        refine Tri.region ?_
        refine R.flo Gd.no (Y.assign rfl) ?_
        refine R.nil ?_
        refine Tri.weak (Weak.to [2] [] rfl) ?_
        refine Tri.ret ?_
        have hx := Option.some.inj hr
        subst hx
        exact ⟨.inl rfl, _, .inr (.inl ⟨_, _, rfl, rfl, rfl⟩), ⟨rfl, rfl⟩⟩
      · replace hr := cond_f hc9 hr
        replace hr := bind_inv hr
        obtain ⟨x19, hr, hox19⟩ := hr
        refine Tri.meet (α := Bool × Nat) (fun ⟨s20, nx_21⟩ => s20 = x19) (fun ⟨s20, nx_21⟩ => ⟨48, [(23, some (.v (.one (.c (.lit (.bool s20))))))], [], nx_21⟩) ?_ (fun ⟨s20, nx_21⟩ hx => ?_)
        · refine Tri.region ?_
          refine R.flo Gd.no (Y.fieldP Tryz.fo89_0 rfl) ?_
          refine R.flo Gd.no (Y.loadB1 rfl 0 rfl rfl Tryz.isAgg3) ?_
          refine R.flo Gd.no (Y.eqlI rfl rfl) ?_
          refine R.flo Gd.no (Y.move rfl) ?_
          refine TOps.part (b := decide (v.kind = (6 : Int))) (fun bhb10 hb10 => ?_)
          cases bhb10
          · rw [hb10]; replace hr := cond_f hb10 hr
            refine R.skip (.f 3 false 27 rfl rfl) ?_
            refine R.skip (.f 3 false 27 rfl rfl) ?_
            refine R.skip (.f 3 false 27 rfl rfl) ?_
            refine R.skip (.u 6 false 30 rfl rfl) ?_
            refine R.skip (.u 6 false 30 rfl rfl) ?_
            refine R.skip (.u 6 false 30 rfl rfl) ?_
            refine R.skip (.f 3 false 27 rfl rfl) ?_
            refine R.skip (.f 3 false 27 rfl rfl) ?_
            refine R.skip (.u 11 false 35 rfl rfl) ?_
            refine R.skip (.u 11 false 35 rfl rfl) ?_
            refine R.skip (.u 11 false 35 rfl rfl) ?_
            refine R.skip (.u 11 false 35 rfl rfl) ?_
            refine R.skip (.u 11 false 35 rfl rfl) ?_
            refine R.skip (.u 11 false 35 rfl rfl) ?_
            refine R.skip (.f 3 false 27 rfl rfl) ?_
            refine R.skip (.f 3 false 27 rfl rfl) ?_
            refine R.skip (.u 19 false 43 rfl rfl) ?_
            refine R.skip (.u 19 false 43 rfl rfl) ?_
            refine R.skip (.f 3 false 27 rfl rfl) ?_
            refine R.flo Gd.no (Y.pickF rfl rfl) ?_
            refine R.flo Gd.no (Y.assign rfl) ?_
            refine R.nil ?_
            have hx := Option.some.inj hr
            subst hx
            refine meet_mk ⟨false, nx_8⟩ rfl (Weak.to [23] [] rfl)
          · rw [hb10]; replace hr := cond_t hb10 hr
            refine R.flo (Gd.t 3 true 27 rfl rfl) (Y.move rfl) ?_
            refine R.flo (Gd.t 3 true 27 rfl rfl) (Y.eqlS rfl rfl) ?_
            refine R.flo (Gd.t 3 true 27 rfl rfl) (Y.move rfl) ?_
            refine TOps.part (b := decide (v.text = ([] : Bytes))) (fun bhb11 hb11 => ?_)
            cases bhb11
            · rw [hb11]; replace hr := cond_f hb11 hr
              refine R.flo (Gd.t 6 false 30 rfl rfl) (Y.move rfl) ?_
              replace hr := bind_inv hr
              obtain ⟨c12, hc12, hr⟩ := hr
              refine R.flo (Gd.t 6 false 30 rfl rfl) (Y.idxS 0 Tryz.underlying9 rfl rfl hc12) ?_
              refine R.flo (Gd.t 6 false 30 rfl rfl) (Y.eqlI rfl rfl) ?_
              refine R.flo (Gd.t 3 true 27 rfl rfl) (Y.pickF rfl rfl) ?_
              refine R.flo (Gd.t 3 true 27 rfl rfl) (Y.move rfl) ?_
              refine TOps.part (b := decide ((c12.toNat : Int) = (32 : Int))) (fun bhb13 hb13 => ?_)
              cases bhb13
              · rw [hb13]; replace hr := cond_f hb13 hr
                refine R.flo (Gd.t 11 false 35 rfl rfl) (Y.move rfl) ?_
                refine R.flo (Gd.t 11 false 35 rfl rfl) (Y.move rfl) ?_
                refine R.flo (Gd.t 11 false 35 rfl rfl) (Y.lenS Tryz.underlying9 rfl rfl) ?_
                replace hr := ckI_inv hr
                obtain ⟨ha, hb, hr⟩ := hr
                refine R.flo (Gd.t 11 false 35 rfl rfl) (Y.subI rfl rfl ha hb) ?_
                replace hr := atn_inv hr
                obtain ⟨c14, h15, hc14, hr⟩ := hr
                refine R.flo (Gd.t 11 false 35 rfl rfl) (Y.idxS ((((v.text.length : Int)) - 1).toNat) Tryz.underlying9 rfl (ev_tn rfl h15) hc14) ?_
                refine R.flo (Gd.t 11 false 35 rfl rfl) (Y.eqlI rfl rfl) ?_
                refine R.flo (Gd.t 3 true 27 rfl rfl) (Y.pickF rfl rfl) ?_
                refine R.flo (Gd.t 3 true 27 rfl rfl) (Y.move rfl) ?_
                refine TOps.part (b := decide ((c14.toNat : Int) = (32 : Int))) (fun bhb16 hb16 => ?_)
                cases bhb16
                · rw [hb16]; replace hr := cond_f hb16 hr
                  refine R.flo (Gd.t 19 false 43 rfl rfl) (Y.move rfl) ?_
                  replace hr := bind_inv hr
                  obtain ⟨r17, hcr17, hr⟩ := hr
                  refine R.call (H1 := []) (H2 := [(nx, .box 89 [.c (.lit (.int .i64 v.kind)), .c (.lit (.int .i64 v.int)), .c (.lit (.int .i64 v.to)), .c (.lit (str v.text)), .c (.ro 5 false (encItems v))])]) (Gd.t 19 false 43 rfl rfl) Tryz.en112 rfl (ok_strings_ContainsAny_1877 hcr17 nx_8) (perm_idx [0] rfl) (fun _ _ nx_18 hq => ?_)
                  obtain ⟨rfl, rfl⟩ := hq
                  refine R.flo (Gd.t 3 true 27 rfl rfl) (Y.pickF rfl rfl) ?_
                  refine R.flo Gd.no (Y.pickT rfl rfl) ?_
                  refine R.flo Gd.no (Y.assign rfl) ?_
                  refine R.nil ?_
                  have hx := Option.some.inj hr
                  subst hx
                  refine meet_mk ⟨r17, nx_18⟩ rfl (Weak.to [23] [] rfl)
                · rw [hb16]; replace hr := cond_t hb16 hr
                  refine R.skip (.f 19 true 43 rfl rfl) ?_
                  refine R.skip (.f 19 true 43 rfl rfl) ?_
                  refine R.flo (Gd.t 3 true 27 rfl rfl) (Y.pickT rfl rfl) ?_
                  refine R.flo Gd.no (Y.pickT rfl rfl) ?_
                  refine R.flo Gd.no (Y.assign rfl) ?_
                  refine R.nil ?_
                  have hx := Option.some.inj hr
                  subst hx
                  refine meet_mk ⟨true, nx_8⟩ rfl (Weak.to [23] [] rfl)
              · rw [hb13]; replace hr := cond_t hb13 hr
                refine R.skip (.f 11 true 35 rfl rfl) ?_
                refine R.skip (.f 11 true 35 rfl rfl) ?_
                refine R.skip (.f 11 true 35 rfl rfl) ?_
                refine R.skip (.f 11 true 35 rfl rfl) ?_
                refine R.skip (.f 11 true 35 rfl rfl) ?_
                refine R.skip (.f 11 true 35 rfl rfl) ?_
                refine R.flo (Gd.t 3 true 27 rfl rfl) (Y.pickT rfl rfl) ?_
                refine R.flo (Gd.t 3 true 27 rfl rfl) (Y.move rfl) ?_
                refine R.skip (.f 19 true 43 rfl rfl) ?_
                refine R.skip (.f 19 true 43 rfl rfl) ?_
                refine R.flo (Gd.t 3 true 27 rfl rfl) (Y.pickT rfl rfl) ?_
                refine R.flo Gd.no (Y.pickT rfl rfl) ?_
                refine R.flo Gd.no (Y.assign rfl) ?_
                refine R.nil ?_
                have hx := Option.some.inj hr
                subst hx
                refine meet_mk ⟨true, nx_8⟩ rfl (Weak.to [23] [] rfl)
            · rw [hb11]; replace hr := cond_t hb11 hr
              refine R.skip (.f 6 true 30 rfl rfl) ?_
              refine R.skip (.f 6 true 30 rfl rfl) ?_
              refine R.skip (.f 6 true 30 rfl rfl) ?_
              refine R.flo (Gd.t 3 true 27 rfl rfl) (Y.pickT rfl rfl) ?_
              refine R.flo (Gd.t 3 true 27 rfl rfl) (Y.move rfl) ?_
              refine R.skip (.f 11 true 35 rfl rfl) ?_
              refine R.skip (.f 11 true 35 rfl rfl) ?_
              refine R.skip (.f 11 true 35 rfl rfl) ?_
              refine R.skip (.f 11 true 35 rfl rfl) ?_
              refine R.skip (.f 11 true 35 rfl rfl) ?_
              refine R.skip (.f 11 true 35 rfl rfl) ?_
              refine R.flo (Gd.t 3 true 27 rfl rfl) (Y.pickT rfl rfl) ?_
              refine R.flo (Gd.t 3 true 27 rfl rfl) (Y.move rfl) ?_
              refine R.skip (.f 19 true 43 rfl rfl) ?_
              refine R.skip (.f 19 true 43 rfl rfl) ?_
              refine R.flo (Gd.t 3 true 27 rfl rfl) (Y.pickT rfl rfl) ?_
              refine R.flo Gd.no (Y.pickT rfl rfl) ?_
              refine R.flo Gd.no (Y.assign rfl) ?_
              refine R.nil ?_
              have hx := Option.some.inj hr
              subst hx
              refine meet_mk ⟨true, nx_8⟩ rfl (Weak.to [23] [] rfl)
        · subst hx
          have hr := hox19
          refine Tri.cond rfl (fun hc22 => ?_) (fun hc22 => ?_)
          · replace hr := cond_t hc22 hr
            refine Tri.seq ?_
            refine Tri.region ?_
            refine R.flo Gd.no (Y.assign rfl) ?_
            refine R.nil ?_
            refine Tri.ret ?_
            have hx := Option.some.inj hr
            subst hx
            exact ⟨.inl rfl, _, .inr (.inl ⟨_, _, rfl, rfl, rfl⟩), ⟨rfl, rfl⟩⟩
          · replace hr := cond_f hc22 hr
            refine Tri.skip ?_
            refine Tri.seq ?_
            refine Tri.region ?_
            refine R.flo Gd.no (Y.assign rfl) ?_
            refine R.nil ?_
            refine Tri.ret ?_
            have hx := Option.some.inj hr
            subst hx
            exact ⟨.inl rfl, _, .inr (.inl ⟨_, _, rfl, rfl, rfl⟩), ⟨rfl, rfl⟩⟩
theorem ok_prop_CheckValue : ∀ (fuelR : Nat) {v : PVal} {r : Int} (_ : f_prop_CheckValue fuelR v = some r) (nx : Nat), OkH Tryz.prog 75 [.agg [.c (.lit (.int .i64 v.kind)), .c (.lit (.int .i64 v.int)), .c (.lit (.int .i64 v.to)), .c (.lit (str v.text)), .c (.ro 5 false (encItems v))]] [] nx fun v H' _ => v = .v (.one (.c (.lit (.int .i64 r)))) ∧ H' = [] := by
  intro fuelR
  induction fuelR with
  | zero => intro v r hr nx; rw [f_prop_CheckValue] at hr; cases hr
  | succ fuelR ih =>
    intro v r hr nx
    refine OkH.intro Tryz.func75 rfl Tryz.ntmps75 (by simp) ?_
    rw [f_prop_CheckValue] at hr
    refine Tri.seq ?_
    refine Tri.region ?_
    refine R.eff Gd.no (E.box (cs := [.c (.lit (.int .i64 v.kind)), .c (.lit (.int .i64 v.int)), .c (.lit (.int .i64 v.to)), .c (.lit (str v.text)), .c (.ro 5 false (encItems v))]) rfl rfl rfl) ?_
    refine R.flo Gd.no (Y.assign rfl) ?_
    refine R.nil ?_
    refine Tri.seq ?_
    refine Tri.seq ?_
    refine Tri.region ?_
    refine R.flo Gd.no (Y.fieldP Tryz.fo89_0 rfl) ?_
    refine R.flo Gd.no (Y.loadB1 rfl 0 rfl rfl Tryz.isAgg3) ?_
    replace hr := bind_inv hr
    obtain ⟨r1, hcr1, hr⟩ := hr
    refine R.call (H1 := []) (H2 := [(nx, .box 89 [.c (.lit (.int .i64 v.kind)), .c (.lit (.int .i64 v.int)), .c (.lit (.int .i64 v.to)), .c (.lit (str v.text)), .c (.ro 5 false (encItems v))])]) Gd.no Tryz.en96 rfl (ok_prop_outside hcr1 (nx + 1)) (perm_idx [0] rfl) (fun _ _ nx_2 hq => ?_)
    obtain ⟨rfl, rfl⟩ := hq
    refine R.nil ?_
    refine Tri.cond rfl (fun hc3 => ?_) (fun hc3 => ?_)
    · replace hr := cond_t hc3 hr
      refine Tri.seq ?_
      refine Tri.region ?_
      refine R.flo Gd.no (Y.assign rfl) ?_
      refine R.nil ?_
      refine Tri.weak (Weak.to [2] [] rfl) ?_
      refine Tri.ret ?_
      have hx := Option.some.inj hr
      subst hx
      exact ⟨.inl rfl, _, .inr (.inl ⟨_, _, rfl, rfl, rfl⟩), ⟨rfl, rfl⟩⟩
    · replace hr := cond_f hc3 hr
      refine Tri.skip ?_
      refine Tri.seq ?_
      refine Tri.seq ?_
      refine Tri.region ?_
      refine R.flo Gd.no (Y.loadBN rfl 0 rfl Tryz.isAgg89 Tryz.sizeOf89 rfl rfl) ?_
      replace hr := bind_inv hr
      obtain ⟨r4, hcr4, hr⟩ := hr
      refine R.call (H1 := []) (H2 := [(nx, .box 89 [.c (.lit (.int .i64 v.kind)), .c (.lit (.int .i64 v.int)), .c (.lit (.int .i64 v.to)), .c (.lit (str v.text)), .c (.ro 5 false (encItems v))])]) Gd.no Tryz.en97 rfl (ok_prop_usesForm hcr4 nx_2) (perm_idx [0] rfl) (fun _ _ nx_5 hq => ?_)
      obtain ⟨rfl, rfl⟩ := hq
      refine R.flo Gd.no (Y.not rfl) ?_
      refine R.nil ?_
      refine Tri.cond rfl (fun hc6 => ?_) (fun hc6 => ?_)
      · replace hr := cond_t hc6 hr
        refine Tri.seq ?_
        refine Tri.region ?_
        refine R.flo Gd.no (Y.assign rfl) ?_
        refine R.nil ?_
        refine Tri.weak (Weak.to [2] [] rfl) ?_
        refine Tri.ret ?_
        have hx := Option.some.inj hr
        subst hx
        exact ⟨.inl rfl, _, .inr (.inl ⟨_, _, rfl, rfl, rfl⟩), ⟨rfl, rfl⟩⟩
      · replace hr := cond_f hc6 hr
        refine Tri.skip ?_
        refine Tri.seq ?_
        refine Tri.seq ?_
        refine Tri.region ?_
        refine R.flo Gd.no (Y.loadBN rfl 0 rfl Tryz.isAgg89 Tryz.sizeOf89 rfl rfl) ?_
        replace hr := bind_inv hr
        obtain ⟨r7, hcr7, hr⟩ := hr
        refine R.call (H1 := []) (H2 := [(nx, .box 89 [.c (.lit (.int .i64 v.kind)), .c (.lit (.int .i64 v.int)), .c (.lit (.int .i64 v.to)), .c (.lit (str v.text)), .c (.ro 5 false (encItems v))])]) Gd.no Tryz.en98 rfl (ok_prop_checkNumbers hcr7 nx_5) (perm_idx [0] rfl) (fun _ _ nx_8 hq => ?_)
        obtain ⟨rfl, rfl⟩ := hq
        refine R.flo Gd.no (Y.assign rfl) ?_
        refine R.nil ?_
        refine Tri.seq ?_
        refine Tri.region ?_
        refine R.flo Gd.no (Y.move rfl) ?_
        refine R.flo Gd.no (Y.neqI rfl rfl) ?_
        refine R.nil ?_
        refine Tri.cond rfl (fun hc9 => ?_) (fun hc9 => ?_)
        · replace hr := cond_t hc9 hr
          refine Tri.seq ?_
          refine Tri.region ?_
          refine R.flo Gd.no (Y.move rfl) ?_
          refine R.flo Gd.no (Y.assign rfl) ?_
          refine R.nil ?_
          refine Tri.weak (Weak.to [2] [] rfl) ?_
          refine Tri.ret ?_
          have hx := Option.some.inj hr
          subst hx
          exact ⟨.inl rfl, _, .inr (.inl ⟨_, _, rfl, rfl, rfl⟩), ⟨rfl, rfl⟩⟩
        · replace hr := cond_f hc9 hr
          refine Tri.skip ?_
          refine Tri.seq ?_
          refine Tri.seq ?_
          refine Tri.region ?_
          refine R.flo Gd.no (Y.loadBN rfl 0 rfl Tryz.isAgg89 Tryz.sizeOf89 rfl rfl) ?_
          replace hr := bind_inv hr
          obtain ⟨r10, hcr10, hr⟩ := hr
          refine R.call (H1 := []) (H2 := [(nx, .box 89 [.c (.lit (.int .i64 v.kind)), .c (.lit (.int .i64 v.int)), .c (.lit (.int .i64 v.to)), .c (.lit (str v.text)), .c (.ro 5 false (encItems v))])]) Gd.no Tryz.en99 rfl (ok_prop_checkText hcr10 nx_8) (perm_idx [0] rfl) (fun _ _ nx_11 hq => ?_)
          obtain ⟨rfl, rfl⟩ := hq
          refine R.flo Gd.no (Y.assign rfl) ?_
          refine R.nil ?_
          refine Tri.seq ?_
          refine Tri.region ?_
          refine R.flo Gd.no (Y.move rfl) ?_
          refine R.flo Gd.no (Y.neqI rfl rfl) ?_
          refine R.nil ?_
          refine Tri.cond rfl (fun hc12 => ?_) (fun hc12 => ?_)
          · replace hr := cond_t hc12 hr
            refine Tri.seq ?_
            refine Tri.region ?_
            refine R.flo Gd.no (Y.move rfl) ?_
            refine R.flo Gd.no (Y.assign rfl) ?_
            refine R.nil ?_
            refine Tri.weak (Weak.to [2] [] rfl) ?_
            refine Tri.ret ?_
            have hx := Option.some.inj hr
            subst hx
            exact ⟨.inl rfl, _, .inr (.inl ⟨_, _, rfl, rfl, rfl⟩), ⟨rfl, rfl⟩⟩
          · replace hr := cond_f hc12 hr
            refine Tri.skip ?_
            refine Tri.seq ?_
            refine Tri.seq ?_
            refine Tri.region ?_
            refine R.flo Gd.no (Y.fieldP Tryz.fo89_4 rfl) ?_
            refine R.flo Gd.no (Y.loadB1 rfl 0 rfl rfl Tryz.isAgg87) ?_
            refine TOps.fact (Fact.lenR (x := .tmp 25) (n := v.items.length) rfl (encItems_length _)) (fun hl13 => ?_)
            refine R.flo Gd.no (Y.lenR (m := v.items.length) Tryz.underlying87 rfl rfl (encItems_length _)) ?_
            refine R.flo Gd.no (Y.gtrI rfl rfl) ?_
            refine R.nil ?_
            refine Tri.cond rfl (fun hc14 => ?_) (fun hc14 => ?_)
            · replace hr := cond_t hc14 hr
              refine Tri.seq ?_
              refine Tri.region ?_
              refine R.flo Gd.no (Y.assign rfl) ?_
              refine R.nil ?_
              refine Tri.weak (Weak.to [2] [] rfl) ?_
              refine Tri.ret ?_
              have hx := Option.some.inj hr
              subst hx
              exact ⟨.inl rfl, _, .inr (.inl ⟨_, _, rfl, rfl, rfl⟩), ⟨rfl, rfl⟩⟩
            · replace hr := cond_f hc14 hr
              refine Tri.skip ?_
              refine Tri.seq ?_
              refine Tri.seq ?_
              refine Tri.region ?_
              refine R.flo Gd.no (Y.fieldP Tryz.fo89_4 rfl) ?_
              refine R.flo Gd.no (Y.loadB1 rfl 0 rfl rfl Tryz.isAgg87) ?_
              refine TOps.fact (Fact.lenR (x := .tmp 29) (n := v.items.length) rfl (encItems_length _)) (fun hl15 => ?_)
              refine R.flo Gd.no (Y.lenR (m := v.items.length) Tryz.underlying87 rfl rfl (encItems_length _)) ?_
              refine R.flo Gd.no (Y.move rfl) ?_
              refine R.nil ?_
              replace hr := bind_inv hr
              obtain ⟨x28, hr, hox28⟩ := hr
              refine Tri.meet1 (α := Unit × Nat) (fun ⟨s29, nx_30⟩ => (.inl s29) = x28) (fun ⟨s29, nx_30⟩ => ⟨49, [], [], nx_30⟩) ?_ (fun ⟨s29, nx_30⟩ hx => ?_)
              · refine Tri.block ?_
                refine Tri.loop (α := Nat × Nat) (fun ⟨v16, nx_17⟩ => v16 ≤ v.items.length ∧ f_prop_CheckValue_l1 (f_prop_CheckValue fuelR) (v.items.drop v16)  = some x28) (fun ⟨v16, nx_17⟩ => ⟨49, [(29, some (.v (.one (.c (.ro 5 false (encItems v)))))), (30, some (.v (.one (.c (.lit (.int .i64 ((v.items.length : Int)))))))), (31, some (.v (.one (.c (.lit (.int .i64 ((v16 : Int))))))))], [], nx_17⟩) (fun ⟨v16, nx_17⟩ => v.items.length - v16) ⟨0, nx_11⟩ ?_ (Weak.to [29, 30, 31] [] rfl) ?_
                · exact ⟨Nat.zero_le _, hr⟩
                · rintro ⟨v16, nx_17⟩ ⟨hk, hr⟩
                  refine Tri.seq ?_
                  refine Tri.region ?_
                  refine R.flo Gd.no (Y.lssI rfl rfl) ?_
                  refine R.nil ?_
                  refine Tri.seq ?_
                  refine Tri.cond rfl (fun hc => ?_) (fun hc => ?_)
                  · have hk := lt_of_dec hc
                    obtain ⟨x18, hx18⟩ := get_of_lt hk
                    rw [drop_at hx18, f_prop_CheckValue_l1] at hr
                    refine Tri.skip ?_
                    refine Tri.seq ?_
                    refine Tri.block ?_
                    refine Tri.seq ?_
                    refine Tri.region ?_
                    refine R.flo Gd.no (Y.idxR v16 Tryz.underlying87 Tryz.sizeOf89 rfl rfl (items_get hx18)) ?_
                    refine R.flo Gd.no (Y.loadPN rfl Tryz.isAgg89 Tryz.sizeOf89 rfl rfl) ?_
                    refine R.eff Gd.no (E.alloc (cs := [.c (.lit (.int .i64 0)), .c (.lit (.int .i64 0)), .c (.lit (.int .i64 0)), .c (.lit (str ([] : Bytes))), .c (.lit (.slice none 0 0))]) Tryz.et89.zero Tryz.et89.one (by rfl)) ?_
                    refine R.eff Gd.no (E.storeB 0 rfl rfl rfl rfl Tryz.sizeOf89 rfl rfl rfl) ?_
                    refine R.nil ?_
                    refine Tri.seq ?_
                    replace hr := bind_inv hr
                    obtain ⟨x20, hr, hox20⟩ := hr
                    refine Tri.meet (α := Bool × Nat × Nat) (fun ⟨s21, o22, nx_23⟩ => s21 = x20) (fun ⟨s21, o22, nx_23⟩ => ⟨49, [(6, some (.v (.one (.ptr o22 0 0)))), (29, some (.v (.one (.c (.ro 5 false (encItems v)))))), (30, some (.v (.one (.c (.lit (.int .i64 ((v.items.length : Int)))))))), (31, some (.v (.one (.c (.lit (.int .i64 ((v16 : Int)))))))), (42, some (.v (.one (.c (.lit (.bool s21))))))], [(o22, .box 89 [.c (.lit (.int .i64 x18.kind)), .c (.lit (.int .i64 x18.int)), .c (.lit (.int .i64 x18.to)), .c (.lit (str x18.text)), .c (.ro 5 false (encItems x18))])], nx_23⟩) ?_ (fun ⟨s21, o22, nx_23⟩ hx => ?_)
                    · refine Tri.region ?_
                      refine R.flo Gd.no (Y.fieldP Tryz.fo89_0 rfl) ?_
                      refine R.flo Gd.no (Y.loadB1 rfl 0 rfl rfl Tryz.isAgg3) ?_
                      refine R.flo Gd.no (Y.eqlI rfl rfl) ?_
                      refine R.flo Gd.no (Y.move rfl) ?_
                      refine TOps.part (b := decide (x18.kind = (0 : Int))) (fun bhb19 hb19 => ?_)
                      cases bhb19
                      · rw [hb19]; replace hr := cond_f hb19 hr
                        refine R.flo (Gd.t 3 false 38 rfl rfl) (Y.fieldP Tryz.fo89_0 rfl) ?_
                        refine R.flo (Gd.t 3 false 38 rfl rfl) (Y.loadB1 rfl 0 rfl rfl Tryz.isAgg3) ?_
                        refine R.flo (Gd.t 3 false 38 rfl rfl) (Y.eqlI rfl rfl) ?_
                        refine R.flo Gd.no (Y.pickF rfl rfl) ?_
                        refine R.nil ?_
                        have hx := Option.some.inj hr
                        subst hx
                        refine meet_mk ⟨decide (x18.kind = (7 : Int)), nx_17, nx_17 + 1⟩ rfl (Weak.to [6, 29, 30, 31, 42] [0] rfl)
                      · rw [hb19]; replace hr := cond_t hb19 hr
                        refine R.skip (.f 3 true 38 rfl rfl) ?_
                        refine R.skip (.f 3 true 38 rfl rfl) ?_
                        refine R.skip (.f 3 true 38 rfl rfl) ?_
                        refine R.flo Gd.no (Y.pickT rfl rfl) ?_
                        refine R.nil ?_
                        have hx := Option.some.inj hr
                        subst hx
                        refine meet_mk ⟨true, nx_17, nx_17 + 1⟩ rfl (Weak.to [6, 29, 30, 31, 42] [0] rfl)
                    · subst hx
                      have hr := hox20
                      refine Tri.cond rfl (fun hc24 => ?_) (fun hc24 => ?_)
                      · replace hr := cond_t hc24 hr
                        refine Tri.seq ?_
                        refine Tri.region ?_
                        refine R.flo Gd.no (Y.assign rfl) ?_
                        refine R.nil ?_
                        have hx := Option.some.inj hr
                        subst hx
                        have hr := sum_r hox28
                        refine Tri.weak (Weak.to [2] [] rfl) ?_
                        refine Tri.ret ?_
                        have hx := Option.some.inj hr
                        subst hx
                        exact ⟨.inl rfl, _, .inr (.inl ⟨_, _, rfl, rfl, rfl⟩), ⟨rfl, rfl⟩⟩
                      · replace hr := cond_f hc24 hr
                        refine Tri.skip ?_
                        refine Tri.seq ?_
                        refine Tri.region ?_
                        refine R.flo Gd.no (Y.loadBN rfl 0 rfl Tryz.isAgg89 Tryz.sizeOf89 rfl rfl) ?_
                        replace hr := bind_inv hr
                        obtain ⟨r25, hcr25, hr⟩ := hr
                        refine R.call (H1 := []) (H2 := [(o22, .box 89 [.c (.lit (.int .i64 x18.kind)), .c (.lit (.int .i64 x18.int)), .c (.lit (.int .i64 x18.to)), .c (.lit (str x18.text)), .c (.ro 5 false (encItems x18))])]) Gd.no Tryz.en75 rfl (ih hcr25 nx_23) (perm_idx [0] rfl) (fun _ _ nx_26 hq => ?_)
                        obtain ⟨rfl, rfl⟩ := hq
                        refine R.flo Gd.no (Y.assign rfl) ?_
                        refine R.nil ?_
                        refine Tri.seq ?_
                        refine Tri.region ?_
                        refine R.flo Gd.no (Y.move rfl) ?_
                        refine R.flo Gd.no (Y.neqI rfl rfl) ?_
                        refine R.nil ?_
                        refine Tri.cond rfl (fun hc27 => ?_) (fun hc27 => ?_)
                        · replace hr := cond_t hc27 hr
                          refine Tri.seq ?_
                          refine Tri.region ?_
                          refine R.flo Gd.no (Y.move rfl) ?_
                          refine R.flo Gd.no (Y.assign rfl) ?_
                          refine R.nil ?_
                          have hx := Option.some.inj hr
                          subst hx
                          have hr := sum_r hox28
                          refine Tri.weak (Weak.to [2] [] rfl) ?_
                          refine Tri.ret ?_
                          have hx := Option.some.inj hr
                          subst hx
                          exact ⟨.inl rfl, _, .inr (.inl ⟨_, _, rfl, rfl, rfl⟩), ⟨rfl, rfl⟩⟩
                        · replace hr := cond_f hc27 hr
                          refine Tri.skip ?_
                          refine Tri.region ?_
                          refine R.flo Gd.no (Y.addI rfl rfl (by omega) (by unfold maxLen at *; omega)) ?_
                          refine R.flo Gd.no (Y.move rfl) ?_
                          refine R.nil ?_
                          refine back_mk ⟨v16 + 1, nx_26⟩ ⟨hk, hr⟩ (mu_dec hk) (Weak.to [29, 30, 31] [] rfl)
                  · rw [drop_end (nlt_of_dec hc), f_prop_CheckValue_l1] at hr
                    refine Tri.exit ?_
                    have hx := Option.some.inj hr
                    subst hx
                    refine meet_mk ⟨(), nx_17⟩ rfl (Weak.to [] [] rfl)
              · subst hx
                have hr := sum_l hox28
                refine Tri.seq ?_
                refine Tri.region ?_
                refine R.flo Gd.no (Y.assign rfl) ?_
                refine R.nil ?_
                refine Tri.ret ?_
                have hx := Option.some.inj hr
                subst hx
                exact ⟨.inl rfl, _, .inr (.inl ⟨_, _, rfl, rfl, rfl⟩), ⟨rfl, rfl⟩⟩
theorem ok_prop_CheckProps {l : List PProp} {r : Int} (hr : f_prop_CheckProps l = some r) (nx : Nat) : OkH Tryz.prog 57 [.one (.c (.ro 6 false (l.map encP)))] [] nx fun v H' _ => v = .v (.one (.c (.lit (.int .i64 r)))) ∧ H' = [] := by
  refine OkH.intro Tryz.func57 rfl Tryz.ntmps57 (by simp) ?_
  unfold f_prop_CheckProps at hr
  refine Tri.seq ?_
  refine Tri.region ?_
  refine R.flo Gd.no (Y.assign rfl) ?_
  refine R.nil ?_
  refine Tri.seq ?_
  refine Tri.seq ?_
  refine Tri.region ?_
  refine R.flo Gd.no (Y.move rfl) ?_
  refine TOps.fact (Fact.lenR (x := .tmp 7) (n := l.length) rfl (List.length_map ..)) (fun hl1 => ?_)
  refine R.flo Gd.no (Y.lenR (m := l.length) Tryz.underlying53 rfl rfl (List.length_map ..)) ?_
  refine R.flo Gd.no (Y.gtrI rfl rfl) ?_
  refine R.nil ?_
  refine Tri.cond rfl (fun hc2 => ?_) (fun hc2 => ?_)
  · replace hr := cond_t hc2 hr
    refine Tri.seq ?_
    refine Tri.region ?_
    refine R.flo Gd.no (Y.assign rfl) ?_
    refine R.nil ?_
    refine Tri.ret ?_
    have hx := Option.some.inj hr
    subst hx
    exact ⟨.inl rfl, _, .inr (.inl ⟨_, _, rfl, rfl, rfl⟩), ⟨rfl, rfl⟩⟩
  · replace hr := cond_f hc2 hr
    refine Tri.skip ?_
    refine Tri.seq ?_
    refine Tri.seq ?_
    refine Tri.region ?_
    refine R.flo Gd.no (Y.move rfl) ?_
    refine TOps.fact (Fact.lenR (x := .tmp 10) (n := l.length) rfl (List.length_map ..)) (fun hl3 => ?_)
    refine R.flo Gd.no (Y.lenR (m := l.length) Tryz.underlying53 rfl rfl (List.length_map ..)) ?_
    refine R.flo Gd.no (Y.move rfl) ?_
    refine R.nil ?_
    replace hr := bind_inv hr
    obtain ⟨x22, hr, hox22⟩ := hr
    refine Tri.meet1 (α := Unit × Nat) (fun ⟨s23, nx_24⟩ => (.inl s23) = x22) (fun ⟨s23, nx_24⟩ => ⟨49, [], [], nx_24⟩) ?_ (fun ⟨s23, nx_24⟩ hx => ?_)
    · refine Tri.block ?_
      refine Tri.loop (α := Nat × Nat) (fun ⟨v4, nx_5⟩ => v4 ≤ l.length ∧ f_prop_CheckProps_l1 l (l.drop v4) v4  = some x22) (fun ⟨v4, nx_5⟩ => ⟨49, [(0, some (.v (.one (.c (.ro 6 false (l.map encP)))))), (10, some (.v (.one (.c (.ro 6 false (l.map encP)))))), (11, some (.v (.one (.c (.lit (.int .i64 ((l.length : Int)))))))), (12, some (.v (.one (.c (.lit (.int .i64 ((v4 : Int))))))))], [], nx_5⟩) (fun ⟨v4, nx_5⟩ => l.length - v4) ⟨0, nx⟩ ?_ (Weak.to [0, 10, 11, 12] [] rfl) ?_
      · exact ⟨Nat.zero_le _, hr⟩
      · rintro ⟨v4, nx_5⟩ ⟨hk, hr⟩
        refine Tri.seq ?_
        refine Tri.region ?_
        refine R.flo Gd.no (Y.lssI rfl rfl) ?_
        refine R.nil ?_
        refine Tri.seq ?_
        refine Tri.cond rfl (fun hc => ?_) (fun hc => ?_)
        · have hk := lt_of_dec hc
          obtain ⟨x6, hx6⟩ := get_of_lt hk
          rw [drop_at hx6, f_prop_CheckProps_l1] at hr
          refine Tri.skip ?_
          refine Tri.seq ?_
          refine Tri.block ?_
          refine Tri.seq ?_
          refine Tri.region ?_
          refine R.flo Gd.no (Y.move rfl) ?_
          refine R.flo Gd.no (Y.idxR v4 Tryz.underlying53 Tryz.sizeOf91 rfl rfl (map_get hx6)) ?_
          refine R.flo Gd.no (Y.loadPN rfl Tryz.isAgg91 Tryz.sizeOf91 rfl rfl) ?_
          refine R.eff Gd.no (E.alloc (cs := [.c (.lit (str ([] : Bytes))), .c (.lit (.int .i64 0)), .c (.lit (.int .i64 0)), .c (.lit (.int .i64 0)), .c (.lit (str ([] : Bytes))), .c (.lit (.slice none 0 0))]) Tryz.et91.zero Tryz.et91.one (by rfl)) ?_
          refine R.flo Gd.no (Y.assign rfl) ?_
          refine R.eff Gd.no (E.storeB 0 rfl rfl rfl rfl Tryz.sizeOf91 rfl rfl rfl) ?_
          refine R.nil ?_
          refine Tri.seq ?_
          refine Tri.seq ?_
          refine Tri.region ?_
          refine R.flo Gd.no (Y.fieldP Tryz.fo91_0 rfl) ?_
          refine R.flo Gd.no (Y.loadB1 rfl 0 rfl rfl Tryz.isAgg9) ?_
          replace hr := bind_inv hr
          obtain ⟨r7, hcr7, hr⟩ := hr
          refine R.call (H1 := []) (H2 := [(nx_5, .box 91 [.c (.lit (str x6.name)), .c (.lit (.int .i64 x6.value.kind)), .c (.lit (.int .i64 x6.value.int)), .c (.lit (.int .i64 x6.value.to)), .c (.lit (str x6.value.text)), .c (.ro 5 false (encItems x6.value))])]) Gd.no Tryz.en74 rfl (ok_prop_CheckName hcr7 (nx_5 + 1)) (perm_idx [0] rfl) (fun _ _ nx_8 hq => ?_)
          obtain ⟨rfl, rfl⟩ := hq
          refine R.flo Gd.no (Y.assign rfl) ?_
          refine R.nil ?_
          refine Tri.seq ?_
          refine Tri.region ?_
          refine R.flo Gd.no (Y.move rfl) ?_
          refine R.flo Gd.no (Y.neqI rfl rfl) ?_
          refine R.nil ?_
          refine Tri.cond rfl (fun hc9 => ?_) (fun hc9 => ?_)
          · replace hr := cond_t hc9 hr
            refine Tri.seq ?_
            refine Tri.region ?_
            refine R.flo Gd.no (Y.move rfl) ?_
            refine R.flo Gd.no (Y.assign rfl) ?_
            refine R.nil ?_
            have hx := Option.some.inj hr
            subst hx
            have hr := sum_r hox22
            refine Tri.weak (Weak.to [2] [] rfl) ?_
            refine Tri.ret ?_
            have hx := Option.some.inj hr
            subst hx
            exact ⟨.inl rfl, _, .inr (.inl ⟨_, _, rfl, rfl, rfl⟩), ⟨rfl, rfl⟩⟩
          · replace hr := cond_f hc9 hr
            refine Tri.skip ?_
            refine Tri.seq ?_
            refine Tri.block ?_
            replace hr := bind_inv hr
            obtain ⟨x13, hr, hox13⟩ := hr
            refine Tri.meet (α := Bool × Nat × Nat) (fun ⟨s14, o15, nx_16⟩ => s14 = x13) (fun ⟨s14, o15, nx_16⟩ => ⟨49, [(0, some (.v (.one (.c (.ro 6 false (l.map encP)))))), (4, some (.v (.one (.ptr o15 0 0)))), (10, some (.v (.one (.c (.ro 6 false (l.map encP)))))), (11, some (.v (.one (.c (.lit (.int .i64 ((l.length : Int)))))))), (12, some (.v (.one (.c (.lit (.int .i64 ((v4 : Int)))))))), (23, some (.v (.one (.c (.lit (.bool s14))))))], [(o15, .box 91 [.c (.lit (str x6.name)), .c (.lit (.int .i64 x6.value.kind)), .c (.lit (.int .i64 x6.value.int)), .c (.lit (.int .i64 x6.value.to)), .c (.lit (str x6.value.text)), .c (.ro 5 false (encItems x6.value))])], nx_16⟩) ?_ (fun ⟨s14, o15, nx_16⟩ hx => ?_)
            · refine Tri.draw 14 rfl rfl [] [(nx_5, .box 91 [.c (.lit (str x6.name)), .c (.lit (.int .i64 x6.value.kind)), .c (.lit (.int .i64 x6.value.int)), .c (.lit (.int .i64 x6.value.to)), .c (.lit (str x6.value.text)), .c (.ro 5 false (encItems x6.value))])] rfl ?_
              refine TAny.flo 0 rfl (by decide +kernel) (by decide +kernel) (by decide +kernel) Gd.no (Y.move rfl) ?_
              refine TAny.flo 1 rfl (by decide +kernel) (by decide +kernel) (by decide +kernel) Gd.no (Y.gtrI rfl rfl) ?_
              refine TAny.flo 2 rfl (by decide +kernel) (by decide +kernel) (by decide +kernel) Gd.no (Y.move rfl) ?_
              refine TAny.part (b := decide ((0 : Int) < (v4 : Int))) (fun bhb10 hb10 => ?_)
              cases bhb10
              · rw [hb10]; replace hr := cond_f hb10 hr
                refine TAny.skip 3 rfl (by decide +kernel) (by decide +kernel) (by decide +kernel) (.f 2 false 26 rfl rfl) ?_
                refine TAny.skip 4 rfl (by decide +kernel) (by decide +kernel) (by decide +kernel) (.f 2 false 26 rfl rfl) ?_
                refine TAny.skip 5 rfl (by decide +kernel) (by decide +kernel) (by decide +kernel) (.f 2 false 26 rfl rfl) ?_
                refine TAny.skip 6 rfl (by decide +kernel) (by decide +kernel) (by decide +kernel) (.f 2 false 26 rfl rfl) ?_
                refine TAny.skip 7 rfl (by decide +kernel) (by decide +kernel) (by decide +kernel) (.f 2 false 26 rfl rfl) ?_
                refine TAny.skip 8 rfl (by decide +kernel) (by decide +kernel) (by decide +kernel) (.f 2 false 26 rfl rfl) ?_
                refine TAny.skip 9 rfl (by decide +kernel) (by decide +kernel) (by decide +kernel) (.f 2 false 26 rfl rfl) ?_
                refine TAny.skip 10 rfl (by decide +kernel) (by decide +kernel) (by decide +kernel) (.f 2 false 26 rfl rfl) ?_
                refine TAny.skip 11 rfl (by decide +kernel) (by decide +kernel) (by decide +kernel) (.f 2 false 26 rfl rfl) ?_
                refine TAny.flo 12 rfl (by decide +kernel) (by decide +kernel) (by decide +kernel) Gd.no (Y.pickF rfl rfl) ?_
                refine TAny.flo 13 rfl (by decide +kernel) (by decide +kernel) (by decide +kernel) Gd.no (Y.assign rfl) ?_
                refine TAny.done (by decide +kernel) ?_
                have hx := Option.some.inj hr
                subst hx
                refine meet_mk ⟨false, nx_5, nx_8⟩ rfl (Weak.to [0, 4, 10, 11, 12, 23] [0] rfl)
              · rw [hb10]; replace hr := cond_t hb10 hr
                refine TAny.flo 3 rfl (by decide +kernel) (by decide +kernel) (by decide +kernel) (Gd.t 2 true 26 rfl rfl) (Y.fieldP Tryz.fo91_0 rfl) ?_
                refine TAny.flo 4 rfl (by decide +kernel) (by decide +kernel) (by decide +kernel) (Gd.t 2 true 26 rfl rfl) (Y.loadB1 rfl 0 rfl rfl Tryz.isAgg9) ?_
                refine TAny.flo 5 rfl (by decide +kernel) (by decide +kernel) (by decide +kernel) (Gd.t 2 true 26 rfl rfl) (Y.move rfl) ?_
                refine TAny.flo 6 rfl (by decide +kernel) (by decide +kernel) (by decide +kernel) (Gd.t 2 true 26 rfl rfl) (Y.move rfl) ?_
                replace hr := ckI_inv hr
                obtain ⟨ha, hb, hr⟩ := hr
                refine TAny.flo 7 rfl (by decide +kernel) (by decide +kernel) (by decide +kernel) (Gd.t 2 true 26 rfl rfl) (Y.subI rfl rfl ha hb) ?_
                replace hr := atn_inv hr
                obtain ⟨x11, h12, hx11, hr⟩ := hr
                refine TAny.flo 8 rfl (by decide +kernel) (by decide +kernel) (by decide +kernel) (Gd.t 2 true 26 rfl rfl) (Y.idxR ((((v4 : Int)) - 1).toNat) Tryz.underlying53 Tryz.sizeOf91 rfl (ev_tn rfl h12) (map_get hx11)) ?_
                refine TAny.flo 9 rfl (by decide +kernel) (by decide +kernel) (by decide +kernel) (Gd.t 2 true 26 rfl rfl) (Y.fieldR Tryz.fo91_0 rfl) ?_
                refine TAny.flo 10 rfl (by decide +kernel) (by decide +kernel) (by decide +kernel) (Gd.t 2 true 26 rfl rfl) (Y.loadP1 rfl rfl Tryz.isAgg9) ?_
                refine TAny.flo 11 rfl (by decide +kernel) (by decide +kernel) (by decide +kernel) (Gd.t 2 true 26 rfl rfl) (Y.leqS rfl rfl) ?_
                refine TAny.flo 12 rfl (by decide +kernel) (by decide +kernel) (by decide +kernel) Gd.no (Y.pickT rfl rfl) ?_
                refine TAny.flo 13 rfl (by decide +kernel) (by decide +kernel) (by decide +kernel) Gd.no (Y.assign rfl) ?_
                refine TAny.done (by decide +kernel) ?_
                have hx := Option.some.inj hr
                subst hx
                refine meet_mk ⟨Op.bytesLess x6.name x11.name || decide (x6.name = x11.name), nx_5, nx_8⟩ rfl (Weak.to [0, 4, 10, 11, 12, 23] [0] rfl)
            · subst hx
              have hr := hox13
              refine Tri.cond rfl (fun hc17 => ?_) (fun hc17 => ?_)
              · replace hr := cond_t hc17 hr
                refine Tri.seq ?_
                refine Tri.region ?_
                refine R.flo Gd.no (Y.assign rfl) ?_
                refine R.nil ?_
                have hx := Option.some.inj hr
                subst hx
                have hr := sum_r hox22
                refine Tri.weak (Weak.to [2] [] rfl) ?_
                refine Tri.ret ?_
                have hx := Option.some.inj hr
                subst hx
                exact ⟨.inl rfl, _, .inr (.inl ⟨_, _, rfl, rfl, rfl⟩), ⟨rfl, rfl⟩⟩
              · replace hr := cond_f hc17 hr
                refine Tri.seq ?_
                refine Tri.region ?_
                refine R.flo Gd.no (Y.fieldP Tryz.fo91_1 rfl) ?_
                refine R.flo Gd.no (Y.fieldP Tryz.fo89_0 rfl) ?_
                refine R.flo Gd.no (Y.loadB1 rfl 0 rfl rfl Tryz.isAgg3) ?_
                refine R.flo Gd.no (Y.eqlI rfl rfl) ?_
                refine R.flo Gd.no (Y.assign rfl) ?_
                refine R.nil ?_
                refine Tri.cond rfl (fun hc18 => ?_) (fun hc18 => ?_)
                · replace hr := cond_t hc18 hr
                  refine Tri.seq ?_
                  refine Tri.region ?_
                  refine R.flo Gd.no (Y.assign rfl) ?_
                  refine R.nil ?_
                  have hx := Option.some.inj hr
                  subst hx
                  have hr := sum_r hox22
                  refine Tri.weak (Weak.to [2] [] rfl) ?_
                  refine Tri.ret ?_
                  have hx := Option.some.inj hr
                  subst hx
                  exact ⟨.inl rfl, _, .inr (.inl ⟨_, _, rfl, rfl, rfl⟩), ⟨rfl, rfl⟩⟩
                · replace hr := cond_f hc18 hr
                  refine Tri.skip ?_
                  refine Tri.seq ?_
                  refine Tri.region ?_
                  refine R.flo Gd.no (Y.fieldP Tryz.fo91_1 rfl) ?_
                  refine R.flo Gd.no (Y.loadBN rfl 0 rfl Tryz.isAgg89 Tryz.sizeOf89 rfl rfl) ?_
                  replace hr := bind_inv hr
                  obtain ⟨r19, hcr19, hr⟩ := hr
                  refine R.call (H1 := []) (H2 := [(o15, .box 91 [.c (.lit (str x6.name)), .c (.lit (.int .i64 x6.value.kind)), .c (.lit (.int .i64 x6.value.int)), .c (.lit (.int .i64 x6.value.to)), .c (.lit (str x6.value.text)), .c (.ro 5 false (encItems x6.value))])]) Gd.no Tryz.en75 rfl (ok_prop_CheckValue FUEL hcr19 nx_16) (perm_idx [0] rfl) (fun _ _ nx_20 hq => ?_)
                  obtain ⟨rfl, rfl⟩ := hq
                  refine R.flo Gd.no (Y.assign rfl) ?_
                  refine R.nil ?_
                  refine Tri.seq ?_
                  refine Tri.region ?_
                  refine R.flo Gd.no (Y.move rfl) ?_
                  refine R.flo Gd.no (Y.neqI rfl rfl) ?_
                  refine R.nil ?_
                  refine Tri.cond rfl (fun hc21 => ?_) (fun hc21 => ?_)
                  · replace hr := cond_t hc21 hr
                    refine Tri.seq ?_
                    refine Tri.region ?_
                    refine R.flo Gd.no (Y.move rfl) ?_
                    refine R.flo Gd.no (Y.assign rfl) ?_
                    refine R.nil ?_
                    have hx := Option.some.inj hr
                    subst hx
                    have hr := sum_r hox22
                    refine Tri.weak (Weak.to [2] [] rfl) ?_
                    refine Tri.ret ?_
                    have hx := Option.some.inj hr
                    subst hx
                    exact ⟨.inl rfl, _, .inr (.inl ⟨_, _, rfl, rfl, rfl⟩), ⟨rfl, rfl⟩⟩
                  · replace hr := cond_f hc21 hr
                    refine Tri.skip ?_
                    refine Tri.region ?_
                    refine R.flo Gd.no (Y.addI rfl rfl (by omega) (by unfold maxLen at *; omega)) ?_
                    refine R.flo Gd.no (Y.move rfl) ?_
                    refine R.nil ?_
                    refine back_mk ⟨v4 + 1, nx_20⟩ ⟨hk, hr⟩ (mu_dec hk) (Weak.to [0, 10, 11, 12] [] rfl)
        · rw [drop_end (nlt_of_dec hc), f_prop_CheckProps_l1] at hr
          refine Tri.exit ?_
          have hx := Option.some.inj hr
          subst hx
          refine meet_mk ⟨(), nx_5⟩ rfl (Weak.to [] [] rfl)
    · subst hx
      have hr := sum_l hox22
      refine Tri.seq ?_
      refine Tri.region ?_
      refine R.flo Gd.no (Y.assign rfl) ?_
      refine R.nil ?_
      refine Tri.ret ?_
      have hx := Option.some.inj hr
      subst hx
      exact ⟨.inl rfl, _, .inr (.inl ⟨_, _, rfl, rfl, rfl⟩), ⟨rfl, rfl⟩⟩
theorem ok_tree_checkBlock {base : List Block} {i : Int} {r : Int} (hr : f_tree_checkBlock base i = some r) (nx : Nat) : OkH Tryz.prog 49 [.one (.c (.ro 5 false (base.map encB))), .one (.c (.lit (.int .i64 i)))] [] nx fun v H' _ => v = .v (.one (.c (.lit (.int .i64 r)))) ∧ H' = [] := by
  refine OkH.intro Tryz.func49 rfl Tryz.ntmps49 (by simp) ?_
  unfold f_tree_checkBlock at hr
  refine Tri.seq ?_
  refine Tri.region ?_
  refine R.flo Gd.no (Y.assign rfl) ?_
  refine R.nil ?_
  refine Tri.seq ?_
  refine Tri.region ?_
  refine R.flo Gd.no (Y.move rfl) ?_
  refine R.flo Gd.no (Y.move rfl) ?_
  replace hr := atn_inv hr
  obtain ⟨x1, h2, hx1, hr⟩ := hr
  refine R.flo Gd.no (Y.idxR ((i).toNat) Tryz.underlying22 Tryz.sizeOf55 rfl (ev_tn rfl h2) (map_get hx1)) ?_
  refine R.flo Gd.no (Y.loadPN rfl Tryz.isAgg55 Tryz.sizeOf55 rfl rfl) ?_
  refine R.eff Gd.no (E.alloc (cs := [.c (.lit (.int .i64 0)), .c (.lit (.int .i64 0)), .c (.lit (.slice none 0 0)), .c (.lit (str ([] : Bytes))), .c (.lit (.slice none 0 0))]) Tryz.et55.zero Tryz.et55.one (by rfl)) ?_
  refine R.eff Gd.no (E.storeB 0 rfl rfl rfl rfl Tryz.sizeOf55 rfl rfl rfl) ?_
  refine R.nil ?_
  refine Tri.seq ?_
  refine Tri.block ?_
  replace hr := bind_inv hr
  obtain ⟨x9, hr, hox9⟩ := hr
  refine Tri.meet (α := Bool × Nat) (fun ⟨s10, nx_11⟩ => s10 = x9) (fun ⟨s10, nx_11⟩ => ⟨79, [(0, some (.v (.one (.c (.ro 5 false (base.map encB)))))), (1, some (.v (.one (.c (.lit (.int .i64 i)))))), (5, some (.v (.one (.ptr nx 0 0)))), (11, some (.v (.one (.c (.lit (.bool s10))))))], [(nx, .box 55 [.c (.lit (.int .i64 x1.id)), .c (.lit (.int .i64 x1.parent)), .c (.ro 1 false (x1.kids.map encI)), .c (.lit (str x1.text)), .c (.ro 6 false (x1.props.map encP))])], nx_11⟩) ?_ (fun ⟨s10, nx_11⟩ hx => ?_)
  · refine Tri.region ?_
    refine R.flo Gd.no (Y.move rfl) ?_
    refine R.flo Gd.no (Y.eqlI rfl rfl) ?_
    refine R.flo Gd.no (Y.move rfl) ?_
    refine TOps.part (b := decide (i = (0 : Int))) (fun bhb3 hb3 => ?_)
    cases bhb3
    · rw [hb3]; replace hr := cond_f hb3 hr
      refine R.skip (.f 2 false 14 rfl rfl) ?_
      refine R.skip (.f 2 false 14 rfl rfl) ?_
      refine R.skip (.f 2 false 14 rfl rfl) ?_
      refine R.flo Gd.no (Y.pickF rfl rfl) ?_
      refine R.flo Gd.no (Y.move rfl) ?_
      refine R.flo (Gd.t 7 false 19 rfl rfl) (Y.move rfl) ?_
      refine R.flo (Gd.t 7 false 19 rfl rfl) (Y.gtrI rfl rfl) ?_
      refine R.flo (Gd.t 7 false 19 rfl rfl) (Y.move rfl) ?_
      refine TOps.part (b := decide ((0 : Int) < i)) (fun bhb7 hb7 => ?_)
      cases bhb7
      · rw [hb7]; replace hr := cond_f hb7 hr
        refine R.skip (.f 10 false 22 rfl rfl) ?_
        refine R.skip (.f 10 false 22 rfl rfl) ?_
        refine R.skip (.f 10 false 22 rfl rfl) ?_
        refine R.skip (.f 10 false 22 rfl rfl) ?_
        refine R.skip (.u 14 false 26 rfl rfl) ?_
        refine R.skip (.u 14 false 26 rfl rfl) ?_
        refine R.skip (.u 14 false 26 rfl rfl) ?_
        refine R.skip (.f 10 false 22 rfl rfl) ?_
        refine R.flo (Gd.t 7 false 19 rfl rfl) (Y.pickF rfl rfl) ?_
        refine R.flo Gd.no (Y.pickF rfl rfl) ?_
        refine R.flo Gd.no (Y.assign rfl) ?_
        refine R.nil ?_
        have hx := Option.some.inj hr
        subst hx
        refine meet_mk ⟨false, nx + 1⟩ rfl (Weak.to [0, 1, 5, 11] [0] rfl)
      · rw [hb7]; replace hr := cond_t hb7 hr
        refine R.flo (Gd.t 10 true 22 rfl rfl) (Y.fieldP Tryz.fo55_0 rfl) ?_
        refine R.flo (Gd.t 10 true 22 rfl rfl) (Y.loadB1 rfl 0 rfl rfl Tryz.isAgg3) ?_
        refine R.flo (Gd.t 10 true 22 rfl rfl) (Y.lssI rfl rfl) ?_
        refine R.flo (Gd.t 10 true 22 rfl rfl) (Y.move rfl) ?_
        refine TOps.part (b := decide (x1.id < (1 : Int))) (fun bhb8 hb8 => ?_)
        cases bhb8
        · rw [hb8]; replace hr := cond_f hb8 hr
          refine R.flo (Gd.t 14 false 26 rfl rfl) (Y.fieldP Tryz.fo55_0 rfl) ?_
          refine R.flo (Gd.t 14 false 26 rfl rfl) (Y.loadB1 rfl 0 rfl rfl Tryz.isAgg3) ?_
          refine R.flo (Gd.t 14 false 26 rfl rfl) (Y.gtrI rfl rfl) ?_
          refine R.flo (Gd.t 10 true 22 rfl rfl) (Y.pickF rfl rfl) ?_
          refine R.flo (Gd.t 7 false 19 rfl rfl) (Y.pickT rfl rfl) ?_
          refine R.flo Gd.no (Y.pickF rfl rfl) ?_
          refine R.flo Gd.no (Y.assign rfl) ?_
          refine R.nil ?_
          have hx := Option.some.inj hr
          subst hx
          refine meet_mk ⟨decide ((1000000 : Int) < x1.id), nx + 1⟩ rfl (Weak.to [0, 1, 5, 11] [0] rfl)
        · rw [hb8]; replace hr := cond_t hb8 hr
          refine R.skip (.f 14 true 26 rfl rfl) ?_
          refine R.skip (.f 14 true 26 rfl rfl) ?_
          refine R.skip (.f 14 true 26 rfl rfl) ?_
          refine R.flo (Gd.t 10 true 22 rfl rfl) (Y.pickT rfl rfl) ?_
          refine R.flo (Gd.t 7 false 19 rfl rfl) (Y.pickT rfl rfl) ?_
          refine R.flo Gd.no (Y.pickF rfl rfl) ?_
          refine R.flo Gd.no (Y.assign rfl) ?_
          refine R.nil ?_
          have hx := Option.some.inj hr
          subst hx
          refine meet_mk ⟨true, nx + 1⟩ rfl (Weak.to [0, 1, 5, 11] [0] rfl)
    · rw [hb3]; replace hr := cond_t hb3 hr
      refine R.flo (Gd.t 2 true 14 rfl rfl) (Y.fieldP Tryz.fo55_0 rfl) ?_
      refine R.flo (Gd.t 2 true 14 rfl rfl) (Y.loadB1 rfl 0 rfl rfl Tryz.isAgg3) ?_
      refine R.flo (Gd.t 2 true 14 rfl rfl) (Y.neqI rfl rfl) ?_
      refine R.flo Gd.no (Y.pickT rfl rfl) ?_
      refine R.flo Gd.no (Y.move rfl) ?_
      refine TOps.part (b := decide (x1.id ≠ (0 : Int))) (fun bhb4 hb4 => ?_)
      cases bhb4
      · rw [hb4]; replace hr := cond_f hb4 hr
        refine R.flo (Gd.t 7 false 19 rfl rfl) (Y.move rfl) ?_
        refine R.flo (Gd.t 7 false 19 rfl rfl) (Y.gtrI rfl rfl) ?_
        refine R.flo (Gd.t 7 false 19 rfl rfl) (Y.move rfl) ?_
        refine TOps.part (b := decide ((0 : Int) < i)) (fun bhb5 hb5 => ?_)
        cases bhb5
        · rw [hb5]; replace hr := cond_f hb5 hr
          refine R.skip (.f 10 false 22 rfl rfl) ?_
          refine R.skip (.f 10 false 22 rfl rfl) ?_
          refine R.skip (.f 10 false 22 rfl rfl) ?_
          refine R.skip (.f 10 false 22 rfl rfl) ?_
          refine R.skip (.u 14 false 26 rfl rfl) ?_
          refine R.skip (.u 14 false 26 rfl rfl) ?_
          refine R.skip (.u 14 false 26 rfl rfl) ?_
          refine R.skip (.f 10 false 22 rfl rfl) ?_
          refine R.flo (Gd.t 7 false 19 rfl rfl) (Y.pickF rfl rfl) ?_
          refine R.flo Gd.no (Y.pickF rfl rfl) ?_
          refine R.flo Gd.no (Y.assign rfl) ?_
          refine R.nil ?_
          have hx := Option.some.inj hr
          subst hx
          refine meet_mk ⟨false, nx + 1⟩ rfl (Weak.to [0, 1, 5, 11] [0] rfl)
        · rw [hb5]; replace hr := cond_t hb5 hr
          refine R.flo (Gd.t 10 true 22 rfl rfl) (Y.fieldP Tryz.fo55_0 rfl) ?_
          refine R.flo (Gd.t 10 true 22 rfl rfl) (Y.loadB1 rfl 0 rfl rfl Tryz.isAgg3) ?_
          refine R.flo (Gd.t 10 true 22 rfl rfl) (Y.lssI rfl rfl) ?_
          refine R.flo (Gd.t 10 true 22 rfl rfl) (Y.move rfl) ?_
          refine TOps.part (b := decide (x1.id < (1 : Int))) (fun bhb6 hb6 => ?_)
          cases bhb6
          · rw [hb6]; replace hr := cond_f hb6 hr
            refine R.flo (Gd.t 14 false 26 rfl rfl) (Y.fieldP Tryz.fo55_0 rfl) ?_
            refine R.flo (Gd.t 14 false 26 rfl rfl) (Y.loadB1 rfl 0 rfl rfl Tryz.isAgg3) ?_
            refine R.flo (Gd.t 14 false 26 rfl rfl) (Y.gtrI rfl rfl) ?_
            refine R.flo (Gd.t 10 true 22 rfl rfl) (Y.pickF rfl rfl) ?_
            refine R.flo (Gd.t 7 false 19 rfl rfl) (Y.pickT rfl rfl) ?_
            refine R.flo Gd.no (Y.pickF rfl rfl) ?_
            refine R.flo Gd.no (Y.assign rfl) ?_
            refine R.nil ?_
            have hx := Option.some.inj hr
            subst hx
            refine meet_mk ⟨decide ((1000000 : Int) < x1.id), nx + 1⟩ rfl (Weak.to [0, 1, 5, 11] [0] rfl)
          · rw [hb6]; replace hr := cond_t hb6 hr
            refine R.skip (.f 14 true 26 rfl rfl) ?_
            refine R.skip (.f 14 true 26 rfl rfl) ?_
            refine R.skip (.f 14 true 26 rfl rfl) ?_
            refine R.flo (Gd.t 10 true 22 rfl rfl) (Y.pickT rfl rfl) ?_
            refine R.flo (Gd.t 7 false 19 rfl rfl) (Y.pickT rfl rfl) ?_
            refine R.flo Gd.no (Y.pickF rfl rfl) ?_
            refine R.flo Gd.no (Y.assign rfl) ?_
            refine R.nil ?_
            have hx := Option.some.inj hr
            subst hx
            refine meet_mk ⟨true, nx + 1⟩ rfl (Weak.to [0, 1, 5, 11] [0] rfl)
      · rw [hb4]; replace hr := cond_t hb4 hr
        refine R.skip (.f 7 true 19 rfl rfl) ?_
        refine R.skip (.f 7 true 19 rfl rfl) ?_
        refine R.skip (.f 7 true 19 rfl rfl) ?_
        refine R.skip (.u 10 true 22 rfl rfl) ?_
        refine R.skip (.u 10 true 22 rfl rfl) ?_
        refine R.skip (.u 10 true 22 rfl rfl) ?_
        refine R.skip (.u 10 true 22 rfl rfl) ?_
        refine R.skip (.u 14 false 26 rfl rfl) ?_
        refine R.skip (.u 14 false 26 rfl rfl) ?_
        refine R.skip (.u 14 false 26 rfl rfl) ?_
        refine R.skip (.u 10 true 22 rfl rfl) ?_
        refine R.skip (.f 7 true 19 rfl rfl) ?_
        refine R.flo Gd.no (Y.pickT rfl rfl) ?_
        refine R.flo Gd.no (Y.assign rfl) ?_
        refine R.nil ?_
        have hx := Option.some.inj hr
        subst hx
        refine meet_mk ⟨true, nx + 1⟩ rfl (Weak.to [0, 1, 5, 11] [0] rfl)
  · subst hx
    have hr := hox9
    refine Tri.cond rfl (fun hc12 => ?_) (fun hc12 => ?_)
    · replace hr := cond_t hc12 hr
      refine Tri.seq ?_
      refine Tri.region ?_
      refine R.flo Gd.no (Y.assign rfl) ?_
      refine R.nil ?_
      refine Tri.weak (Weak.to [4] [] rfl) ?_
      refine Tri.ret ?_
      have hx := Option.some.inj hr
      subst hx
      exact ⟨.inl rfl, _, .inr (.inl ⟨_, _, rfl, rfl, rfl⟩), ⟨rfl, rfl⟩⟩
    · replace hr := cond_f hc12 hr
      replace hr := bind_inv hr
      obtain ⟨x16, hr, hox16⟩ := hr
      refine Tri.meet (α := Bool × Nat) (fun ⟨s17, nx_18⟩ => s17 = x16) (fun ⟨s17, nx_18⟩ => ⟨79, [(1, some (.v (.one (.c (.lit (.int .i64 i)))))), (5, some (.v (.one (.ptr nx 0 0)))), (33, some (.v (.one (.c (.lit (.bool s17))))))], [(nx, .box 55 [.c (.lit (.int .i64 x1.id)), .c (.lit (.int .i64 x1.parent)), .c (.ro 1 false (x1.kids.map encI)), .c (.lit (str x1.text)), .c (.ro 6 false (x1.props.map encP))])], nx_18⟩) ?_ (fun ⟨s17, nx_18⟩ hx => ?_)
      · refine Tri.draw 14 rfl rfl [] [(nx, .box 55 [.c (.lit (.int .i64 x1.id)), .c (.lit (.int .i64 x1.parent)), .c (.ro 1 false (x1.kids.map encI)), .c (.lit (str x1.text)), .c (.ro 6 false (x1.props.map encP))])] rfl ?_
        refine TAny.flo 0 rfl (by decide +kernel) (by decide +kernel) (by decide +kernel) Gd.no (Y.move rfl) ?_
        refine TAny.flo 1 rfl (by decide +kernel) (by decide +kernel) (by decide +kernel) Gd.no (Y.gtrI rfl rfl) ?_
        refine TAny.flo 2 rfl (by decide +kernel) (by decide +kernel) (by decide +kernel) Gd.no (Y.move rfl) ?_
        refine TAny.part (b := decide ((0 : Int) < i)) (fun bhb13 hb13 => ?_)
        cases bhb13
        · rw [hb13]; replace hr := cond_f hb13 hr
          refine TAny.skip 3 rfl (by decide +kernel) (by decide +kernel) (by decide +kernel) (.f 2 false 36 rfl rfl) ?_
          refine TAny.skip 4 rfl (by decide +kernel) (by decide +kernel) (by decide +kernel) (.f 2 false 36 rfl rfl) ?_
          refine TAny.skip 5 rfl (by decide +kernel) (by decide +kernel) (by decide +kernel) (.f 2 false 36 rfl rfl) ?_
          refine TAny.skip 6 rfl (by decide +kernel) (by decide +kernel) (by decide +kernel) (.f 2 false 36 rfl rfl) ?_
          refine TAny.skip 7 rfl (by decide +kernel) (by decide +kernel) (by decide +kernel) (.f 2 false 36 rfl rfl) ?_
          refine TAny.skip 8 rfl (by decide +kernel) (by decide +kernel) (by decide +kernel) (.f 2 false 36 rfl rfl) ?_
          refine TAny.skip 9 rfl (by decide +kernel) (by decide +kernel) (by decide +kernel) (.f 2 false 36 rfl rfl) ?_
          refine TAny.skip 10 rfl (by decide +kernel) (by decide +kernel) (by decide +kernel) (.f 2 false 36 rfl rfl) ?_
          refine TAny.skip 11 rfl (by decide +kernel) (by decide +kernel) (by decide +kernel) (.f 2 false 36 rfl rfl) ?_
          refine TAny.flo 12 rfl (by decide +kernel) (by decide +kernel) (by decide +kernel) Gd.no (Y.pickF rfl rfl) ?_
          refine TAny.flo 13 rfl (by decide +kernel) (by decide +kernel) (by decide +kernel) Gd.no (Y.assign rfl) ?_
          refine TAny.done (by decide +kernel) ?_
          have hx := Option.some.inj hr
          subst hx
          refine meet_mk ⟨false, nx_11⟩ rfl (Weak.to [1, 5, 33] [0] rfl)
        · rw [hb13]; replace hr := cond_t hb13 hr
          refine TAny.flo 3 rfl (by decide +kernel) (by decide +kernel) (by decide +kernel) (Gd.t 2 true 36 rfl rfl) (Y.fieldP Tryz.fo55_0 rfl) ?_
          refine TAny.flo 4 rfl (by decide +kernel) (by decide +kernel) (by decide +kernel) (Gd.t 2 true 36 rfl rfl) (Y.loadB1 rfl 0 rfl rfl Tryz.isAgg3) ?_
          refine TAny.flo 5 rfl (by decide +kernel) (by decide +kernel) (by decide +kernel) (Gd.t 2 true 36 rfl rfl) (Y.move rfl) ?_
          refine TAny.flo 6 rfl (by decide +kernel) (by decide +kernel) (by decide +kernel) (Gd.t 2 true 36 rfl rfl) (Y.move rfl) ?_
          replace hr := ckI_inv hr
          obtain ⟨ha, hb, hr⟩ := hr
          refine TAny.flo 7 rfl (by decide +kernel) (by decide +kernel) (by decide +kernel) (Gd.t 2 true 36 rfl rfl) (Y.subI rfl rfl ha hb) ?_
          replace hr := atn_inv hr
          obtain ⟨x14, h15, hx14, hr⟩ := hr
          refine TAny.flo 8 rfl (by decide +kernel) (by decide +kernel) (by decide +kernel) (Gd.t 2 true 36 rfl rfl) (Y.idxR ((i - 1).toNat) Tryz.underlying22 Tryz.sizeOf55 rfl (ev_tn rfl h15) (map_get hx14)) ?_
          refine TAny.flo 9 rfl (by decide +kernel) (by decide +kernel) (by decide +kernel) (Gd.t 2 true 36 rfl rfl) (Y.fieldR Tryz.fo55_0 rfl) ?_
          refine TAny.flo 10 rfl (by decide +kernel) (by decide +kernel) (by decide +kernel) (Gd.t 2 true 36 rfl rfl) (Y.loadP1 rfl rfl Tryz.isAgg3) ?_
          refine TAny.flo 11 rfl (by decide +kernel) (by decide +kernel) (by decide +kernel) (Gd.t 2 true 36 rfl rfl) (Y.leqI rfl rfl) ?_
          refine TAny.flo 12 rfl (by decide +kernel) (by decide +kernel) (by decide +kernel) Gd.no (Y.pickT rfl rfl) ?_
          refine TAny.flo 13 rfl (by decide +kernel) (by decide +kernel) (by decide +kernel) Gd.no (Y.assign rfl) ?_
          refine TAny.done (by decide +kernel) ?_
          have hx := Option.some.inj hr
          subst hx
          refine meet_mk ⟨decide (x1.id ≤ x14.id), nx_11⟩ rfl (Weak.to [1, 5, 33] [0] rfl)
      · subst hx
        have hr := hox16
        refine Tri.cond rfl (fun hc19 => ?_) (fun hc19 => ?_)
        · replace hr := cond_t hc19 hr
          refine Tri.seq ?_
          refine Tri.region ?_
          refine R.flo Gd.no (Y.assign rfl) ?_
          refine R.nil ?_
          refine Tri.weak (Weak.to [4] [] rfl) ?_
          refine Tri.ret ?_
          have hx := Option.some.inj hr
          subst hx
          exact ⟨.inl rfl, _, .inr (.inl ⟨_, _, rfl, rfl, rfl⟩), ⟨rfl, rfl⟩⟩
        · replace hr := cond_f hc19 hr
          replace hr := bind_inv hr
          obtain ⟨x24, hr, hox24⟩ := hr
          refine Tri.meet (α := Bool × Nat) (fun ⟨s25, nx_26⟩ => s25 = x24) (fun ⟨s25, nx_26⟩ => ⟨79, [(5, some (.v (.one (.ptr nx 0 0)))), (47, some (.v (.one (.c (.lit (.bool s25))))))], [(nx, .box 55 [.c (.lit (.int .i64 x1.id)), .c (.lit (.int .i64 x1.parent)), .c (.ro 1 false (x1.kids.map encI)), .c (.lit (str x1.text)), .c (.ro 6 false (x1.props.map encP))])], nx_26⟩) ?_ (fun ⟨s25, nx_26⟩ hx => ?_)
          · refine Tri.region ?_
            refine R.flo Gd.no (Y.move rfl) ?_
            refine R.flo Gd.no (Y.eqlI rfl rfl) ?_
            refine R.flo Gd.no (Y.move rfl) ?_
            refine TOps.part (b := decide (i = (0 : Int))) (fun bhb20 hb20 => ?_)
            cases bhb20
            · rw [hb20]; replace hr := cond_f hb20 hr
              refine R.skip (.f 2 false 50 rfl rfl) ?_
              refine R.skip (.f 2 false 50 rfl rfl) ?_
              refine R.skip (.f 2 false 50 rfl rfl) ?_
              refine R.skip (.f 2 false 50 rfl rfl) ?_
              refine R.skip (.u 6 false 54 rfl rfl) ?_
              refine R.skip (.u 6 false 54 rfl rfl) ?_
              refine R.skip (.u 6 false 54 rfl rfl) ?_
              refine R.skip (.u 6 false 54 rfl rfl) ?_
              refine R.skip (.f 2 false 50 rfl rfl) ?_
              refine R.skip (.f 2 false 50 rfl rfl) ?_
              refine R.skip (.u 12 false 60 rfl rfl) ?_
              refine R.skip (.u 12 false 60 rfl rfl) ?_
              refine R.skip (.u 12 false 60 rfl rfl) ?_
              refine R.skip (.f 2 false 50 rfl rfl) ?_
              refine R.flo Gd.no (Y.pickF rfl rfl) ?_
              refine R.flo Gd.no (Y.assign rfl) ?_
              refine R.nil ?_
              have hx := Option.some.inj hr
              subst hx
              refine meet_mk ⟨false, nx_18⟩ rfl (Weak.to [5, 47] [0] rfl)
            · rw [hb20]; replace hr := cond_t hb20 hr
              refine R.flo (Gd.t 2 true 50 rfl rfl) (Y.fieldP Tryz.fo55_3 rfl) ?_
              refine R.flo (Gd.t 2 true 50 rfl rfl) (Y.loadB1 rfl 0 rfl rfl Tryz.isAgg9) ?_
              refine R.flo (Gd.t 2 true 50 rfl rfl) (Y.neqS rfl rfl) ?_
              refine R.flo (Gd.t 2 true 50 rfl rfl) (Y.move rfl) ?_
              refine TOps.part (b := decide (x1.text ≠ ([] : Bytes))) (fun bhb21 hb21 => ?_)
              cases bhb21
              · rw [hb21]; replace hr := cond_f hb21 hr
                refine R.flo (Gd.t 6 false 54 rfl rfl) (Y.fieldP Tryz.fo55_4 rfl) ?_
                refine R.flo (Gd.t 6 false 54 rfl rfl) (Y.loadB1 rfl 0 rfl rfl Tryz.isAgg53) ?_
                refine TOps.fact (Fact.lenR (x := .tmp 56) (n := x1.props.length) rfl (List.length_map ..)) (fun hl22 => ?_)
                refine R.flo (Gd.t 6 false 54 rfl rfl) (Y.lenR (m := x1.props.length) Tryz.underlying53 rfl rfl (List.length_map ..)) ?_
                refine R.flo (Gd.t 6 false 54 rfl rfl) (Y.gtrI rfl rfl) ?_
                refine R.flo (Gd.t 2 true 50 rfl rfl) (Y.pickF rfl rfl) ?_
                refine R.flo (Gd.t 2 true 50 rfl rfl) (Y.move rfl) ?_
                refine TOps.part (b := decide ((0 : Int) < (x1.props.length : Int))) (fun bhb23 hb23 => ?_)
                cases bhb23
                · rw [hb23]; replace hr := cond_f hb23 hr
                  refine R.flo (Gd.t 12 false 60 rfl rfl) (Y.fieldP Tryz.fo55_1 rfl) ?_
                  refine R.flo (Gd.t 12 false 60 rfl rfl) (Y.loadB1 rfl 0 rfl rfl Tryz.isAgg3) ?_
                  refine R.flo (Gd.t 12 false 60 rfl rfl) (Y.neqI rfl rfl) ?_
                  refine R.flo (Gd.t 2 true 50 rfl rfl) (Y.pickF rfl rfl) ?_
                  refine R.flo Gd.no (Y.pickT rfl rfl) ?_
                  refine R.flo Gd.no (Y.assign rfl) ?_
                  refine R.nil ?_
                  have hx := Option.some.inj hr
                  subst hx
                  refine meet_mk ⟨decide (x1.parent ≠ (0 : Int)), nx_18⟩ rfl (Weak.to [5, 47] [0] rfl)
                · rw [hb23]; replace hr := cond_t hb23 hr
                  refine R.skip (.f 12 true 60 rfl rfl) ?_
                  refine R.skip (.f 12 true 60 rfl rfl) ?_
                  refine R.skip (.f 12 true 60 rfl rfl) ?_
                  refine R.flo (Gd.t 2 true 50 rfl rfl) (Y.pickT rfl rfl) ?_
                  refine R.flo Gd.no (Y.pickT rfl rfl) ?_
                  refine R.flo Gd.no (Y.assign rfl) ?_
                  refine R.nil ?_
                  have hx := Option.some.inj hr
                  subst hx
                  refine meet_mk ⟨true, nx_18⟩ rfl (Weak.to [5, 47] [0] rfl)
              · rw [hb21]; replace hr := cond_t hb21 hr
                refine R.skip (.f 6 true 54 rfl rfl) ?_
                refine R.skip (.f 6 true 54 rfl rfl) ?_
                refine R.skip (.f 6 true 54 rfl rfl) ?_
                refine R.skip (.f 6 true 54 rfl rfl) ?_
                refine R.flo (Gd.t 2 true 50 rfl rfl) (Y.pickT rfl rfl) ?_
                refine R.flo (Gd.t 2 true 50 rfl rfl) (Y.move rfl) ?_
                refine R.skip (.f 12 true 60 rfl rfl) ?_
                refine R.skip (.f 12 true 60 rfl rfl) ?_
                refine R.skip (.f 12 true 60 rfl rfl) ?_
                refine R.flo (Gd.t 2 true 50 rfl rfl) (Y.pickT rfl rfl) ?_
                refine R.flo Gd.no (Y.pickT rfl rfl) ?_
                refine R.flo Gd.no (Y.assign rfl) ?_
                refine R.nil ?_
                have hx := Option.some.inj hr
                subst hx
                refine meet_mk ⟨true, nx_18⟩ rfl (Weak.to [5, 47] [0] rfl)
          · subst hx
            have hr := hox24
            refine Tri.cond rfl (fun hc27 => ?_) (fun hc27 => ?_)
            · replace hr := cond_t hc27 hr
              refine Tri.seq ?_
              refine Tri.region ?_
              refine R.flo Gd.no (Y.assign rfl) ?_
              refine R.nil ?_
              refine Tri.weak (Weak.to [4] [] rfl) ?_
              refine Tri.ret ?_
              have hx := Option.some.inj hr
              subst hx
              exact ⟨.inl rfl, _, .inr (.inl ⟨_, _, rfl, rfl, rfl⟩), ⟨rfl, rfl⟩⟩
            · replace hr := cond_f hc27 hr
              refine Tri.skip ?_
              refine Tri.seq ?_
              refine Tri.seq ?_
              refine Tri.region ?_
              refine R.flo Gd.no (Y.fieldP Tryz.fo55_3 rfl) ?_
              refine R.flo Gd.no (Y.loadB1 rfl 0 rfl rfl Tryz.isAgg9) ?_
              replace hr := bind_inv hr
              obtain ⟨r28, hcr28, hr⟩ := hr
              refine R.call (H1 := []) (H2 := [(nx, .box 55 [.c (.lit (.int .i64 x1.id)), .c (.lit (.int .i64 x1.parent)), .c (.ro 1 false (x1.kids.map encI)), .c (.lit (str x1.text)), .c (.ro 6 false (x1.props.map encP))])]) Gd.no Tryz.en68 rfl (ok_text_Check hcr28 nx_26) (perm_idx [0] rfl) (fun _ _ nx_29 hq => ?_)
              obtain ⟨rfl, rfl⟩ := hq
              refine R.flo Gd.no (Y.assign rfl) ?_
              refine R.nil ?_
              refine Tri.seq ?_
              refine Tri.region ?_
              refine R.flo Gd.no (Y.move rfl) ?_
              refine R.flo Gd.no (Y.neqI rfl rfl) ?_
              refine R.nil ?_
              refine Tri.cond rfl (fun hc30 => ?_) (fun hc30 => ?_)
              · replace hr := cond_t hc30 hr
                refine Tri.seq ?_
                refine Tri.region ?_
                refine R.flo Gd.no (Y.move rfl) ?_
                refine R.flo Gd.no (Y.assign rfl) ?_
                refine R.nil ?_
                refine Tri.weak (Weak.to [4] [] rfl) ?_
                refine Tri.ret ?_
                have hx := Option.some.inj hr
                subst hx
                exact ⟨.inl rfl, _, .inr (.inl ⟨_, _, rfl, rfl, rfl⟩), ⟨rfl, rfl⟩⟩
              · replace hr := cond_f hc30 hr
                refine Tri.skip ?_
                refine Tri.seq ?_
                refine Tri.seq ?_
                refine Tri.region ?_
                refine R.flo Gd.no (Y.fieldP Tryz.fo55_2 rfl) ?_
                refine R.flo Gd.no (Y.loadB1 rfl 0 rfl rfl Tryz.isAgg52) ?_
                refine TOps.fact (Fact.lenR (x := .tmp 73) (n := x1.kids.length) rfl (List.length_map ..)) (fun hl31 => ?_)
                refine R.flo Gd.no (Y.lenR (m := x1.kids.length) Tryz.underlying52 rfl rfl (List.length_map ..)) ?_
                refine R.flo Gd.no (Y.gtrI rfl rfl) ?_
                refine R.nil ?_
                refine Tri.cond rfl (fun hc32 => ?_) (fun hc32 => ?_)
                · replace hr := cond_t hc32 hr
                  refine Tri.seq ?_
                  refine Tri.region ?_
                  refine R.flo Gd.no (Y.assign rfl) ?_
                  refine R.nil ?_
                  refine Tri.weak (Weak.to [4] [] rfl) ?_
                  refine Tri.ret ?_
                  have hx := Option.some.inj hr
                  subst hx
                  exact ⟨.inl rfl, _, .inr (.inl ⟨_, _, rfl, rfl, rfl⟩), ⟨rfl, rfl⟩⟩
                · replace hr := cond_f hc32 hr
                  refine Tri.skip ?_
                  refine Tri.seq ?_
                  refine Tri.region ?_
                  refine R.flo Gd.no (Y.fieldP Tryz.fo55_4 rfl) ?_
                  refine R.flo Gd.no (Y.loadB1 rfl 0 rfl rfl Tryz.isAgg53) ?_
                  replace hr := bind_inv hr
                  obtain ⟨r33, hcr33, hr⟩ := hr
                  refine R.call (H1 := []) (H2 := [(nx, .box 55 [.c (.lit (.int .i64 x1.id)), .c (.lit (.int .i64 x1.parent)), .c (.ro 1 false (x1.kids.map encI)), .c (.lit (str x1.text)), .c (.ro 6 false (x1.props.map encP))])]) Gd.no Tryz.en57 rfl (ok_prop_CheckProps hcr33 nx_29) (perm_idx [0] rfl) (fun _ _ nx_34 hq => ?_)
                  obtain ⟨rfl, rfl⟩ := hq
                  refine R.flo Gd.no (Y.assign rfl) ?_
                  refine R.nil ?_
                  refine Tri.weak (Weak.to [4] [] rfl) ?_
                  refine Tri.ret ?_
                  have hx := Option.some.inj hr
                  subst hx
                  exact ⟨.inl rfl, _, .inr (.inl ⟨_, _, rfl, rfl, rfl⟩), ⟨rfl, rfl⟩⟩
theorem ok_tree_index_1 {b : Block} {id : Int} {r : Int} (hr : f_tree_index_1 b id = some r) (nx : Nat) : OkH Tryz.prog 84 [.agg [.c (.lit (.int .i64 b.id)), .c (.lit (.int .i64 b.parent)), .c (.ro 1 false (b.kids.map encI)), .c (.lit (str b.text)), .c (.ro 6 false (b.props.map encP))], .one (.c (.lit (.int .i64 id)))] [] nx fun v H' _ => v = .v (.one (.c (.lit (.int .i64 r)))) ∧ H' = [] := by
  refine OkH.intro Tryz.func84 rfl Tryz.ntmps84 (by simp) ?_
  unfold f_tree_index_1 at hr
  refine Tri.seq ?_
  refine Tri.region ?_
  refine R.eff Gd.no (E.box (cs := [.c (.lit (.int .i64 b.id)), .c (.lit (.int .i64 b.parent)), .c (.ro 1 false (b.kids.map encI)), .c (.lit (str b.text)), .c (.ro 6 false (b.props.map encP))]) rfl rfl rfl) ?_
  refine R.flo Gd.no (Y.assign rfl) ?_
  refine R.nil ?_
  refine Tri.seq ?_
  refine Tri.region ?_
  refine R.flo Gd.no (Y.fieldP Tryz.fo55_0 rfl) ?_
  refine R.flo Gd.no (Y.loadB1 rfl 0 rfl rfl Tryz.isAgg3) ?_
  refine R.flo Gd.no (Y.move rfl) ?_
  refine R.flo Gd.no (Y.subK rfl rfl) ?_
  refine R.flo Gd.no (Y.assign rfl) ?_
  refine R.nil ?_
  refine Tri.weak (Weak.to [4] [] rfl) ?_
  refine Tri.ret ?_
  have hx := Option.some.inj hr
  subst hx
  exact ⟨.inl rfl, _, .inr (.inl ⟨_, _, rfl, rfl, rfl⟩), ⟨rfl, rfl⟩⟩
theorem ok_slices_BinarySearchFunc_api_Block_api_Block_int_1bcc {x : List Block} {target : Int} {r : Int × Bool} (hr : f_slices_BinarySearchFunc_api_Block_api_Block_int_1bcc x target = some r) (nx : Nat) : OkH Tryz.prog 83 [.one (.c (.ro 5 false (x.map encB))), .one (.c (.lit (.int .i64 target))), .one (.fn 84 [])] [] nx fun v H' _ => v = .tup [.one (.c (.lit (.int .i64 r.1))), .one (.c (.lit (.bool r.2)))] ∧ H' = [] := by
  refine OkH.intro Tryz.func83 rfl Tryz.ntmps83 (by simp) ?_
  unfold f_slices_BinarySearchFunc_api_Block_api_Block_int_1bcc at hr
  refine Tri.seq ?_
  refine Tri.region ?_
  refine R.flo Gd.no (Y.assign rfl) ?_
  refine R.flo Gd.no (Y.assign rfl) ?_
  refine R.nil ?_
  refine Tri.seq ?_
  refine Tri.region ?_
  refine R.flo Gd.no (Y.move rfl) ?_
  refine TOps.fact (Fact.lenR (x := .tmp 12) (n := x.length) rfl (List.length_map ..)) (fun hl1 => ?_)
  refine R.flo Gd.no (Y.lenR (m := x.length) Tryz.underlying22 rfl rfl (List.length_map ..)) ?_
  refine R.flo Gd.no (Y.assign rfl) ?_
  refine R.nil ?_
  refine Tri.seq ?_
  refine Tri.region ?_
  refine R.flo Gd.no (Y.move rfl) ?_
  refine R.flo Gd.no (Y.assign rfl) ?_
  refine R.flo Gd.no (Y.assign rfl) ?_
  refine R.nil ?_
  replace hr := bind_inv hr
  obtain ⟨x11, hr, hox11⟩ := hr
  refine Tri.meet (α := Int × Nat) (fun ⟨s12, nx_13⟩ => s12 = x11) (fun ⟨s12, nx_13⟩ => ⟨49, [(0, some (.v (.one (.c (.ro 5 false (x.map encB)))))), (1, some (.v (.one (.c (.lit (.int .i64 target)))))), (2, some (.v (.one (.fn 84 [])))), (8, some (.v (.one (.c (.lit (.int .i64 ((x.length : Int)))))))), (9, some (.v (.one (.c (.lit (.int .i64 s12))))))], [], nx_13⟩) ?_ (fun ⟨s12, nx_13⟩ hx => ?_)
  · refine Tri.block ?_
    refine Tri.loop (α := Nat × Int × Int × Nat) (fun ⟨fuel19, i2, j3, nx_4⟩ => f_slices_BinarySearchFunc_api_Block_api_Block_int_1bcc_l1 x target fuel19 i2 j3 = some x11) (fun ⟨fuel19, i2, j3, nx_4⟩ => ⟨49, [(0, some (.v (.one (.c (.ro 5 false (x.map encB)))))), (1, some (.v (.one (.c (.lit (.int .i64 target)))))), (2, some (.v (.one (.fn 84 [])))), (8, some (.v (.one (.c (.lit (.int .i64 ((x.length : Int)))))))), (9, some (.v (.one (.c (.lit (.int .i64 i2)))))), (10, some (.v (.one (.c (.lit (.int .i64 j3))))))], [], nx_4⟩) (fun ⟨fuel19, i2, j3, nx_4⟩ => fuel19) ⟨FUEL, 0, (x.length : Int), nx⟩ ?_ (Weak.to [0, 1, 2, 8, 9, 10] [] rfl) ?_
    · exact hr
    · rintro ⟨fuel19, i2, j3, nx_4⟩ (hr : f_slices_BinarySearchFunc_api_Block_api_Block_int_1bcc_l1 x target fuel19 i2 j3 = some x11)
      cases fuel19 with
      | zero => rw [f_slices_BinarySearchFunc_api_Block_api_Block_int_1bcc_l1] at hr; cases hr
      | succ fuel19 =>
        rw [f_slices_BinarySearchFunc_api_Block_api_Block_int_1bcc_l1] at hr
        refine Tri.seq ?_
        refine Tri.seq ?_
        refine Tri.region ?_
        refine R.flo Gd.no (Y.move rfl) ?_
        refine R.flo Gd.no (Y.move rfl) ?_
        refine R.flo Gd.no (Y.lssI rfl rfl) ?_
        refine R.nil ?_
        refine Tri.cond rfl (fun hc5 => ?_) (fun hc5 => ?_)
        · replace hr := cond_t hc5 hr
          refine Tri.skip ?_
          refine Tri.block ?_
          refine Tri.seq ?_
          refine Tri.region ?_
          refine R.flo Gd.no (Y.move rfl) ?_
          refine R.flo Gd.no (Y.move rfl) ?_
          replace hr := ckI_inv hr
          obtain ⟨ha, hb, hr⟩ := hr
          refine R.flo Gd.no (Y.addI rfl rfl ha hb) ?_
          refine R.flo Gd.no (Y.convII Tryz.underlying3 Tryz.underlying108 rfl) ?_
          refine R.flo Gd.no (Y.shrK rfl rfl (by decide)) ?_
          refine R.flo Gd.no (Y.convII Tryz.underlying108 Tryz.underlying3 rfl) ?_
          refine R.flo Gd.no (Y.assign rfl) ?_
          refine R.nil ?_
          refine Tri.seq ?_
          refine Tri.region ?_
          refine R.flo Gd.no (Y.move rfl) ?_
          refine R.flo Gd.no (Y.move rfl) ?_
          refine R.flo Gd.no (Y.move rfl) ?_
          replace hr := atn_inv hr
          obtain ⟨x6, h7, hx6, hr⟩ := hr
          refine R.flo Gd.no (Y.idxR ((IntKind.i64.wrap (shrK .u64 (IntKind.u64.wrap (i2 + j3)) (1 : Int))).toNat) Tryz.underlying22 Tryz.sizeOf55 rfl (ev_tn rfl h7) (map_get hx6)) ?_
          refine R.flo Gd.no (Y.loadPN rfl Tryz.isAgg55 Tryz.sizeOf55 rfl rfl) ?_
          refine R.flo Gd.no (Y.move rfl) ?_
          replace hr := bind_inv hr
          obtain ⟨r8, hcr8, hr⟩ := hr
          refine R.callV (H1 := []) (H2 := []) Gd.no Tryz.en84 rfl rfl (ok_tree_index_1 hcr8 nx_4) (perm_idx [] rfl) (fun _ _ nx_9 hq => ?_)
          obtain ⟨rfl, rfl⟩ := hq
          refine R.flo Gd.no (Y.lssI rfl rfl) ?_
          refine R.nil ?_
          refine Tri.cond rfl (fun hc10 => ?_) (fun hc10 => ?_)
          · replace hr := cond_t hc10 hr
            refine Tri.region ?_
            refine R.flo Gd.no (Y.move rfl) ?_
            replace hr := ckI_inv hr
            obtain ⟨ha, hb, hr⟩ := hr
            refine R.flo Gd.no (Y.addI rfl rfl ha hb) ?_
            refine R.flo Gd.no (Y.assign rfl) ?_
            refine R.nil ?_
            refine back_mk ⟨fuel19, (IntKind.i64.wrap (shrK .u64 (IntKind.u64.wrap (i2 + j3)) (1 : Int))) + 1, j3, nx_9⟩ hr (Nat.lt_succ_self _) (Weak.to [0, 1, 2, 8, 9, 10] [] rfl)
          · replace hr := cond_f hc10 hr
            refine Tri.region ?_
            refine R.flo Gd.no (Y.move rfl) ?_
            refine R.flo Gd.no (Y.assign rfl) ?_
            refine R.nil ?_
            refine back_mk ⟨fuel19, i2, IntKind.i64.wrap (shrK .u64 (IntKind.u64.wrap (i2 + j3)) (1 : Int)), nx_9⟩ hr (Nat.lt_succ_self _) (Weak.to [0, 1, 2, 8, 9, 10] [] rfl)
        · replace hr := cond_f hc5 hr
          refine Tri.exit ?_
          have hx := Option.some.inj hr
          subst hx
          refine meet_mk ⟨i2, nx_4⟩ rfl (Weak.to [0, 1, 2, 8, 9] [] rfl)
  · subst hx
    have hr := hox11
    refine Tri.seq ?_
    refine Tri.region ?_
    refine R.flo Gd.no (Y.move rfl) ?_
    refine R.flo Gd.no (Y.move rfl) ?_
    refine R.flo Gd.no (Y.move rfl) ?_
    refine R.flo Gd.no (Y.lssI rfl rfl) ?_
    refine R.flo Gd.no (Y.move rfl) ?_
    refine TOps.part (b := decide (s12 < (x.length : Int))) (fun bhb14 hb14 => ?_)
    cases bhb14
    · rw [hb14]; replace hr := cond_f hb14 hr
      refine R.skip (.f 4 false 39 rfl rfl) ?_
      refine R.skip (.f 4 false 39 rfl rfl) ?_
      refine R.skip (.f 4 false 39 rfl rfl) ?_
      refine R.skip (.f 4 false 39 rfl rfl) ?_
      refine R.skip (.f 4 false 39 rfl rfl) ?_
      refine R.skip (.f 4 false 39 rfl rfl) ?_
      refine R.skip (.f 4 false 39 rfl rfl) ?_
      refine R.skip (.f 4 false 39 rfl rfl) ?_
      refine R.flo Gd.no (Y.pickF rfl rfl) ?_
      refine R.flo Gd.no (Y.assign rfl) ?_
      refine R.flo Gd.no (Y.assign rfl) ?_
      refine R.nil ?_
      refine Tri.ret ?_
      have hx := Option.some.inj hr
      subst hx
      exact ⟨.inl rfl, _, .inr (.inr (.inl ⟨_, _, _, _, rfl, rfl, rfl, rfl⟩)), ⟨rfl, rfl⟩⟩
    · rw [hb14]; replace hr := cond_t hb14 hr
      refine R.flo (Gd.t 4 true 39 rfl rfl) (Y.move rfl) ?_
      refine R.flo (Gd.t 4 true 39 rfl rfl) (Y.move rfl) ?_
      refine R.flo (Gd.t 4 true 39 rfl rfl) (Y.move rfl) ?_
      replace hr := atn_inv hr
      obtain ⟨x15, h16, hx15, hr⟩ := hr
      refine R.flo (Gd.t 4 true 39 rfl rfl) (Y.idxR ((s12).toNat) Tryz.underlying22 Tryz.sizeOf55 rfl (ev_tn rfl h16) (map_get hx15)) ?_
      refine R.flo (Gd.t 4 true 39 rfl rfl) (Y.loadPN rfl Tryz.isAgg55 Tryz.sizeOf55 rfl rfl) ?_
      refine R.flo (Gd.t 4 true 39 rfl rfl) (Y.move rfl) ?_
      replace hr := bind_inv hr
      obtain ⟨r17, hcr17, hr⟩ := hr
      refine R.callV (H1 := []) (H2 := []) (Gd.t 4 true 39 rfl rfl) Tryz.en84 rfl rfl (ok_tree_index_1 hcr17 nx_13) (perm_idx [] rfl) (fun _ _ nx_18 hq => ?_)
      obtain ⟨rfl, rfl⟩ := hq
      refine R.flo (Gd.t 4 true 39 rfl rfl) (Y.eqlI rfl rfl) ?_
      refine R.flo Gd.no (Y.pickT rfl rfl) ?_
      refine R.flo Gd.no (Y.assign rfl) ?_
      refine R.flo Gd.no (Y.assign rfl) ?_
      refine R.nil ?_
      refine Tri.ret ?_
      have hx := Option.some.inj hr
      subst hx
      exact ⟨.inl rfl, _, .inr (.inr (.inl ⟨_, _, _, _, rfl, rfl, rfl, rfl⟩)), ⟨rfl, rfl⟩⟩
theorem ok_tree_index {base : List Block} {id : Int} {r : Int} (hr : f_tree_index base id = some r) (nx : Nat) : OkH Tryz.prog 69 [.one (.c (.ro 5 false (base.map encB))), .one (.c (.lit (.int .i64 id)))] [] nx fun v H' _ => v = .v (.one (.c (.lit (.int .i64 r)))) ∧ H' = [] := by
  refine OkH.intro Tryz.func69 rfl Tryz.ntmps69 (by simp) ?_
  unfold f_tree_index at hr
  refine Tri.seq ?_
  refine Tri.region ?_
  refine R.flo Gd.no (Y.assign rfl) ?_
  refine R.nil ?_
  refine Tri.seq ?_
  refine Tri.region ?_
  refine R.flo Gd.no (Y.move rfl) ?_
  refine R.flo Gd.no (Y.move rfl) ?_
  replace hr := bind_inv hr
  obtain ⟨r1, hcr1, hr⟩ := hr
  refine R.call (H1 := []) (H2 := []) Gd.no Tryz.en83 rfl (ok_slices_BinarySearchFunc_api_Block_api_Block_int_1bcc hcr1 nx) (perm_idx [] rfl) (fun _ _ nx_2 hq => ?_)
  obtain ⟨rfl, rfl⟩ := hq
  refine R.flo Gd.no (Y.move rfl) ?_
  refine R.flo Gd.no (Y.extract rfl rfl) ?_
  refine R.flo Gd.no (Y.extract rfl rfl) ?_
  refine R.flo Gd.no (Y.assign rfl) ?_
  refine R.flo Gd.no (Y.assign rfl) ?_
  refine R.nil ?_
  refine Tri.seq ?_
  refine Tri.seq ?_
  refine Tri.region ?_
  refine R.flo Gd.no (Y.move rfl) ?_
  refine R.flo Gd.no (Y.not rfl) ?_
  refine R.nil ?_
  refine Tri.cond rfl (fun hc3 => ?_) (fun hc3 => ?_)
  · replace hr := cond_t hc3 hr
    refine Tri.seq ?_
    refine Tri.region ?_
    refine R.flo Gd.no (Y.assign rfl) ?_
    refine R.nil ?_
    refine Tri.ret ?_
    have hx := Option.some.inj hr
    subst hx
    exact ⟨.inl rfl, _, .inr (.inl ⟨_, _, rfl, rfl, rfl⟩), ⟨rfl, rfl⟩⟩
  · replace hr := cond_f hc3 hr
    refine Tri.skip ?_
    refine Tri.seq ?_
    refine Tri.region ?_
    refine R.flo Gd.no (Y.move rfl) ?_
    refine R.flo Gd.no (Y.assign rfl) ?_
    refine R.nil ?_
    refine Tri.ret ?_
    have hx := Option.some.inj hr
    subst hx
    exact ⟨.inl rfl, _, .inr (.inl ⟨_, _, rfl, rfl, rfl⟩), ⟨rfl, rfl⟩⟩
end Go.Fl
