/- The walks: each function of the program answers as its plain program does. -/
import Derived.Test.YtlaommikkfojfaaGreatDoorFlFacts
import Derived.Test.YtlaommikkfojfaaGreatDoorFlTypes
import Derived.Test.YtlaommikkfojfaaGreatDoorFlRounds
import Derived.Test.YtlaommikkfojfaaGreatDoorFlPrims
import Derived.Test.YtlaommikkfojfaaGreatDoorFlLays
import Derived.Test.YtlaommikkfojfaaGreatDoorFlP1
import Derived.Test.YtlaommikkfojfaaGreatDoorFlG1
namespace Go.Fl
open Go Go.Proofs
set_option maxRecDepth 100000
set_option linter.unusedVariables false
set_option linter.unusedSimpArgs false
theorem ok_tree_checkKids {base : List Block} {r : Int} (hr : f_tree_checkKids base = some r) (nx : Nat) : OkH Tryz.prog 50 [.one (.c (.ro 5 false (base.map encB)))] [] nx fun v H' _ => v = .v (.one (.c (.lit (.int .i64 r)))) ∧ H' = [] := by
  refine OkH.intro Tryz.func50 rfl Tryz.ntmps50 (by simp) ?_
  unfold f_tree_checkKids at hr
  refine Tri.seq ?_
  refine Tri.region ?_
  refine R.flo Gd.no (Y.assign rfl) ?_
  refine R.nil ?_
  refine Tri.seq ?_
  refine Tri.seq ?_
  refine Tri.region ?_
  refine R.flo Gd.no (Y.move rfl) ?_
  refine TOps.fact (Fact.lenR (x := .tmp 9) (n := base.length) rfl (List.length_map ..)) (fun hl1 => ?_)
  refine R.flo Gd.no (Y.lenR (m := base.length) Tryz.underlying22 rfl rfl (List.length_map ..)) ?_
  refine R.flo Gd.no (Y.move rfl) ?_
  refine R.nil ?_
  replace hr := bind_inv hr
  obtain ⟨x28, hr, hox28⟩ := hr
  refine Tri.meet1 (α := Unit × Nat) (fun ⟨s29, nx_30⟩ => (.inl s29) = x28) (fun ⟨s29, nx_30⟩ => ⟨50, [], [], nx_30⟩) ?_ (fun ⟨s29, nx_30⟩ hx => ?_)
  · refine Tri.block ?_
    refine Tri.loop (α := Nat × Nat) (fun ⟨v2, nx_3⟩ => v2 ≤ base.length ∧ f_tree_checkKids_l1 base (base.drop v2)  = some x28) (fun ⟨v2, nx_3⟩ => ⟨50, [(0, some (.v (.one (.c (.ro 5 false (base.map encB)))))), (9, some (.v (.one (.c (.ro 5 false (base.map encB)))))), (10, some (.v (.one (.c (.lit (.int .i64 ((base.length : Int)))))))), (11, some (.v (.one (.c (.lit (.int .i64 ((v2 : Int))))))))], [], nx_3⟩) (fun ⟨v2, nx_3⟩ => base.length - v2) ⟨0, nx⟩ ?_ (Weak.to [0, 9, 10, 11] [] rfl) ?_
    · exact ⟨Nat.zero_le _, hr⟩
    · rintro ⟨v2, nx_3⟩ ⟨hk, hr⟩
      refine Tri.seq ?_
      refine Tri.region ?_
      refine R.flo Gd.no (Y.lssI rfl rfl) ?_
      refine R.nil ?_
      refine Tri.seq ?_
      refine Tri.cond rfl (fun hc => ?_) (fun hc => ?_)
      · have hk := lt_of_dec hc
        obtain ⟨x4, hx4⟩ := get_of_lt hk
        rw [drop_at hx4, f_tree_checkKids_l1] at hr
        refine Tri.skip ?_
        refine Tri.seq ?_
        refine Tri.block ?_
        refine Tri.seq ?_
        refine Tri.region ?_
        refine R.flo Gd.no (Y.idxR v2 Tryz.underlying22 Tryz.sizeOf55 rfl rfl (map_get hx4)) ?_
        refine R.flo Gd.no (Y.loadPN rfl Tryz.isAgg55 Tryz.sizeOf55 rfl rfl) ?_
        refine R.eff Gd.no (E.alloc (cs := [.c (.lit (.int .i64 0)), .c (.lit (.int .i64 0)), .c (.lit (.slice none 0 0)), .c (.lit (str ([] : Bytes))), .c (.lit (.slice none 0 0))]) Tryz.et55.zero Tryz.et55.one (by rfl)) ?_
        refine R.eff Gd.no (E.storeB 0 rfl rfl rfl rfl Tryz.sizeOf55 rfl rfl rfl) ?_
        refine R.nil ?_
        refine Tri.seq ?_
        refine Tri.region ?_
        refine R.eff Gd.no (E.makeMap (.int .i64) 4 (fun n : Int => Value.int .i64 n) evB) ?_
        refine R.flo Gd.no (Y.assign rfl) ?_
        refine R.nil ?_
        refine Tri.seq ?_
        refine Tri.region ?_
        refine R.flo Gd.no (Y.fieldP Tryz.fo55_2 rfl) ?_
        refine R.flo Gd.no (Y.loadB1 rfl 1 rfl rfl Tryz.isAgg52) ?_
        refine TOps.fact (Fact.lenR (x := .tmp 17) (n := x4.kids.length) rfl (List.length_map ..)) (fun hl5 => ?_)
        refine R.flo Gd.no (Y.lenR (m := x4.kids.length) Tryz.underlying52 rfl rfl (List.length_map ..)) ?_
        refine R.flo Gd.no (Y.move rfl) ?_
        refine R.nil ?_
        replace hr := bind_inv hr
        obtain ⟨x23, hr, hox23⟩ := hr
        refine Tri.meet1 (α := Unit × Nat) (fun ⟨s24, nx_25⟩ => (.inl s24) = x23) (fun ⟨s24, nx_25⟩ => ⟨50, [(0, some (.v (.one (.c (.ro 5 false (base.map encB)))))), (9, some (.v (.one (.c (.ro 5 false (base.map encB)))))), (10, some (.v (.one (.c (.lit (.int .i64 ((base.length : Int)))))))), (11, some (.v (.one (.c (.lit (.int .i64 ((v2 : Int))))))))], [], nx_25⟩) ?_ (fun ⟨s24, nx_25⟩ hx => ?_)
        · refine Tri.block ?_
          refine Tri.loop (α := Nat × (List (Int × Bool)) × Nat × Nat × Nat) (fun ⟨v9, seen8, o6, o7, nx_10⟩ => v9 ≤ x4.kids.length ∧ f_tree_checkKids_l2 base x4 (x4.kids.drop v9) seen8 = some x23) (fun ⟨v9, seen8, o6, o7, nx_10⟩ => ⟨50, [(0, some (.v (.one (.c (.ro 5 false (base.map encB)))))), (4, some (.v (.one (.ptr o6 0 0)))), (5, some (.v (.one (.obj o7)))), (9, some (.v (.one (.c (.ro 5 false (base.map encB)))))), (10, some (.v (.one (.c (.lit (.int .i64 ((base.length : Int)))))))), (11, some (.v (.one (.c (.lit (.int .i64 ((v2 : Int)))))))), (17, some (.v (.one (.c (.ro 1 false (x4.kids.map encI)))))), (18, some (.v (.one (.c (.lit (.int .i64 ((x4.kids.length : Int)))))))), (19, some (.v (.one (.c (.lit (.int .i64 ((v9 : Int))))))))], [(o6, .box 55 [.c (.lit (.int .i64 x4.id)), .c (.lit (.int .i64 x4.parent)), .c (.ro 1 false (x4.kids.map encI)), .c (.lit (str x4.text)), .c (.ro 6 false (x4.props.map encP))]), (o7, .map (.int .i64) 4 (mapOf (fun n : Int => Value.int .i64 n) evB seen8))], nx_10⟩) (fun ⟨v9, seen8, o6, o7, nx_10⟩ => x4.kids.length - v9) ⟨0, ([] : List (Int × Bool)), nx_3, nx_3 + 1, nx_3 + 2⟩ ?_ (Weak.to [0, 4, 5, 9, 10, 11, 17, 18, 19] [1, 0] rfl) ?_
          · exact ⟨Nat.zero_le _, hr⟩
          · rintro ⟨v9, seen8, o6, o7, nx_10⟩ ⟨hk, hr⟩
            refine Tri.seq ?_
            refine Tri.region ?_
            refine R.flo Gd.no (Y.lssI rfl rfl) ?_
            refine R.nil ?_
            refine Tri.seq ?_
            refine Tri.cond rfl (fun hc => ?_) (fun hc => ?_)
            · have hk := lt_of_dec hc
              obtain ⟨x11, hx11⟩ := get_of_lt hk
              rw [drop_at hx11, f_tree_checkKids_l2] at hr
              refine Tri.skip ?_
              refine Tri.seq ?_
              refine Tri.block ?_
              refine Tri.seq ?_
              refine Tri.region ?_
              refine R.flo Gd.no (Y.idxR v9 Tryz.underlying52 Tryz.sizeOf3 rfl rfl (map_get hx11)) ?_
              refine R.flo Gd.no (Y.loadP1 rfl rfl Tryz.isAgg3) ?_
              refine R.flo Gd.no (Y.assign rfl) ?_
              refine R.nil ?_
              refine Tri.seq ?_
              refine Tri.region ?_
              refine R.flo Gd.no (Y.move rfl) ?_
              refine R.flo Gd.no (Y.move rfl) ?_
              replace hr := bind_inv hr
              obtain ⟨r12, hcr12, hr⟩ := hr
              refine R.call (H1 := []) (H2 := [(o6, .box 55 [.c (.lit (.int .i64 x4.id)), .c (.lit (.int .i64 x4.parent)), .c (.ro 1 false (x4.kids.map encI)), .c (.lit (str x4.text)), .c (.ro 6 false (x4.props.map encP))]), (o7, .map (.int .i64) 4 (mapOf (fun n : Int => Value.int .i64 n) evB seen8))]) Gd.no Tryz.en69 rfl (ok_tree_index hcr12 nx_10) (perm_idx [0, 1] rfl) (fun _ _ nx_13 hq => ?_)
              obtain ⟨rfl, rfl⟩ := hq
              refine R.flo Gd.no (Y.assign rfl) ?_
              refine R.nil ?_
              refine Tri.seq ?_
              refine Tri.block ?_
              refine Tri.seq ?_
              refine Tri.region ?_
              refine R.flo Gd.no (Y.move rfl) ?_
              refine R.flo Gd.no (Y.lssI rfl rfl) ?_
              refine R.flo Gd.no (Y.assign rfl) ?_
              refine R.nil ?_
              refine Tri.cond rfl (fun hc14 => ?_) (fun hc14 => ?_)
              · replace hr := cond_t hc14 hr
                refine Tri.seq ?_
                refine Tri.region ?_
                refine R.flo Gd.no (Y.assign rfl) ?_
                refine R.nil ?_
                have hx := Option.some.inj hr
                subst hx
                have hr := sum_r hox23
                have hx := Option.some.inj hr
                subst hx
                have hr := sum_r hox28
                refine Tri.weak (Weak.to [2] [] rfl) ?_
                refine Tri.ret ?_
                have hx := Option.some.inj hr
                subst hx
                exact ⟨.inl rfl, _, .inr (.inl ⟨_, _, rfl, rfl, rfl⟩), ⟨rfl, rfl⟩⟩
              · replace hr := cond_f hc14 hr
                replace hr := bind_inv hr
                obtain ⟨x18, hr, hox18⟩ := hr
                refine Tri.meet (α := Bool × Nat) (fun ⟨s19, nx_20⟩ => s19 = x18) (fun ⟨s19, nx_20⟩ => ⟨50, [(0, some (.v (.one (.c (.ro 5 false (base.map encB)))))), (4, some (.v (.one (.ptr o6 0 0)))), (5, some (.v (.one (.obj o7)))), (7, some (.v (.one (.c (.lit (.int .i64 x11)))))), (9, some (.v (.one (.c (.ro 5 false (base.map encB)))))), (10, some (.v (.one (.c (.lit (.int .i64 ((base.length : Int)))))))), (11, some (.v (.one (.c (.lit (.int .i64 ((v2 : Int)))))))), (17, some (.v (.one (.c (.ro 1 false (x4.kids.map encI)))))), (18, some (.v (.one (.c (.lit (.int .i64 ((x4.kids.length : Int)))))))), (19, some (.v (.one (.c (.lit (.int .i64 ((v9 : Int)))))))), (29, some (.v (.one (.c (.lit (.bool s19))))))], [(o6, .box 55 [.c (.lit (.int .i64 x4.id)), .c (.lit (.int .i64 x4.parent)), .c (.ro 1 false (x4.kids.map encI)), .c (.lit (str x4.text)), .c (.ro 6 false (x4.props.map encP))]), (o7, .map (.int .i64) 4 (mapOf (fun n : Int => Value.int .i64 n) evB seen8))], nx_20⟩) ?_ (fun ⟨s19, nx_20⟩ hx => ?_)
                · refine Tri.draw 13 rfl rfl [] [(o6, .box 55 [.c (.lit (.int .i64 x4.id)), .c (.lit (.int .i64 x4.parent)), .c (.ro 1 false (x4.kids.map encI)), .c (.lit (str x4.text)), .c (.ro 6 false (x4.props.map encP))]), (o7, .map (.int .i64) 4 (mapOf (fun n : Int => Value.int .i64 n) evB seen8))] rfl ?_
                  refine TAny.flo 0 rfl (by decide +kernel) (by decide +kernel) (by decide +kernel) Gd.no (Y.move rfl) ?_
                  refine TAny.flo 1 rfl (by decide +kernel) (by decide +kernel) (by decide +kernel) Gd.no (Y.move rfl) ?_
                  replace hr := atn_inv hr
                  obtain ⟨x15, h16, hx15, hr⟩ := hr
                  refine TAny.flo 2 rfl (by decide +kernel) (by decide +kernel) (by decide +kernel) Gd.no (Y.idxR ((r12).toNat) Tryz.underlying22 Tryz.sizeOf55 rfl (ev_tn rfl h16) (map_get hx15)) ?_
                  refine TAny.flo 3 rfl (by decide +kernel) (by decide +kernel) (by decide +kernel) Gd.no (Y.fieldR Tryz.fo55_1 rfl) ?_
                  refine TAny.flo 4 rfl (by decide +kernel) (by decide +kernel) (by decide +kernel) Gd.no (Y.loadP1 rfl rfl Tryz.isAgg3) ?_
                  refine TAny.flo 5 rfl (by decide +kernel) (by decide +kernel) (by decide +kernel) Gd.no (Y.fieldP Tryz.fo55_0 rfl) ?_
                  refine TAny.flo 6 rfl (by decide +kernel) (by decide +kernel) (by decide +kernel) Gd.no (Y.loadB1 rfl 0 rfl rfl Tryz.isAgg3) ?_
                  refine TAny.flo 7 rfl (by decide +kernel) (by decide +kernel) (by decide +kernel) Gd.no (Y.neqI rfl rfl) ?_
                  refine TAny.flo 8 rfl (by decide +kernel) (by decide +kernel) (by decide +kernel) Gd.no (Y.move rfl) ?_
                  refine TAny.part (b := decide (x15.parent ≠ x4.id)) (fun bhb17 hb17 => ?_)
                  cases bhb17
                  · rw [hb17]; replace hr := cond_f hb17 hr
                    refine TAny.flo 9 rfl (by decide +kernel) (by decide +kernel) (by decide +kernel) (Gd.t 8 false 38 rfl rfl) (Y.move rfl) ?_
                    refine TAny.flo 10 rfl (by decide +kernel) (by decide +kernel) (by decide +kernel) (Gd.t 8 false 38 rfl rfl) (Y.eqlI rfl rfl) ?_
                    refine TAny.flo 11 rfl (by decide +kernel) (by decide +kernel) (by decide +kernel) Gd.no (Y.pickF rfl rfl) ?_
                    refine TAny.flo 12 rfl (by decide +kernel) (by decide +kernel) (by decide +kernel) Gd.no (Y.assign rfl) ?_
                    refine TAny.done (by decide +kernel) ?_
                    have hx := Option.some.inj hr
                    subst hx
                    refine meet_mk ⟨decide (x11 = (0 : Int)), nx_13⟩ rfl (Weak.to [0, 4, 5, 7, 9, 10, 11, 17, 18, 19, 29] [0, 1] rfl)
                  · rw [hb17]; replace hr := cond_t hb17 hr
                    refine TAny.skip 9 rfl (by decide +kernel) (by decide +kernel) (by decide +kernel) (.f 8 true 38 rfl rfl) ?_
                    refine TAny.skip 10 rfl (by decide +kernel) (by decide +kernel) (by decide +kernel) (.f 8 true 38 rfl rfl) ?_
                    refine TAny.flo 11 rfl (by decide +kernel) (by decide +kernel) (by decide +kernel) Gd.no (Y.pickT rfl rfl) ?_
                    refine TAny.flo 12 rfl (by decide +kernel) (by decide +kernel) (by decide +kernel) Gd.no (Y.assign rfl) ?_
                    refine TAny.done (by decide +kernel) ?_
                    have hx := Option.some.inj hr
                    subst hx
                    refine meet_mk ⟨true, nx_13⟩ rfl (Weak.to [0, 4, 5, 7, 9, 10, 11, 17, 18, 19, 29] [0, 1] rfl)
                · subst hx
                  have hr := hox18
                  refine Tri.cond rfl (fun hc21 => ?_) (fun hc21 => ?_)
                  · replace hr := cond_t hc21 hr
                    refine Tri.seq ?_
                    refine Tri.region ?_
                    refine R.flo Gd.no (Y.assign rfl) ?_
                    refine R.nil ?_
                    have hx := Option.some.inj hr
                    subst hx
                    have hr := sum_r hox23
                    have hx := Option.some.inj hr
                    subst hx
                    have hr := sum_r hox28
                    refine Tri.weak (Weak.to [2] [] rfl) ?_
                    refine Tri.ret ?_
                    have hx := Option.some.inj hr
                    subst hx
                    exact ⟨.inl rfl, _, .inr (.inl ⟨_, _, rfl, rfl, rfl⟩), ⟨rfl, rfl⟩⟩
                  · replace hr := cond_f hc21 hr
                    refine Tri.seq ?_
                    refine Tri.region ?_
                    refine R.flo Gd.no (Y.move rfl) ?_
                    refine R.flo Gd.no (Y.move rfl) ?_
                    refine R.flo Gd.no (Y.lookup1 1 rfl Tryz.underlying104 Tryz.underlying3 keyI rfl rfl Tryz.et4.zero zvB) ?_
                    refine R.flo Gd.no (Y.assign rfl) ?_
                    refine R.nil ?_
                    refine Tri.cond rfl (fun hc22 => ?_) (fun hc22 => ?_)
                    · replace hr := cond_t hc22 hr
                      refine Tri.seq ?_
                      refine Tri.region ?_
                      refine R.flo Gd.no (Y.assign rfl) ?_
                      refine R.nil ?_
                      have hx := Option.some.inj hr
                      subst hx
                      have hr := sum_r hox23
                      have hx := Option.some.inj hr
                      subst hx
                      have hr := sum_r hox28
                      refine Tri.weak (Weak.to [2] [] rfl) ?_
                      refine Tri.ret ?_
                      have hx := Option.some.inj hr
                      subst hx
                      exact ⟨.inl rfl, _, .inr (.inl ⟨_, _, rfl, rfl, rfl⟩), ⟨rfl, rfl⟩⟩
                    · replace hr := cond_f hc22 hr
                      refine Tri.skip ?_
                      refine Tri.region ?_
                      refine R.flo Gd.no (Y.move rfl) ?_
                      refine R.flo Gd.no (Y.move rfl) ?_
                      replace hr := ckN_inv hr
                      obtain ⟨ha, hr⟩ := hr
                      refine R.eff Gd.no (E.mapUpdate 1 rfl Tryz.underlying104 Tryz.underlying3 keyI rfl rfl rfl ha) ?_
                      refine R.nil ?_
                      refine Tri.region ?_
                      refine R.flo Gd.no (Y.addI rfl rfl (by omega) (by unfold maxLen at *; omega)) ?_
                      refine R.flo Gd.no (Y.move rfl) ?_
                      refine R.nil ?_
                      refine back_mk ⟨v9 + 1, mset seen8 x11 true, o6, o7, nx_20⟩ ⟨hk, hr⟩ (mu_dec hk) (Weak.to [0, 4, 5, 9, 10, 11, 17, 18, 19] [0, 1] rfl)
            · rw [drop_end (nlt_of_dec hc), f_tree_checkKids_l2] at hr
              refine Tri.exit ?_
              have hx := Option.some.inj hr
              subst hx
              refine meet_mk ⟨(), nx_10⟩ rfl (Weak.to [0, 9, 10, 11] [] rfl)
        · subst hx
          have hr := sum_l hox23
          refine Tri.region ?_
          refine R.flo Gd.no (Y.addI rfl rfl (by omega) (by unfold maxLen at *; omega)) ?_
          refine R.flo Gd.no (Y.move rfl) ?_
          refine R.nil ?_
          refine back_mk ⟨v2 + 1, nx_25⟩ ⟨hk, hr⟩ (mu_dec hk) (Weak.to [0, 9, 10, 11] [] rfl)
      · rw [drop_end (nlt_of_dec hc), f_tree_checkKids_l1] at hr
        refine Tri.exit ?_
        have hx := Option.some.inj hr
        subst hx
        refine meet_mk ⟨(), nx_3⟩ rfl (Weak.to [] [] rfl)
  · subst hx
    have hr := sum_l hox28
    refine Tri.seq ?_
    refine Tri.region ?_
    refine R.flo Gd.no (Y.assign rfl) ?_
    refine R.nil ?_
    refine Tri.ret ?_
    have hx := Option.some.inj hr
    subst hx
    exact ⟨.inl rfl, _, .inr (.inl ⟨_, _, rfl, rfl, rfl⟩), ⟨rfl, rfl⟩⟩
theorem ok_tree_depths {base : List Block} {r : (List (Int × Int))} (hr : f_tree_depths base = some r) (nx : Nat) : OkH Tryz.prog 51 [.one (.c (.ro 5 false (base.map encB)))] [] nx fun v H' _ => ∃ q0, v = .v (.one (.obj q0)) ∧ H' = [(q0, .map (.int .i64) 3 (mapOf (fun n : Int => Value.int .i64 n) evI r))] := by
  refine OkH.intro Tryz.func51 rfl Tryz.ntmps51 (by simp) ?_
  unfold f_tree_depths at hr
  refine Tri.seq ?_
  refine Tri.region ?_
  refine R.flo Gd.no (Y.assign rfl) ?_
  refine R.nil ?_
  refine Tri.seq ?_
  refine Tri.region ?_
  refine R.eff Gd.no (E.makeMap (.int .i64) 3 (fun n : Int => Value.int .i64 n) evI) ?_
  replace hr := ckN_inv hr
  obtain ⟨ha, hr⟩ := hr
  refine R.eff Gd.no (E.insert 0 rfl Tryz.underlying48 Tryz.underlying3 keyI rfl rfl rfl ha) ?_
  refine R.flo Gd.no (Y.move rfl) ?_
  refine R.flo Gd.no (Y.assign rfl) ?_
  refine R.nil ?_
  refine Tri.seq ?_
  refine Tri.region ?_
  refine R.eff Gd.no (E.buildSlice (es := rowOf encI ([0])) [.one (.c (.lit (.int .i64 0)))] Tryz.underlying52 Tryz.et3 rfl rfl rfl rfl (by decide) (by decide) rfl) ?_
  refine R.flo Gd.no (Y.assign rfl) ?_
  refine R.nil ?_
  replace hr := bind_inv hr
  obtain ⟨x27, hr, hox27⟩ := hr
  refine Tri.meet (α := ((List (Int × Int))) × Nat) (fun ⟨s28, nx_29⟩ => s28 = x27) (fun ⟨s28, nx_29⟩ => ⟨54, [(3, some (.v (.one (.obj nx))))], [(nx, .map (.int .i64) 3 (mapOf (fun n : Int => Value.int .i64 n) evI s28))], nx_29⟩) ?_ (fun ⟨s28, nx_29⟩ hx => ?_)
  · refine Tri.block ?_
    refine Tri.loop (α := Nat × (List (Int × Int)) × (List Int) × Nat × Nat) (fun ⟨fuel30, at_1, todo3, o2, nx_4⟩ => f_tree_depths_l1 base fuel30 at_1 todo3 = some x27) (fun ⟨fuel30, at_1, todo3, o2, nx_4⟩ => ⟨54, [(0, some (.v (.one (.c (.ro 5 false (base.map encB)))))), (3, some (.v (.one (.obj nx)))), (4, some (.v (.one (.obj o2))))], [(nx, .map (.int .i64) 3 (mapOf (fun n : Int => Value.int .i64 n) evI at_1)), (o2, .row 3 1 (rowOf encI todo3))], nx_4⟩) (fun ⟨fuel30, at_1, todo3, o2, nx_4⟩ => fuel30) ⟨FUEL, mset (([] : List (Int × Int))) 0 0, [0], nx + 1, nx + 2⟩ ?_ (Weak.to [0, 3, 4] [1, 0] rfl) ?_
    · exact hr
    · rintro ⟨fuel30, at_1, todo3, o2, nx_4⟩ (hr : f_tree_depths_l1 base fuel30 at_1 todo3 = some x27)
      cases fuel30 with
      | zero => rw [f_tree_depths_l1] at hr; cases hr
      | succ fuel30 =>
        rw [f_tree_depths_l1] at hr
        refine Tri.seq ?_
        refine Tri.seq ?_
        refine Tri.region ?_
        refine R.flo Gd.no (Y.move rfl) ?_
        refine TOps.fact (Fact.lenO (x := .tmp 13) (n := todo3.length) 1 rfl rfl rowOf_length) (fun hl5 => ?_)
        refine R.flo Gd.no (Y.lenO (m := todo3.length) 1 rfl Tryz.underlying52 rfl rfl rowOf_length) ?_
        refine R.flo Gd.no (Y.gtrI rfl rfl) ?_
        refine R.nil ?_
        refine Tri.cond rfl (fun hc6 => ?_) (fun hc6 => ?_)
        · replace hr := cond_t hc6 hr
          refine Tri.skip ?_
          refine Tri.block ?_
          refine Tri.seq ?_
          refine Tri.region ?_
          refine R.flo Gd.no (Y.move rfl) ?_
          refine R.flo Gd.no (Y.move rfl) ?_
          refine R.flo Gd.no (Y.move rfl) ?_
          replace hr := bind_inv hr
          obtain ⟨x7, hx7, hr⟩ := hr
          refine R.flo Gd.no (Y.idxO 0 1 rfl Tryz.underlying52 Tryz.sizeOf3 rfl rfl (row_get hx7)) ?_
          refine R.flo Gd.no (Y.loadR1 rfl 1 rfl (row_get hx7) rfl Tryz.isAgg3) ?_
          replace hr := bind_inv hr
          obtain ⟨r8, hcr8, hr⟩ := hr
          refine R.call (H1 := []) (H2 := [(nx, .map (.int .i64) 3 (mapOf (fun n : Int => Value.int .i64 n) evI at_1)), (o2, .row 3 1 (rowOf encI todo3))]) Gd.no Tryz.en69 rfl (ok_tree_index hcr8 nx_4) (perm_idx [0, 1] rfl) (fun _ _ nx_9 hq => ?_)
          obtain ⟨rfl, rfl⟩ := hq
          replace hr := atn_inv hr
          obtain ⟨x10, h11, hx10, hr⟩ := hr
          refine R.flo Gd.no (Y.idxR ((r8).toNat) Tryz.underlying22 Tryz.sizeOf55 rfl (ev_tn rfl h11) (map_get hx10)) ?_
          refine R.flo Gd.no (Y.loadPN rfl Tryz.isAgg55 Tryz.sizeOf55 rfl rfl) ?_
          refine R.eff Gd.no (E.alloc (cs := [.c (.lit (.int .i64 0)), .c (.lit (.int .i64 0)), .c (.lit (.slice none 0 0)), .c (.lit (str ([] : Bytes))), .c (.lit (.slice none 0 0))]) Tryz.et55.zero Tryz.et55.one (by rfl)) ?_
          refine R.eff Gd.no (E.storeB 0 rfl rfl rfl rfl Tryz.sizeOf55 rfl rfl rfl) ?_
          refine R.nil ?_
          refine Tri.seq ?_
          refine Tri.region ?_
          refine R.flo Gd.no (Y.move rfl) ?_
          replace hr := cut_inv hr
          obtain ⟨y12, m13, n14, e1, e2, h1, h2, h3, hr⟩ := hr
          refine R.eff Gd.no (E.cutO 2 rfl Tryz.underlying52 Tryz.sizeOf3 rfl (bnd_int rfl e1) (bnd_r e2) (.inl rfl) h1 (by rw [rowOf_length]; exact h2) (row_cut h3)) ?_
          refine R.flo Gd.no (Y.assign rfl) ?_
          refine R.nil ?_
          refine Tri.seq ?_
          refine Tri.region ?_
          refine R.flo Gd.no (Y.fieldP Tryz.fo55_2 rfl) ?_
          refine R.flo Gd.no (Y.loadB1 rfl 1 rfl rfl Tryz.isAgg52) ?_
          refine TOps.fact (Fact.lenR (x := .tmp 27) (n := x10.kids.length) rfl (List.length_map ..)) (fun hl15 => ?_)
          refine R.flo Gd.no (Y.lenR (m := x10.kids.length) Tryz.underlying52 rfl rfl (List.length_map ..)) ?_
          refine R.flo Gd.no (Y.move rfl) ?_
          refine R.nil ?_
          replace hr := bind_inv hr
          obtain ⟨x23, hr, hox23⟩ := hr
          refine Tri.meet1 (α := ((List (Int × Int)) × (List Int)) × Nat × Nat) (fun ⟨s24, o25, nx_26⟩ => s24 = x23) (fun ⟨s24, o25, nx_26⟩ => ⟨54, [(0, some (.v (.one (.c (.ro 5 false (base.map encB)))))), (3, some (.v (.one (.obj nx)))), (4, some (.v (.one (.obj o25))))], [(nx, .map (.int .i64) 3 (mapOf (fun n : Int => Value.int .i64 n) evI s24.1)), (o25, .row 3 1 (rowOf encI s24.2))], nx_26⟩) ?_ (fun ⟨s24, o25, nx_26⟩ hx => ?_)
          · refine Tri.block ?_
            refine Tri.loop (α := Nat × (List (Int × Int)) × (List Int) × Nat × Nat) (fun ⟨v19, at_16, todo18, o17, nx_20⟩ => v19 ≤ x10.kids.length ∧ f_tree_depths_l2 x10 (x10.kids.drop v19) at_16 todo18 = some x23) (fun ⟨v19, at_16, todo18, o17, nx_20⟩ => ⟨54, [(0, some (.v (.one (.c (.ro 5 false (base.map encB)))))), (3, some (.v (.one (.obj nx)))), (4, some (.v (.one (.obj o17)))), (5, some (.v (.one (.ptr nx_9 0 0)))), (27, some (.v (.one (.c (.ro 1 false (x10.kids.map encI)))))), (28, some (.v (.one (.c (.lit (.int .i64 ((x10.kids.length : Int)))))))), (29, some (.v (.one (.c (.lit (.int .i64 ((v19 : Int))))))))], [(nx, .map (.int .i64) 3 (mapOf (fun n : Int => Value.int .i64 n) evI at_16)), (o17, .row 3 1 (rowOf encI todo18)), (nx_9, .box 55 [.c (.lit (.int .i64 x10.id)), .c (.lit (.int .i64 x10.parent)), .c (.ro 1 false (x10.kids.map encI)), .c (.lit (str x10.text)), .c (.ro 6 false (x10.props.map encP))])], nx_20⟩) (fun ⟨v19, at_16, todo18, o17, nx_20⟩ => x10.kids.length - v19) ⟨0, at_1, y12, nx_9 + 1, nx_9 + 2⟩ ?_ (Weak.to [0, 3, 4, 5, 27, 28, 29] [2, 0, 1] rfl) ?_
            · exact ⟨Nat.zero_le _, hr⟩
            · rintro ⟨v19, at_16, todo18, o17, nx_20⟩ ⟨hk, hr⟩
              refine Tri.seq ?_
              refine Tri.region ?_
              refine R.flo Gd.no (Y.lssI rfl rfl) ?_
              refine R.nil ?_
              refine Tri.seq ?_
              refine Tri.cond rfl (fun hc => ?_) (fun hc => ?_)
              · have hk := lt_of_dec hc
                obtain ⟨x21, hx21⟩ := get_of_lt hk
                rw [drop_at hx21, f_tree_depths_l2] at hr
                refine Tri.skip ?_
                refine Tri.seq ?_
                refine Tri.block ?_
                refine Tri.seq ?_
                refine Tri.region ?_
                refine R.flo Gd.no (Y.idxR v19 Tryz.underlying52 Tryz.sizeOf3 rfl rfl (map_get hx21)) ?_
                refine R.flo Gd.no (Y.loadP1 rfl rfl Tryz.isAgg3) ?_
                refine R.flo Gd.no (Y.assign rfl) ?_
                refine R.nil ?_
                refine Tri.seq ?_
                refine Tri.region ?_
                refine R.flo Gd.no (Y.move rfl) ?_
                refine R.flo Gd.no (Y.move rfl) ?_
                refine R.flo Gd.no (Y.lookup2 0 rfl Tryz.underlying48 Tryz.underlying3 keyI rfl rfl Tryz.et3.zero zvI) ?_
                refine R.flo Gd.no (Y.move rfl) ?_
                refine R.flo Gd.no (Y.extract rfl rfl) ?_
                refine R.flo Gd.no (Y.extract rfl rfl) ?_
                refine R.flo Gd.no (Y.assign rfl) ?_
                refine R.flo Gd.no (Y.assign rfl) ?_
                refine R.nil ?_
                refine Tri.seq ?_
                refine Tri.region ?_
                refine R.flo Gd.no (Y.move rfl) ?_
                refine R.flo Gd.no (Y.not rfl) ?_
                refine R.nil ?_
                refine Tri.cond rfl (fun hc22 => ?_) (fun hc22 => ?_)
                · replace hr := cond_t hc22 hr
                  refine Tri.seq ?_
                  refine Tri.region ?_
                  refine R.flo Gd.no (Y.move rfl) ?_
                  refine R.flo Gd.no (Y.move rfl) ?_
                  refine R.flo Gd.no (Y.move rfl) ?_
                  refine R.flo Gd.no (Y.fieldP Tryz.fo55_0 rfl) ?_
                  refine R.flo Gd.no (Y.loadB1 rfl 2 rfl rfl Tryz.isAgg3) ?_
                  refine R.flo Gd.no (Y.lookup1 0 rfl Tryz.underlying48 Tryz.underlying3 keyI rfl rfl Tryz.et3.zero zvI) ?_
                  replace hr := ckI_inv hr
                  obtain ⟨ha, hb, hr⟩ := hr
                  refine R.flo Gd.no (Y.addI rfl rfl ha hb) ?_
                  replace hr := ckN_inv hr
                  obtain ⟨ha, hr⟩ := hr
                  refine R.eff Gd.no (E.mapUpdate 0 rfl Tryz.underlying48 Tryz.underlying3 keyI rfl rfl rfl ha) ?_
                  refine R.nil ?_
                  refine Tri.region ?_
                  refine R.flo Gd.no (Y.move rfl) ?_
                  refine R.flo Gd.no (Y.move rfl) ?_
                  refine R.eff Gd.no (E.buildSlice (es := rowOf encI ([x21])) [.one (.c (.lit (.int .i64 x21)))] Tryz.underlying52 Tryz.et3 rfl rfl rfl rfl (by decide) (by decide) rfl) ?_
                  replace hr := ckN_inv hr
                  obtain ⟨ha, hr⟩ := hr
                  refine R.eff Gd.no (E.append (es := rowOf encI todo18) (es' := rowOf encI (todo18 ++ ([x21]))) 2 rfl Tryz.underlying52 Tryz.et3 rfl rfl (Holds.obj 0 rfl) (fits_len ha (app_len rowOf_length rowOf_length) rfl) (fits_max ha (app_len rowOf_length rowOf_length)) rfl rowOf_append.symm) ?_
                  refine R.flo Gd.no (Y.assign rfl) ?_
                  refine R.nil ?_
                  refine Tri.region ?_
                  refine R.flo Gd.no (Y.addI rfl rfl (by omega) (by unfold maxLen at *; omega)) ?_
                  refine R.flo Gd.no (Y.move rfl) ?_
                  refine R.nil ?_
                  refine back_mk ⟨v19 + 1, mset at_16 x21 (((mget at_16 x10.id).getD (0 : Int)) + 1), todo18 ++ ([x21]), nx_20 + 1, nx_20 + 2⟩ ⟨hk, hr⟩ (mu_dec hk) (Weak.to [0, 3, 4, 5, 27, 28, 29] [2, 0, 3] rfl)
                · replace hr := cond_f hc22 hr
                  refine Tri.skip ?_
                  refine Tri.region ?_
                  refine R.flo Gd.no (Y.addI rfl rfl (by omega) (by unfold maxLen at *; omega)) ?_
                  refine R.flo Gd.no (Y.move rfl) ?_
                  refine R.nil ?_
                  refine back_mk ⟨v19 + 1, at_16, todo18, o17, nx_20⟩ ⟨hk, hr⟩ (mu_dec hk) (Weak.to [0, 3, 4, 5, 27, 28, 29] [0, 1, 2] rfl)
              · rw [drop_end (nlt_of_dec hc), f_tree_depths_l2] at hr
                refine Tri.exit ?_
                have hx := Option.some.inj hr
                subst hx
                refine meet_mk ⟨(at_16, todo18), o17, nx_20⟩ rfl (Weak.to [0, 3, 4] [0, 1] rfl)
          · subst hx
            have hr := hox23
            refine back_mk ⟨fuel30, s24.1, s24.2, o25, nx_26⟩ hr (Nat.lt_succ_self _) (Weak.to [0, 3, 4] [0, 1] rfl)
        · replace hr := cond_f hc6 hr
          refine Tri.exit ?_
          have hx := Option.some.inj hr
          subst hx
          refine meet_mk ⟨at_1, nx_4⟩ rfl (Weak.to [3] [0] rfl)
  · subst hx
    have hr := hox27
    refine Tri.seq ?_
    refine Tri.region ?_
    refine R.flo Gd.no (Y.move rfl) ?_
    refine R.flo Gd.no (Y.assign rfl) ?_
    refine R.nil ?_
    refine Tri.ret ?_
    have hx := Option.some.inj hr
    subst hx
    exact ⟨.inl rfl, _, .inr (.inl ⟨_, _, rfl, rfl, rfl⟩), ⟨nx, rfl, rfl⟩⟩
theorem ok_tree_Check {base : List Block} {r : Int} (hr : f_tree_Check base = some r) (nx : Nat) : OkH Tryz.prog 26 [.one (.c (.ro 5 false (base.map encB)))] [] nx fun v H' _ => v = .v (.one (.c (.lit (.int .i64 r)))) ∧ H' = [] := by
  refine OkH.intro Tryz.func26 rfl Tryz.ntmps26 (by simp) ?_
  unfold f_tree_Check at hr
  refine Tri.seq ?_
  refine Tri.region ?_
  refine R.flo Gd.no (Y.assign rfl) ?_
  refine R.nil ?_
  refine Tri.seq ?_
  refine Tri.block ?_
  refine Tri.seq ?_
  refine Tri.region ?_
  refine R.flo Gd.no (Y.move rfl) ?_
  refine TOps.fact (Fact.lenR (x := .tmp 12) (n := base.length) rfl (List.length_map ..)) (fun hl1 => ?_)
  refine R.flo Gd.no (Y.lenR (m := base.length) Tryz.underlying22 rfl rfl (List.length_map ..)) ?_
  refine R.flo Gd.no (Y.eqlI rfl rfl) ?_
  refine R.flo Gd.no (Y.assign rfl) ?_
  refine R.nil ?_
  refine Tri.cond rfl (fun hc2 => ?_) (fun hc2 => ?_)
  · replace hr := cond_t hc2 hr
    refine Tri.seq ?_
    refine Tri.region ?_
    refine R.flo Gd.no (Y.assign rfl) ?_
    refine R.nil ?_
    refine Tri.ret ?_
    have hx := Option.some.inj hr
    subst hx
    exact ⟨.inl rfl, _, .inr (.inl ⟨_, _, rfl, rfl, rfl⟩), ⟨rfl, rfl⟩⟩
  · replace hr := cond_f hc2 hr
    refine Tri.seq ?_
    refine Tri.region ?_
    refine R.flo Gd.no (Y.move rfl) ?_
    refine TOps.fact (Fact.lenR (x := .tmp 16) (n := base.length) rfl (List.length_map ..)) (fun hl3 => ?_)
    refine R.flo Gd.no (Y.lenR (m := base.length) Tryz.underlying22 rfl rfl (List.length_map ..)) ?_
    refine R.flo Gd.no (Y.gtrI rfl rfl) ?_
    refine R.flo Gd.no (Y.assign rfl) ?_
    refine R.nil ?_
    refine Tri.cond rfl (fun hc4 => ?_) (fun hc4 => ?_)
    · replace hr := cond_t hc4 hr
      refine Tri.seq ?_
      refine Tri.region ?_
      refine R.flo Gd.no (Y.assign rfl) ?_
      refine R.nil ?_
      refine Tri.ret ?_
      have hx := Option.some.inj hr
      subst hx
      exact ⟨.inl rfl, _, .inr (.inl ⟨_, _, rfl, rfl, rfl⟩), ⟨rfl, rfl⟩⟩
    · replace hr := cond_f hc4 hr
      refine Tri.skip ?_
      refine Tri.seq ?_
      refine Tri.seq ?_
      refine Tri.region ?_
      refine R.flo Gd.no (Y.move rfl) ?_
      refine TOps.fact (Fact.lenR (x := .tmp 19) (n := base.length) rfl (List.length_map ..)) (fun hl5 => ?_)
      refine R.flo Gd.no (Y.lenR (m := base.length) Tryz.underlying22 rfl rfl (List.length_map ..)) ?_
      refine R.flo Gd.no (Y.move rfl) ?_
      refine R.nil ?_
      replace hr := bind_inv hr
      obtain ⟨x12, hr, hox12⟩ := hr
      refine Tri.meet1 (α := Unit × Nat) (fun ⟨s13, nx_14⟩ => (.inl s13) = x12) (fun ⟨s13, nx_14⟩ => ⟨58, [(0, some (.v (.one (.c (.ro 5 false (base.map encB))))))], [], nx_14⟩) ?_ (fun ⟨s13, nx_14⟩ hx => ?_)
      · refine Tri.block ?_
        refine Tri.loop (α := Nat × Nat × Nat) (fun ⟨fuel17, v6, nx_7⟩ => f_tree_Check_l1 base fuel17 v6 = some x12) (fun ⟨fuel17, v6, nx_7⟩ => ⟨58, [(0, some (.v (.one (.c (.ro 5 false (base.map encB)))))), (20, some (.v (.one (.c (.lit (.int .i64 ((base.length : Int)))))))), (21, some (.v (.one (.c (.lit (.int .i64 ((v6 : Int))))))))], [], nx_7⟩) (fun ⟨fuel17, v6, nx_7⟩ => fuel17) ⟨FUEL, 0, nx⟩ ?_ (Weak.to [0, 20, 21] [] rfl) ?_
        · exact hr
        · rintro ⟨fuel17, v6, nx_7⟩ (hr : f_tree_Check_l1 base fuel17 v6 = some x12)
          cases fuel17 with
          | zero => rw [f_tree_Check_l1] at hr; cases hr
          | succ fuel17 =>
            rw [f_tree_Check_l1] at hr
            refine Tri.seq ?_
            refine Tri.region ?_
            refine R.flo Gd.no (Y.lssI rfl rfl) ?_
            refine R.nil ?_
            refine Tri.seq ?_
            refine Tri.cond rfl (fun hc8 => ?_) (fun hc8 => ?_)
            · replace hr := cond_t hc8 hr
              refine Tri.skip ?_
              refine Tri.seq ?_
              refine Tri.block ?_
              refine Tri.seq ?_
              refine Tri.region ?_
              refine R.flo Gd.no (Y.move rfl) ?_
              refine R.flo Gd.no (Y.assign rfl) ?_
              refine R.nil ?_
              refine Tri.seq ?_
              refine Tri.region ?_
              refine R.flo Gd.no (Y.move rfl) ?_
              refine R.flo Gd.no (Y.move rfl) ?_
              replace hr := bind_inv hr
              obtain ⟨r9, hcr9, hr⟩ := hr
              refine R.call (H1 := []) (H2 := []) Gd.no Tryz.en49 rfl (ok_tree_checkBlock hcr9 nx_7) (perm_idx [] rfl) (fun _ _ nx_10 hq => ?_)
              obtain ⟨rfl, rfl⟩ := hq
              refine R.flo Gd.no (Y.assign rfl) ?_
              refine R.nil ?_
              refine Tri.seq ?_
              refine Tri.region ?_
              refine R.flo Gd.no (Y.move rfl) ?_
              refine R.flo Gd.no (Y.neqI rfl rfl) ?_
              refine R.nil ?_
              refine Tri.cond rfl (fun hc11 => ?_) (fun hc11 => ?_)
              · replace hr := cond_t hc11 hr
                refine Tri.seq ?_
                refine Tri.region ?_
                refine R.flo Gd.no (Y.move rfl) ?_
                refine R.flo Gd.no (Y.assign rfl) ?_
                refine R.nil ?_
                have hx := Option.some.inj hr
                subst hx
                have hr := sum_r hox12
                refine Tri.ret ?_
                have hx := Option.some.inj hr
                subst hx
                exact ⟨.inl rfl, _, .inr (.inl ⟨_, _, rfl, rfl, rfl⟩), ⟨rfl, rfl⟩⟩
              · replace hr := cond_f hc11 hr
                refine Tri.skip ?_
                refine Tri.region ?_
                replace hr := ckI_inv hr
                obtain ⟨ha, hb, hr⟩ := hr
                refine R.flo Gd.no (Y.addI rfl rfl ha hb) ?_
                refine R.flo Gd.no (Y.move rfl) ?_
                refine R.nil ?_
                refine back_mk ⟨fuel17, v6 + 1, nx_10⟩ hr (Nat.lt_succ_self _) (Weak.to [0, 20, 21] [] rfl)
            · replace hr := cond_f hc8 hr
              refine Tri.exit ?_
              have hx := Option.some.inj hr
              subst hx
              refine meet_mk ⟨(), nx_7⟩ rfl (Weak.to [0] [] rfl)
      · subst hx
        have hr := sum_l hox12
        refine Tri.seq ?_
        refine Tri.seq ?_
        refine Tri.region ?_
        refine R.flo Gd.no (Y.move rfl) ?_
        replace hr := bind_inv hr
        obtain ⟨r18, hcr18, hr⟩ := hr
        refine R.call (H1 := []) (H2 := []) Gd.no Tryz.en50 rfl (ok_tree_checkKids hcr18 nx_14) (perm_idx [] rfl) (fun _ _ nx_19 hq => ?_)
        obtain ⟨rfl, rfl⟩ := hq
        refine R.flo Gd.no (Y.assign rfl) ?_
        refine R.nil ?_
        refine Tri.seq ?_
        refine Tri.region ?_
        refine R.flo Gd.no (Y.move rfl) ?_
        refine R.flo Gd.no (Y.neqI rfl rfl) ?_
        refine R.nil ?_
        refine Tri.cond rfl (fun hc20 => ?_) (fun hc20 => ?_)
        · replace hr := cond_t hc20 hr
          refine Tri.seq ?_
          refine Tri.region ?_
          refine R.flo Gd.no (Y.move rfl) ?_
          refine R.flo Gd.no (Y.assign rfl) ?_
          refine R.nil ?_
          refine Tri.ret ?_
          have hx := Option.some.inj hr
          subst hx
          exact ⟨.inl rfl, _, .inr (.inl ⟨_, _, rfl, rfl, rfl⟩), ⟨rfl, rfl⟩⟩
        · replace hr := cond_f hc20 hr
          refine Tri.skip ?_
          refine Tri.seq ?_
          refine Tri.region ?_
          refine R.flo Gd.no (Y.move rfl) ?_
          replace hr := bind_inv hr
          obtain ⟨r21, hcr21, hr⟩ := hr
          refine R.call (H1 := []) (H2 := []) Gd.no Tryz.en51 rfl (ok_tree_depths hcr21 nx_19) (perm_idx [] rfl) (fun _ _ nx_23 hq => ?_)
          obtain ⟨o22, rfl, rfl⟩ := hq
          refine R.flo Gd.no (Y.assign rfl) ?_
          refine R.nil ?_
          refine Tri.seq ?_
          refine Tri.seq ?_
          refine Tri.region ?_
          refine R.flo Gd.no (Y.move rfl) ?_
          refine TOps.fact (Fact.lenR (x := .tmp 38) (n := base.length) rfl (List.length_map ..)) (fun hl24 => ?_)
          refine R.flo Gd.no (Y.lenR (m := base.length) Tryz.underlying22 rfl rfl (List.length_map ..)) ?_
          refine R.flo Gd.no (Y.move rfl) ?_
          refine R.nil ?_
          replace hr := bind_inv hr
          obtain ⟨x30, hr, hox30⟩ := hr
          refine Tri.meet1 (α := Unit × Nat) (fun ⟨s31, nx_32⟩ => (.inl s31) = x30) (fun ⟨s31, nx_32⟩ => ⟨58, [], [], nx_32⟩) ?_ (fun ⟨s31, nx_32⟩ hx => ?_)
          · refine Tri.block ?_
            refine Tri.loop (α := Nat × Nat) (fun ⟨v25, nx_26⟩ => v25 ≤ base.length ∧ f_tree_Check_l2 r21 (base.drop v25)  = some x30) (fun ⟨v25, nx_26⟩ => ⟨58, [(6, some (.v (.one (.obj o22)))), (38, some (.v (.one (.c (.ro 5 false (base.map encB)))))), (39, some (.v (.one (.c (.lit (.int .i64 ((base.length : Int)))))))), (40, some (.v (.one (.c (.lit (.int .i64 ((v25 : Int))))))))], [(o22, .map (.int .i64) 3 (mapOf (fun n : Int => Value.int .i64 n) evI r21))], nx_26⟩) (fun ⟨v25, nx_26⟩ => base.length - v25) ⟨0, nx_23⟩ ?_ (Weak.to [6, 38, 39, 40] [0] rfl) ?_
            · exact ⟨Nat.zero_le _, hr⟩
            · rintro ⟨v25, nx_26⟩ ⟨hk, hr⟩
              refine Tri.seq ?_
              refine Tri.region ?_
              refine R.flo Gd.no (Y.lssI rfl rfl) ?_
              refine R.nil ?_
              refine Tri.seq ?_
              refine Tri.cond rfl (fun hc => ?_) (fun hc => ?_)
              · have hk := lt_of_dec hc
                obtain ⟨x27, hx27⟩ := get_of_lt hk
                rw [drop_at hx27, f_tree_Check_l2] at hr
                refine Tri.skip ?_
                refine Tri.seq ?_
                refine Tri.block ?_
                refine Tri.seq ?_
                refine Tri.region ?_
                refine R.flo Gd.no (Y.idxR v25 Tryz.underlying22 Tryz.sizeOf55 rfl rfl (map_get hx27)) ?_
                refine R.flo Gd.no (Y.loadPN rfl Tryz.isAgg55 Tryz.sizeOf55 rfl rfl) ?_
                refine R.eff Gd.no (E.alloc (cs := [.c (.lit (.int .i64 0)), .c (.lit (.int .i64 0)), .c (.lit (.slice none 0 0)), .c (.lit (str ([] : Bytes))), .c (.lit (.slice none 0 0))]) Tryz.et55.zero Tryz.et55.one (by rfl)) ?_
                refine R.eff Gd.no (E.storeB 0 rfl rfl rfl rfl Tryz.sizeOf55 rfl rfl rfl) ?_
                refine R.nil ?_
                refine Tri.seq ?_
                refine Tri.region ?_
                refine R.flo Gd.no (Y.move rfl) ?_
                refine R.flo Gd.no (Y.fieldP Tryz.fo55_0 rfl) ?_
                refine R.flo Gd.no (Y.loadB1 rfl 0 rfl rfl Tryz.isAgg3) ?_
                refine R.flo Gd.no (Y.lookup2 1 rfl Tryz.underlying48 Tryz.underlying3 keyI rfl rfl Tryz.et3.zero zvI) ?_
                refine R.flo Gd.no (Y.move rfl) ?_
                refine R.flo Gd.no (Y.extract rfl rfl) ?_
                refine R.flo Gd.no (Y.extract rfl rfl) ?_
                refine R.flo Gd.no (Y.assign rfl) ?_
                refine R.flo Gd.no (Y.assign rfl) ?_
                refine R.nil ?_
                refine Tri.block ?_
                refine Tri.seq ?_
                refine Tri.region ?_
                refine R.flo Gd.no (Y.move rfl) ?_
                refine R.flo Gd.no (Y.not rfl) ?_
                refine R.flo Gd.no (Y.assign rfl) ?_
                refine R.nil ?_
                refine Tri.cond rfl (fun hc28 => ?_) (fun hc28 => ?_)
                · replace hr := cond_t hc28 hr
                  refine Tri.seq ?_
                  refine Tri.region ?_
                  refine R.flo Gd.no (Y.assign rfl) ?_
                  refine R.nil ?_
                  have hx := Option.some.inj hr
                  subst hx
                  have hr := sum_r hox30
                  refine Tri.weak (Weak.to [2] [] rfl) ?_
                  refine Tri.ret ?_
                  have hx := Option.some.inj hr
                  subst hx
                  exact ⟨.inl rfl, _, .inr (.inl ⟨_, _, rfl, rfl, rfl⟩), ⟨rfl, rfl⟩⟩
                · replace hr := cond_f hc28 hr
                  refine Tri.seq ?_
                  refine Tri.region ?_
                  refine R.flo Gd.no (Y.move rfl) ?_
                  refine R.flo Gd.no (Y.gtrI rfl rfl) ?_
                  refine R.flo Gd.no (Y.assign rfl) ?_
                  refine R.nil ?_
                  refine Tri.cond rfl (fun hc29 => ?_) (fun hc29 => ?_)
                  · replace hr := cond_t hc29 hr
                    refine Tri.seq ?_
                    refine Tri.region ?_
                    refine R.flo Gd.no (Y.assign rfl) ?_
                    refine R.nil ?_
                    have hx := Option.some.inj hr
                    subst hx
                    have hr := sum_r hox30
                    refine Tri.weak (Weak.to [2] [] rfl) ?_
                    refine Tri.ret ?_
                    have hx := Option.some.inj hr
                    subst hx
                    exact ⟨.inl rfl, _, .inr (.inl ⟨_, _, rfl, rfl, rfl⟩), ⟨rfl, rfl⟩⟩
                  · replace hr := cond_f hc29 hr
                    refine Tri.skip ?_
                    refine Tri.region ?_
                    refine R.flo Gd.no (Y.addI rfl rfl (by omega) (by unfold maxLen at *; omega)) ?_
                    refine R.flo Gd.no (Y.move rfl) ?_
                    refine R.nil ?_
                    refine back_mk ⟨v25 + 1, nx_26 + 1⟩ ⟨hk, hr⟩ (mu_dec hk) (Weak.to [6, 38, 39, 40] [1] rfl)
              · rw [drop_end (nlt_of_dec hc), f_tree_Check_l2] at hr
                refine Tri.exit ?_
                have hx := Option.some.inj hr
                subst hx
                refine meet_mk ⟨(), nx_26⟩ rfl (Weak.to [] [] rfl)
          · subst hx
            have hr := sum_l hox30
            refine Tri.seq ?_
            refine Tri.region ?_
            refine R.flo Gd.no (Y.assign rfl) ?_
            refine R.nil ?_
            refine Tri.ret ?_
            have hx := Option.some.inj hr
            subst hx
            exact ⟨.inl rfl, _, .inr (.inl ⟨_, _, rfl, rfl, rfl⟩), ⟨rfl, rfl⟩⟩
theorem ok_link_view_mark_c7f0 : ∀ (fuelR : Nat) {v : List Block} {v2 : List (Int × Int)} {v3 : List (Int × Int)} {v4 : List (Bytes × Int)} {v5 : List (Bytes × Int)} {id : Int} {page : Int} {r : (List Block) × (List (Int × Int)) × (List (Int × Int)) × (List (Bytes × Int)) × (List (Bytes × Int))} (_ : f_link_view_mark_c7f0 fuelR v v2 v3 v4 v5 id page = some r) (o : Nat) (o2 : Nat) (o3 : Nat) (o4 : Nat) (o5 : Nat) (nx : Nat), OkH Tryz.prog 27 [.one (.ptr o 0 0), .one (.c (.lit (.int .i64 id))), .one (.c (.lit (.int .i64 page)))] [(o, .box 51 [.c (.ro 5 false (v.map encB)), .obj o2, .obj o3, .obj o4, .obj o5]), (o2, .map (.int .i64) 3 (mapOf (fun n : Int => Value.int .i64 n) evI v2)), (o3, .map (.int .i64) 3 (mapOf (fun n : Int => Value.int .i64 n) evI v3)), (o4, .map .string 3 (mapOf (fun s : Bytes => str s) evI v4)), (o5, .map .string 3 (mapOf (fun s : Bytes => str s) evI v5))] nx fun v H' _ => v = .tup [] ∧ H' = [(o, .box 51 [.c (.ro 5 false (r.1.map encB)), .obj o2, .obj o3, .obj o4, .obj o5]), (o2, .map (.int .i64) 3 (mapOf (fun n : Int => Value.int .i64 n) evI r.2.1)), (o3, .map (.int .i64) 3 (mapOf (fun n : Int => Value.int .i64 n) evI r.2.2.1)), (o4, .map .string 3 (mapOf (fun s : Bytes => str s) evI r.2.2.2.1)), (o5, .map .string 3 (mapOf (fun s : Bytes => str s) evI r.2.2.2.2))] := by
  intro fuelR
  induction fuelR with
  | zero => intro v v2 v3 v4 v5 id page r hr o o2 o3 o4 o5 nx; rw [f_link_view_mark_c7f0] at hr; cases hr
  | succ fuelR ih =>
    intro v v2 v3 v4 v5 id page r hr o o2 o3 o4 o5 nx
    refine OkH.intro Tryz.func27 rfl Tryz.ntmps27 (by simp) ?_
    rw [f_link_view_mark_c7f0] at hr
    refine Tri.fall ?_
    refine Tri.seq ?_
    refine Tri.region ?_
    refine R.flo Gd.no (Y.move rfl) ?_
    refine R.flo Gd.no (Y.nilP rfl) ?_
    refine R.flo Gd.no (Y.fieldP Tryz.fo51_2 rfl) ?_
    refine R.flo Gd.no (Y.loadB1 rfl 0 rfl rfl Tryz.isAgg48) ?_
    refine R.flo Gd.no (Y.move rfl) ?_
    refine R.flo Gd.no (Y.move rfl) ?_
    replace hr := ckN_inv hr
    obtain ⟨ha, hr⟩ := hr
    refine R.eff Gd.no (E.mapUpdate 2 rfl Tryz.underlying48 Tryz.underlying3 keyI rfl rfl rfl ha) ?_
    refine R.nil ?_
    refine Tri.seq ?_
    refine Tri.draw 15 rfl rfl [] [(o, .box 51 [.c (.ro 5 false (v.map encB)), .obj o2, .obj o3, .obj o4, .obj o5]), (o2, .map (.int .i64) 3 (mapOf (fun n : Int => Value.int .i64 n) evI v2)), (o3, .map (.int .i64) 3 (mapOf (fun n : Int => Value.int .i64 n) evI (mset v3 id page))), (o4, .map .string 3 (mapOf (fun s : Bytes => str s) evI v4)), (o5, .map .string 3 (mapOf (fun s : Bytes => str s) evI v5))] rfl ?_
    refine TAny.flo 0 rfl (by decide +kernel) (by decide +kernel) (by decide +kernel) Gd.no (Y.move rfl) ?_
    refine TAny.flo 1 rfl (by decide +kernel) (by decide +kernel) (by decide +kernel) Gd.no (Y.nilP rfl) ?_
    refine TAny.flo 2 rfl (by decide +kernel) (by decide +kernel) (by decide +kernel) Gd.no (Y.fieldP Tryz.fo51_0 rfl) ?_
    refine TAny.flo 3 rfl (by decide +kernel) (by decide +kernel) (by decide +kernel) Gd.no (Y.loadB1 rfl 0 rfl rfl Tryz.isAgg22) ?_
    refine TAny.flo 4 rfl (by decide +kernel) (by decide +kernel) (by decide +kernel) Gd.no (Y.move rfl) ?_
    refine TAny.flo 5 rfl (by decide +kernel) (by decide +kernel) (by decide +kernel) Gd.no (Y.nilP rfl) ?_
    refine TAny.flo 6 rfl (by decide +kernel) (by decide +kernel) (by decide +kernel) Gd.no (Y.fieldP Tryz.fo51_1 rfl) ?_
    refine TAny.flo 7 rfl (by decide +kernel) (by decide +kernel) (by decide +kernel) Gd.no (Y.loadB1 rfl 0 rfl rfl Tryz.isAgg48) ?_
    refine TAny.flo 8 rfl (by decide +kernel) (by decide +kernel) (by decide +kernel) Gd.no (Y.move rfl) ?_
    refine TAny.flo 9 rfl (by decide +kernel) (by decide +kernel) (by decide +kernel) Gd.no (Y.lookup1 1 rfl Tryz.underlying48 Tryz.underlying3 keyI rfl rfl Tryz.et3.zero zvI) ?_
    replace hr := atn_inv hr
    obtain ⟨x1, h2, hx1, hr⟩ := hr
    refine TAny.flo 10 rfl (by decide +kernel) (by decide +kernel) (by decide +kernel) Gd.no (Y.idxR (((mget v2 id).getD (0 : Int)).toNat) Tryz.underlying22 Tryz.sizeOf55 rfl (ev_tn rfl h2) (map_get hx1)) ?_
    refine TAny.flo 11 rfl (by decide +kernel) (by decide +kernel) (by decide +kernel) Gd.no (Y.fieldR Tryz.fo55_2 rfl) ?_
    refine TAny.flo 12 rfl (by decide +kernel) (by decide +kernel) (by decide +kernel) Gd.no (Y.loadP1 rfl rfl Tryz.isAgg52) ?_
    refine TAny.factS (Fact.lenR (x := .tmp 26) (n := x1.kids.length) rfl (List.length_map ..)) (fun hl3 => ?_)
    refine TAny.flo 13 rfl (by decide +kernel) (by decide +kernel) (by decide +kernel) Gd.no (Y.lenR (m := x1.kids.length) Tryz.underlying52 rfl rfl (List.length_map ..)) ?_
    refine TAny.flo 14 rfl (by decide +kernel) (by decide +kernel) (by decide +kernel) Gd.no (Y.move rfl) ?_
    refine TAny.done (by decide +kernel) ?_
    replace hr := bind_inv hr
    obtain ⟨x16, hr, hox16⟩ := hr
    refine Tri.meet1 (α := ((List Block) × (List (Int × Int)) × (List (Int × Int)) × (List (Bytes × Int)) × (List (Bytes × Int))) × Nat) (fun ⟨s17, nx_18⟩ => s17 = x16) (fun ⟨s17, nx_18⟩ => ⟨37, [], [(o, .box 51 [.c (.ro 5 false (s17.1.map encB)), .obj o2, .obj o3, .obj o4, .obj o5]), (o2, .map (.int .i64) 3 (mapOf (fun n : Int => Value.int .i64 n) evI s17.2.1)), (o3, .map (.int .i64) 3 (mapOf (fun n : Int => Value.int .i64 n) evI s17.2.2.1)), (o4, .map .string 3 (mapOf (fun s : Bytes => str s) evI s17.2.2.2.1)), (o5, .map .string 3 (mapOf (fun s : Bytes => str s) evI s17.2.2.2.2))], nx_18⟩) ?_ (fun ⟨s17, nx_18⟩ hx => ?_)
    · refine Tri.block ?_
      refine Tri.loop (α := Nat × (List Block) × (List (Int × Int)) × (List (Int × Int)) × (List (Bytes × Int)) × (List (Bytes × Int)) × Nat) (fun ⟨v11, v6, v7, v8, v9, v10, nx_12⟩ => v11 ≤ x1.kids.length ∧ f_link_view_mark_c7f0_l1 (f_link_view_mark_c7f0 fuelR) page (x1.kids.drop v11) v6 v7 v8 v9 v10 = some x16) (fun ⟨v11, v6, v7, v8, v9, v10, nx_12⟩ => ⟨37, [(0, some (.v (.one (.ptr o 0 0)))), (2, some (.v (.one (.c (.lit (.int .i64 page)))))), (26, some (.v (.one (.c (.ro 1 false (x1.kids.map encI)))))), (27, some (.v (.one (.c (.lit (.int .i64 ((x1.kids.length : Int)))))))), (28, some (.v (.one (.c (.lit (.int .i64 ((v11 : Int))))))))], [(o, .box 51 [.c (.ro 5 false (v6.map encB)), .obj o2, .obj o3, .obj o4, .obj o5]), (o2, .map (.int .i64) 3 (mapOf (fun n : Int => Value.int .i64 n) evI v7)), (o3, .map (.int .i64) 3 (mapOf (fun n : Int => Value.int .i64 n) evI v8)), (o4, .map .string 3 (mapOf (fun s : Bytes => str s) evI v9)), (o5, .map .string 3 (mapOf (fun s : Bytes => str s) evI v10))], nx_12⟩) (fun ⟨v11, v6, v7, v8, v9, v10, nx_12⟩ => x1.kids.length - v11) ⟨0, v, v2, mset v3 id page, v4, v5, nx⟩ ?_ (Weak.to [0, 2, 26, 27, 28] [0, 1, 2, 3, 4] rfl) ?_
      · exact ⟨Nat.zero_le _, hr⟩
      · rintro ⟨v11, v6, v7, v8, v9, v10, nx_12⟩ ⟨hk, hr⟩
        refine Tri.seq ?_
        refine Tri.region ?_
        refine R.flo Gd.no (Y.lssI rfl rfl) ?_
        refine R.nil ?_
        refine Tri.seq ?_
        refine Tri.cond rfl (fun hc => ?_) (fun hc => ?_)
        · have hk := lt_of_dec hc
          obtain ⟨x13, hx13⟩ := get_of_lt hk
          rw [drop_at hx13, f_link_view_mark_c7f0_l1] at hr
          refine Tri.skip ?_
          refine Tri.seq ?_
          refine Tri.block ?_
          refine Tri.seq ?_
          refine Tri.region ?_
          refine R.flo Gd.no (Y.idxR v11 Tryz.underlying52 Tryz.sizeOf3 rfl rfl (map_get hx13)) ?_
          refine R.flo Gd.no (Y.loadP1 rfl rfl Tryz.isAgg3) ?_
          refine R.flo Gd.no (Y.assign rfl) ?_
          refine R.nil ?_
          refine Tri.region ?_
          refine R.flo Gd.no (Y.move rfl) ?_
          refine R.flo Gd.no (Y.move rfl) ?_
          refine R.flo Gd.no (Y.move rfl) ?_
          replace hr := bind_inv hr
          obtain ⟨r14, hcr14, hr⟩ := hr
          refine R.call (H1 := [(o, .box 51 [.c (.ro 5 false (v6.map encB)), .obj o2, .obj o3, .obj o4, .obj o5]), (o2, .map (.int .i64) 3 (mapOf (fun n : Int => Value.int .i64 n) evI v7)), (o3, .map (.int .i64) 3 (mapOf (fun n : Int => Value.int .i64 n) evI v8)), (o4, .map .string 3 (mapOf (fun s : Bytes => str s) evI v9)), (o5, .map .string 3 (mapOf (fun s : Bytes => str s) evI v10))]) (H2 := []) Gd.no Tryz.en27 rfl (ih hcr14 o o2 o3 o4 o5 nx_12) (perm_idx [0, 1, 2, 3, 4] rfl) (fun _ _ nx_15 hq => ?_)
          obtain ⟨rfl, rfl⟩ := hq
          refine R.nil ?_
          refine Tri.region ?_
          refine R.flo Gd.no (Y.addI rfl rfl (by omega) (by unfold maxLen at *; omega)) ?_
          refine R.flo Gd.no (Y.move rfl) ?_
          refine R.nil ?_
          refine back_mk ⟨v11 + 1, r14.1, r14.2.1, r14.2.2.1, r14.2.2.2.1, r14.2.2.2.2, nx_15⟩ ⟨hk, hr⟩ (mu_dec hk) (Weak.to [0, 2, 26, 27, 28] [0, 1, 2, 3, 4] rfl)
        · rw [drop_end (nlt_of_dec hc), f_link_view_mark_c7f0_l1] at hr
          refine Tri.exit ?_
          have hx := Option.some.inj hr
          subst hx
          refine meet_mk ⟨(v6, v7, v8, v9, v10), nx_12⟩ rfl (Weak.to [] [0, 1, 2, 3, 4] rfl)
    · subst hx
      have hr := hox16
      refine ⟨_, Weak.refl _, ?_⟩
      have hx := Option.some.inj hr
      subst hx
      exact ⟨.inr rfl, _, .inl ⟨rfl, rfl⟩, ⟨rfl, rfl⟩⟩
theorem ok_slices_Values_int_int {s : List Int} {r : (List Int)} (hr : f_slices_Values_int_int s = some r) (nx : Nat) : OkH Tryz.prog 29 [.one (.c (.ro 1 false (s.map encI)))] [] nx fun v H' _ => ∃ q0, v = .v (.one (.fn 54 [q0])) ∧ H' = [(q0, .box 52 [.c (.ro 1 false (r.map encI))])] := by
  refine OkH.intro Tryz.func29 rfl Tryz.ntmps29 (by simp) ?_
  unfold f_slices_Values_int_int at hr
  refine Tri.seq ?_
  refine Tri.region ?_
  refine R.eff Gd.no (E.box (cs := [.c (.ro 1 false (s.map encI))]) rfl rfl rfl) ?_
  refine R.flo Gd.no (Y.assign rfl) ?_
  refine R.nil ?_
  refine Tri.seq ?_
  refine Tri.region ?_
  refine R.flo Gd.no (Y.makeFunc rfl) ?_
  refine R.flo Gd.no (Y.assign rfl) ?_
  refine R.nil ?_
  refine Tri.ret ?_
  have hx := Option.some.inj hr
  subst hx
  exact ⟨.inl rfl, _, .inr (.inl ⟨_, _, rfl, rfl, rfl⟩), ⟨nx, rfl, rfl⟩⟩


theorem ok_slices_Values_int_int_1_b4ef {asg1 bod1 : Code} (h_slices_AppendSeq_int_int_bd1b_rd1_ef77 : ∀ {v : Int} {s : List Int} {r : (List Int)} (_ : f_slices_AppendSeq_int_int_bd1b_rd1_ef77 v s = some r) (o : Nat) (o2 : Nat) (nx : Nat), OkRd Tryz.prog ⟨13, [(2, some (.v (.one (.ptr o 0 0))))], [7], asg1, bod1⟩ [.one (.c (.lit (.int .i64 v)))] [(o, .box 52 [.obj o2]), (o2, .row 3 1 (rowOf encI s))] nx fun j H' _ => ∃ q0, j = none ∧ H' = [(o, .box 52 [.obj q0]), (q0, .row 3 1 (rowOf encI r))]) {p1 : List Int} {r : (List Int) × (List Int)} (hr : f_slices_Values_int_int_1_b4ef p1 = some r) (o : Nat) (o2 : Nat) (o3 : Nat) (nx : Nat) : OkH Tryz.prog 54 [.one (.obj o), .one (.ptr o3 0 0)] [(o, .loop ⟨13, [(2, some (.v (.one (.ptr o2 0 0))))], [7], asg1, bod1⟩ none), (o2, .box 52 [.c (.lit (.slice none 0 0))]), (o3, .box 52 [.c (.ro 1 false (p1.map encI))])] nx fun v H' _ => ∃ q0, v = .tup [] ∧ H' = [(o, .loop ⟨13, [(2, some (.v (.one (.ptr o2 0 0))))], [7], asg1, bod1⟩ none), (o2, .box 52 [.obj q0]), (q0, .row 3 1 (rowOf encI r.1)), (o3, .box 52 [.c (.ro 1 false (r.2.map encI))])] := by
  refine OkH.intro Tryz.func54 rfl Tryz.ntmps54 (by simp) ?_
  unfold f_slices_Values_int_int_1_b4ef at hr
  refine Tri.fall ?_
  refine Tri.seq ?_
  refine Tri.region ?_
  refine R.flo Gd.no (Y.loadB1 rfl 2 rfl rfl Tryz.isAgg52) ?_
  refine TOps.fact (Fact.lenR (x := .tmp 5) (n := p1.length) rfl (List.length_map ..)) (fun hl1 => ?_)
  refine R.flo Gd.no (Y.lenR (m := p1.length) Tryz.underlying52 rfl rfl (List.length_map ..)) ?_
  refine R.flo Gd.no (Y.move rfl) ?_
  refine R.nil ?_
  refine Tri.weak (Weak.virtB 3 1 1 0 rfl rfl) ?_
  replace hr := bind_inv hr
  obtain ⟨x12, hr, hox12⟩ := hr
  refine Tri.meet1 (α := ((List Int)) × Nat × Nat) (fun ⟨s13, o14, nx_15⟩ => s13 = x12) (fun ⟨s13, o14, nx_15⟩ => ⟨16, [], [(o, .loop ⟨13, [(2, some (.v (.one (.ptr o2 0 0))))], [7], asg1, bod1⟩ none), (o2, .box 52 [.obj o14]), (o14, .row 3 1 (rowOf encI s13)), (o3, .box 52 [.c (.ro 1 false (p1.map encI))])], nx_15⟩) ?_ (fun ⟨s13, o14, nx_15⟩ hx => ?_)
  · refine Tri.block ?_
    refine Tri.loop (α := Nat × (List Int) × Nat × Nat) (fun ⟨v6, yield5, o4, nx_7⟩ => v6 ≤ p1.length ∧ f_slices_Values_int_int_1_b4ef_l1 (p1.drop v6) yield5 = some x12) (fun ⟨v6, yield5, o4, nx_7⟩ => ⟨16, [(0, some (.v (.one (.obj o)))), (5, some (.v (.one (.c (.ro 1 false (p1.map encI)))))), (6, some (.v (.one (.c (.lit (.int .i64 ((p1.length : Int)))))))), (7, some (.v (.one (.c (.lit (.int .i64 ((v6 : Int))))))))], [(o, .loop ⟨13, [(2, some (.v (.one (.ptr o2 0 0))))], [7], asg1, bod1⟩ none), (o2, .box 52 [.obj o4]), (o4, .row 3 1 (rowOf encI yield5)), (o3, .box 52 [.c (.ro 1 false (p1.map encI))])], nx_7⟩) (fun ⟨v6, yield5, o4, nx_7⟩ => p1.length - v6) ⟨0, ([] : List Int), nx, nx + 1⟩ ?_ (Weak.to [0, 5, 6, 7] [1, 2, 0, 3] rfl) ?_
    · exact ⟨Nat.zero_le _, hr⟩
    · rintro ⟨v6, yield5, o4, nx_7⟩ ⟨hk, hr⟩
      refine Tri.seq ?_
      refine Tri.region ?_
      refine R.flo Gd.no (Y.lssI rfl rfl) ?_
      refine R.nil ?_
      refine Tri.seq ?_
      refine Tri.cond rfl (fun hc => ?_) (fun hc => ?_)
      · have hk := lt_of_dec hc
        obtain ⟨x8, hx8⟩ := get_of_lt hk
        rw [drop_at hx8, f_slices_Values_int_int_1_b4ef_l1] at hr
        refine Tri.skip ?_
        refine Tri.seq ?_
        refine Tri.block ?_
        refine Tri.seq ?_
        refine Tri.region ?_
        refine R.flo Gd.no (Y.idxR v6 Tryz.underlying52 Tryz.sizeOf3 rfl rfl (map_get hx8)) ?_
        refine R.flo Gd.no (Y.loadP1 rfl rfl Tryz.isAgg3) ?_
        refine R.flo Gd.no (Y.assign rfl) ?_
        refine R.nil ?_
        refine Tri.seq ?_
        refine Tri.region ?_
        refine R.flo Gd.no (Y.move rfl) ?_
        refine R.flo Gd.no (Y.move rfl) ?_
        replace hr := bind_inv hr
        obtain ⟨r9, hcr9, hr⟩ := hr
        refine TOps.yield (H1 := [(o2, .box 52 [.obj o4]), (o4, .row 3 1 (rowOf encI yield5))]) (H2 := [(o3, .box 52 [.c (.ro 1 false (p1.map encI))])]) rfl rfl rfl rfl (h_slices_AppendSeq_int_int_bd1b_rd1_ef77 hcr9 o2 o4 nx_7) (perm_idx [0, 1, 2, 3] rfl) (fun _ _ nx_11 hq => ?_)
        obtain ⟨o10, rfl, rfl⟩ := hq
        refine R.flo Gd.no (Y.not rfl) ?_
        refine R.nil ?_
        refine Tri.condF rfl ?_
        refine Tri.skip ?_
        refine Tri.region ?_
        refine R.flo Gd.no (Y.addI rfl rfl (by omega) (by unfold maxLen at *; omega)) ?_
        refine R.flo Gd.no (Y.move rfl) ?_
        refine R.nil ?_
        refine back_mk ⟨v6 + 1, r9, o10, nx_11⟩ ⟨hk, hr⟩ (mu_dec hk) (Weak.to [0, 5, 6, 7] [0, 1, 2, 3] rfl)
      · rw [drop_end (nlt_of_dec hc), f_slices_Values_int_int_1_b4ef_l1] at hr
        refine Tri.exit ?_
        have hx := Option.some.inj hr
        subst hx
        refine meet_mk ⟨yield5, o4, nx_7⟩ rfl (Weak.to [] [0, 1, 2, 3] rfl)
  · subst hx
    have hr := hox12
    refine ⟨_, Weak.refl _, ?_⟩
    have hx := Option.some.inj hr
    subst hx
    exact ⟨.inr rfl, _, .inl ⟨rfl, rfl⟩, ⟨o14, rfl, rfl⟩⟩
theorem ok_slices_AppendSeq_int_int_bd1b {seq : List Int} {r : (List Int) × (List Int)} (hr : f_slices_AppendSeq_int_int_bd1b seq = some r) (o : Nat) (nx : Nat) : OkH Tryz.prog 70 [.one (.c (.lit (.slice none 0 0))), .one (.fn 54 [o])] [(o, .box 52 [.c (.ro 1 false (seq.map encI))])] nx fun v H' _ => ∃ q0, v = .v (.one (.obj q0)) ∧ H' = [(q0, .row 3 1 (rowOf encI r.1)), (o, .box 52 [.c (.ro 1 false (r.2.map encI))])] := by
  refine OkH.intro Tryz.func70 rfl Tryz.ntmps70 (by simp) ?_
  unfold f_slices_AppendSeq_int_int_bd1b at hr
  refine Tri.seq ?_
  refine Tri.region ?_
  refine R.eff Gd.no (E.box (cs := [.c (.lit (.slice none 0 0))]) rfl rfl rfl) ?_
  refine R.flo Gd.no (Y.assign rfl) ?_
  refine R.nil ?_
  refine Tri.seq ?_
  refine Tri.seq ?_
  refine Tri.region ?_
  refine R.flo Gd.no (Y.move rfl) ?_
  refine R.nil ?_
  refine Tri.block ?_
  refine Tri.rfWith (R := fun asg1 bod1 => ∀ {v : Int} {s : List Int} {r : (List Int)} (_ : f_slices_AppendSeq_int_int_bd1b_rd1_ef77 v s = some r) (o : Nat) (o2 : Nat) (nx : Nat), OkRd Tryz.prog ⟨13, [(2, some (.v (.one (.ptr o 0 0))))], [7], asg1, bod1⟩ [.one (.c (.lit (.int .i64 v)))] [(o, .box 52 [.obj o2]), (o2, .row 3 1 (rowOf encI s))] nx fun j H' _ => ∃ q0, j = none ∧ H' = [(o, .box 52 [.obj q0]), (q0, .row 3 1 (rowOf encI r))]) ?_ (fun h_slices_AppendSeq_int_int_bd1b_rd1_ef77 => ?_)
  · intro v s r hr o o2 nx l
    unfold f_slices_AppendSeq_int_int_bd1b_rd1_ef77 at hr
    refine Tri.region ?_
    refine R.flo Gd.no (Y.assign rfl) ?_
    refine R.nil ?_
    refine ⟨rfl, Tri.fallA ?_⟩
    refine Tri.block ?_
    refine Tri.region ?_
    refine R.flo Gd.no (Y.loadB1 rfl 0 rfl rfl Tryz.isAgg52) ?_
    refine R.flo Gd.no (Y.move rfl) ?_
    refine R.eff Gd.no (E.buildSlice (es := rowOf encI ([v])) [.one (.c (.lit (.int .i64 v)))] Tryz.underlying52 Tryz.et3 rfl rfl rfl rfl (by decide) (by decide) rfl) ?_
    replace hr := ckN_inv hr
    obtain ⟨ha, hr⟩ := hr
    refine R.eff Gd.no (E.append (es := rowOf encI s) (es' := rowOf encI (s ++ ([v]))) 2 rfl Tryz.underlying52 Tryz.et3 rfl rfl (Holds.obj 0 rfl) (fits_len ha (app_len rowOf_length rowOf_length) rfl) (fits_max ha (app_len rowOf_length rowOf_length)) rfl rowOf_append.symm) ?_
    refine R.eff Gd.no (E.storeB 2 rfl rfl rfl rfl Tryz.sizeOf52 rfl rfl rfl) ?_
    refine R.nil ?_
    have hx := Option.some.inj hr
    subst hx
    exact ⟨_, Weak.to [] [2, 0] rfl, ⟨nx + 1, rfl, rfl⟩⟩
  replace hr := bind_inv hr
  obtain ⟨r1, hcr1, hr⟩ := hr
  refine Tri.rangeFunc (H1 := [(nx, .box 52 [.c (.lit (.slice none 0 0))]), (o, .box 52 [.c (.ro 1 false (seq.map encI))])]) (H2 := []) [2] (fr' := [(2, some (.v (.one (.ptr nx 0 0))))]) rfl rfl Tryz.en54 (perm_idx [0, 1] rfl) (ok_slices_Values_int_int_1_b4ef h_slices_AppendSeq_int_int_bd1b_rd1_ef77 hcr1 (nx + 1) nx o (nx + 2)) (fun _ _ nx_3 hq => ?_)
  obtain ⟨o2, rfl, rfl⟩ := hq
  refine ⟨_, _, _, rfl, ?_⟩
  refine RfQ.n ?_
  refine Tri.seq ?_
  refine Tri.region ?_
  refine R.flo Gd.no (Y.loadB1 rfl 0 rfl rfl Tryz.isAgg52) ?_
  refine R.flo Gd.no (Y.assign rfl) ?_
  refine R.nil ?_
  refine Tri.weak (Weak.to [4] [1, 2] rfl) ?_
  refine Tri.ret ?_
  have hx := Option.some.inj hr
  subst hx
  exact ⟨.inl rfl, _, .inr (.inl ⟨_, _, rfl, rfl, rfl⟩), ⟨o2, rfl, rfl⟩⟩
theorem ok_slices_Collect_int_8a7f {seq : List Int} {r : (List Int) × (List Int)} (hr : f_slices_Collect_int_8a7f seq = some r) (o : Nat) (nx : Nat) : OkH Tryz.prog 52 [.one (.fn 54 [o])] [(o, .box 52 [.c (.ro 1 false (seq.map encI))])] nx fun v H' _ => ∃ q0, v = .v (.one (.obj q0)) ∧ H' = [(q0, .row 3 1 (rowOf encI r.1)), (o, .box 52 [.c (.ro 1 false (r.2.map encI))])] := by
  refine OkH.intro Tryz.func52 rfl Tryz.ntmps52 (by simp) ?_
  unfold f_slices_Collect_int_8a7f at hr
  refine Tri.seq ?_
  refine Tri.region ?_
  refine R.flo Gd.no (Y.assign rfl) ?_
  refine R.nil ?_
  refine Tri.seq ?_
  refine Tri.region ?_
  refine R.flo Gd.no (Y.move rfl) ?_
  replace hr := bind_inv hr
  obtain ⟨r1, hcr1, hr⟩ := hr
  refine R.call (H1 := [(o, .box 52 [.c (.ro 1 false (seq.map encI))])]) (H2 := []) Gd.no Tryz.en70 rfl (ok_slices_AppendSeq_int_int_bd1b hcr1 o nx) (perm_idx [0] rfl) (fun _ _ nx_3 hq => ?_)
  obtain ⟨o2, rfl, rfl⟩ := hq
  refine R.flo Gd.no (Y.assign rfl) ?_
  refine R.nil ?_
  refine Tri.ret ?_
  have hx := Option.some.inj hr
  subst hx
  exact ⟨.inl rfl, _, .inr (.inl ⟨_, _, rfl, rfl, rfl⟩), ⟨o2, rfl, rfl⟩⟩
theorem ok_slices_Sorted_int_8a7f {seq : List Int} {r : (List Int) × (List Int)} (hr : f_slices_Sorted_int_8a7f seq = some r) (o : Nat) (nx : Nat) : OkH Tryz.prog 28 [.one (.fn 54 [o])] [(o, .box 52 [.c (.ro 1 false (seq.map encI))])] nx fun v H' _ => ∃ q0, v = .v (.one (.obj q0)) ∧ H' = [(q0, .row 3 1 (rowOf encI r.1)), (o, .box 52 [.c (.ro 1 false (r.2.map encI))])] := by
  refine OkH.intro Tryz.func28 rfl Tryz.ntmps28 (by simp) ?_
  unfold f_slices_Sorted_int_8a7f at hr
  refine Tri.seq ?_
  refine Tri.region ?_
  refine R.flo Gd.no (Y.assign rfl) ?_
  refine R.nil ?_
  refine Tri.seq ?_
  refine Tri.region ?_
  refine R.flo Gd.no (Y.move rfl) ?_
  replace hr := bind_inv hr
  obtain ⟨r1, hcr1, hr⟩ := hr
  refine R.call (H1 := [(o, .box 52 [.c (.ro 1 false (seq.map encI))])]) (H2 := []) Gd.no Tryz.en52 rfl (ok_slices_Collect_int_8a7f hcr1 o nx) (perm_idx [0] rfl) (fun _ _ nx_3 hq => ?_)
  obtain ⟨o2, rfl, rfl⟩ := hq
  refine R.flo Gd.no (Y.assign rfl) ?_
  refine R.nil ?_
  refine Tri.seq ?_
  refine Tri.region ?_
  refine R.flo Gd.no (Y.move rfl) ?_
  replace hr := bind_inv hr
  obtain ⟨r4, hcr4, hr⟩ := hr
  refine R.call (H1 := [(o2, .row 3 1 (rowOf encI r1.1))]) (H2 := [(o, .box 52 [.c (.ro 1 false (r1.2.map encI))])]) Gd.no Tryz.en53 rfl (Prim.sortI Tryz.lays189 hcr4 o2 nx_3) (perm_idx [0, 1] rfl) (fun _ _ nx_5 hq => ?_)
  obtain ⟨rfl, rfl⟩ := hq
  refine R.nil ?_
  refine Tri.seq ?_
  refine Tri.region ?_
  refine R.flo Gd.no (Y.move rfl) ?_
  refine R.flo Gd.no (Y.assign rfl) ?_
  refine R.nil ?_
  refine Tri.ret ?_
  have hx := Option.some.inj hr
  subst hx
  exact ⟨.inl rfl, _, .inr (.inl ⟨_, _, rfl, rfl, rfl⟩), ⟨o2, rfl, rfl⟩⟩
theorem ok_link_lower {s : Bytes} {r : Bytes} (hr : f_link_lower s = some r) (nx : Nat) : OkH Tryz.prog 20 [.one (.c (.lit (str s)))] [] nx fun v H' _ => v = .v (.one (.c (.lit (str r)))) ∧ H' = [] := by
  refine OkH.intro Tryz.func20 rfl Tryz.ntmps20 (by simp) ?_
  unfold f_link_lower at hr
  refine Tri.seq ?_
  refine Tri.region ?_
  refine R.flo Gd.no (Y.assign rfl) ?_
  refine R.nil ?_
  refine Tri.seq ?_
  refine Tri.region ?_
  refine R.flo Gd.no (Y.move rfl) ?_
  replace hr := ckN_inv hr
  obtain ⟨ha, hr⟩ := hr
  refine R.eff Gd.no (E.strBytes Tryz.underlying9 Tryz.underlying73 Tryz.underlying5 rfl ha) ?_
  refine R.flo Gd.no (Y.assign rfl) ?_
  refine R.nil ?_
  refine Tri.seq ?_
  refine Tri.seq ?_
  refine Tri.region ?_
  refine R.flo Gd.no (Y.move rfl) ?_
  refine TOps.fact (Fact.lenO (x := .tmp 8) (n := (nums s).length) 0 rfl rfl rowOf_length) (fun hl1 => ?_)
  refine R.flo Gd.no (Y.lenO (m := (nums s).length) 0 rfl Tryz.underlying73 rfl rfl rowOf_length) ?_
  refine R.flo Gd.no (Y.move rfl) ?_
  refine R.nil ?_
  replace hr := bind_inv hr
  obtain ⟨x13, hr, hox13⟩ := hr
  refine Tri.meet1 (α := ((List Int)) × Nat) (fun ⟨s14, nx_15⟩ => s14 = x13) (fun ⟨s14, nx_15⟩ => ⟨30, [(3, some (.v (.one (.obj nx))))], [(nx, .row 5 1 (rowOf (encK .u8) s14))], nx_15⟩) ?_ (fun ⟨s14, nx_15⟩ hx => ?_)
  · refine Tri.block ?_
    refine Tri.loop (α := Nat × (List Int) × Nat) (fun ⟨v3, b2, nx_4⟩ => v3 ≤ (nums s).length ∧ f_link_lower_l1 ((nums s).drop v3) v3 b2 = some x13) (fun ⟨v3, b2, nx_4⟩ => ⟨30, [(3, some (.v (.one (.obj nx)))), (8, some (.v (.one (.obj nx)))), (9, some (.v (.one (.c (.lit (.int .i64 (((nums s).length : Int)))))))), (10, some (.v (.one (.c (.lit (.int .i64 ((v3 : Int))))))))], [(nx, .row 5 1 (rowOf (encK .u8) b2))], nx_4⟩) (fun ⟨v3, b2, nx_4⟩ => (nums s).length - v3) ⟨0, nums s, nx + 1⟩ ?_ (Weak.to [3, 8, 9, 10] [0] rfl) ?_
    · exact ⟨Nat.zero_le _, hr⟩
    · rintro ⟨v3, b2, nx_4⟩ ⟨hk, hr⟩
      refine Tri.seq ?_
      refine Tri.region ?_
      refine R.flo Gd.no (Y.lssI rfl rfl) ?_
      refine R.nil ?_
      refine Tri.seq ?_
      refine Tri.cond rfl (fun hc => ?_) (fun hc => ?_)
      · have hk := lt_of_dec hc
        obtain ⟨x5, hx5⟩ := get_of_lt hk
        rw [drop_at hx5, f_link_lower_l1] at hr
        refine Tri.skip ?_
        refine Tri.seq ?_
        refine Tri.block ?_
        refine Tri.seq ?_
        refine Tri.region ?_
        refine R.flo Gd.no (Y.move rfl) ?_
        replace hr := bind_inv hr
        obtain ⟨x6, hx6, hr⟩ := hr
        refine R.flo Gd.no (Y.idxO v3 0 rfl Tryz.underlying73 Tryz.sizeOf5 rfl rfl (row_get hx6)) ?_
        refine R.flo Gd.no (Y.loadR1 rfl 0 rfl (row_get hx6) rfl Tryz.isAgg5) ?_
        refine R.flo Gd.no (Y.assign rfl) ?_
        refine R.flo Gd.no (Y.assign rfl) ?_
        refine R.nil ?_
        replace hr := bind_inv hr
        obtain ⟨x8, hr, hox8⟩ := hr
        refine Tri.meet (α := Bool × Nat) (fun ⟨s9, nx_10⟩ => s9 = x8) (fun ⟨s9, nx_10⟩ => ⟨30, [(3, some (.v (.one (.obj nx)))), (4, some (.v (.one (.c (.lit (.int .i64 ((v3 : Int)))))))), (5, some (.v (.one (.c (.lit (.int .u8 x6)))))), (8, some (.v (.one (.obj nx)))), (9, some (.v (.one (.c (.lit (.int .i64 (((nums s).length : Int)))))))), (10, some (.v (.one (.c (.lit (.int .i64 ((v3 : Int)))))))), (20, some (.v (.one (.c (.lit (.bool s9))))))], [(nx, .row 5 1 (rowOf (encK .u8) b2))], nx_10⟩) ?_ (fun ⟨s9, nx_10⟩ hx => ?_)
        · refine Tri.region ?_
          refine R.flo Gd.no (Y.move rfl) ?_
          refine R.flo Gd.no (Y.geqI rfl rfl) ?_
          refine R.flo Gd.no (Y.move rfl) ?_
          refine TOps.part (b := decide ((65 : Int) ≤ x6)) (fun bhb7 hb7 => ?_)
          cases bhb7
          · rw [hb7]; replace hr := cond_f hb7 hr
            refine R.skip (.f 2 false 17 rfl rfl) ?_
            refine R.skip (.f 2 false 17 rfl rfl) ?_
            refine R.flo Gd.no (Y.pickF rfl rfl) ?_
            refine R.nil ?_
            have hx := Option.some.inj hr
            subst hx
            refine meet_mk ⟨false, nx_4⟩ rfl (Weak.to [3, 4, 5, 8, 9, 10, 20] [0] rfl)
          · rw [hb7]; replace hr := cond_t hb7 hr
            refine R.flo (Gd.t 2 true 17 rfl rfl) (Y.move rfl) ?_
            refine R.flo (Gd.t 2 true 17 rfl rfl) (Y.leqI rfl rfl) ?_
            refine R.flo Gd.no (Y.pickT rfl rfl) ?_
            refine R.nil ?_
            have hx := Option.some.inj hr
            subst hx
            refine meet_mk ⟨decide (x6 ≤ (90 : Int)), nx_4⟩ rfl (Weak.to [3, 4, 5, 8, 9, 10, 20] [0] rfl)
        · subst hx
          have hr := hox8
          refine Tri.cond rfl (fun hc11 => ?_) (fun hc11 => ?_)
          · replace hr := cond_t hc11 hr
            refine Tri.region ?_
            refine R.flo Gd.no (Y.move rfl) ?_
            refine R.flo Gd.no (Y.move rfl) ?_
            refine R.flo Gd.no (Y.move rfl) ?_
            refine R.flo Gd.no (Y.addK rfl rfl) ?_
            refine R.flo Gd.no (Y.subK rfl rfl) ?_
            replace hr := bind_inv hr
            obtain ⟨x12, hx12, hr⟩ := hr
            refine R.flo Gd.no (Y.idxO v3 0 rfl Tryz.underlying73 Tryz.sizeOf5 rfl rfl (row_get hx12)) ?_
            refine R.eff Gd.no (E.storeT (IntKind.u8.wrap ((IntKind.u8.wrap (x6 + 97)) - 65)) 0 rfl rfl rfl rfl Tryz.sizeOf5 rfl (row_get hx12) rfl rfl) ?_
            refine R.nil ?_
            refine Tri.region ?_
            refine R.flo Gd.no (Y.addI rfl rfl (by omega) (by unfold maxLen at *; omega)) ?_
            refine R.flo Gd.no (Y.move rfl) ?_
            refine R.nil ?_
            refine back_mk ⟨v3 + 1, b2.set v3 (IntKind.u8.wrap ((IntKind.u8.wrap (x6 + 97)) - 65)), nx_10⟩ ⟨hk, hr⟩ (mu_dec hk) (Weak.to [3, 8, 9, 10] [0] rfl)
          · replace hr := cond_f hc11 hr
            refine Tri.skip ?_
            refine Tri.region ?_
            refine R.flo Gd.no (Y.addI rfl rfl (by omega) (by unfold maxLen at *; omega)) ?_
            refine R.flo Gd.no (Y.move rfl) ?_
            refine R.nil ?_
            refine back_mk ⟨v3 + 1, b2, nx_10⟩ ⟨hk, hr⟩ (mu_dec hk) (Weak.to [3, 8, 9, 10] [0] rfl)
      · rw [drop_end (nlt_of_dec hc), f_link_lower_l1] at hr
        refine Tri.exit ?_
        have hx := Option.some.inj hr
        subst hx
        refine meet_mk ⟨b2, nx_4⟩ rfl (Weak.to [3] [0] rfl)
  · subst hx
    have hr := hox13
    refine Tri.seq ?_
    refine Tri.region ?_
    refine R.flo Gd.no (Y.move rfl) ?_
    refine R.flo Gd.no (Y.bytesStr 0 rfl Tryz.underlying73 Tryz.underlying9 Tryz.underlying5 rfl) ?_
    refine R.flo Gd.no (Y.assign rfl) ?_
    refine R.nil ?_
    refine Tri.weak (Weak.to [2] [] rfl) ?_
    refine Tri.ret ?_
    have hx := Option.some.inj hr
    subst hx
    exact ⟨.inl rfl, _, .inr (.inl ⟨_, _, rfl, rfl, rfl⟩), ⟨rfl, rfl⟩⟩
theorem ok_strings_Count_8e1a {s : Bytes} {r : Int} (hr : f_strings_Count_8e1a s = some r) (nx : Nat) : OkH Tryz.prog 64 [.one (.c (.lit (str s))), .one (.c (.lit (str ([32] : Bytes))))] [] nx fun v H' _ => v = .v (.one (.c (.lit (.int .i64 r)))) ∧ H' = [] := by
  refine OkH.intro Tryz.func64 rfl Tryz.ntmps64 (by simp) ?_
  unfold f_strings_Count_8e1a at hr
  refine Tri.seq ?_
  refine Tri.region ?_
  refine R.flo Gd.no (Y.assign rfl) ?_
  refine R.nil ?_
  refine Tri.seq ?_
  refine Tri.seq ?_
  refine Tri.region ?_
  refine R.flo Gd.no (Y.move rfl) ?_
  refine R.flo Gd.no (Y.lenS Tryz.underlying9 rfl rfl) ?_
  refine R.flo Gd.no (Y.eqlI rfl rfl) ?_
  refine R.nil ?_
  refine Tri.condF rfl ?_
  refine Tri.skip ?_
  refine Tri.seq ?_
  refine Tri.seq ?_
  refine Tri.region ?_
  refine R.flo Gd.no (Y.move rfl) ?_
  refine R.flo Gd.no (Y.lenS Tryz.underlying9 rfl rfl) ?_
  refine R.flo Gd.no (Y.eqlI rfl rfl) ?_
  refine R.nil ?_
  refine Tri.condT rfl ?_
  refine Tri.seq ?_
  refine Tri.region ?_
  refine R.flo Gd.no (Y.move rfl) ?_
  refine R.flo Gd.no (Y.move rfl) ?_
  refine R.flo Gd.no (Y.idxS 0 Tryz.underlying9 rfl rfl rfl) ?_
  refine R.flo Gd.no (Y.ext2 (Tryz.exC78 s (32 : Int)) rfl rfl) ?_
  refine R.flo Gd.no (Y.assign rfl) ?_
  refine R.nil ?_
  refine Tri.ret ?_
  have hx := Option.some.inj hr
  subst hx
  exact ⟨.inl rfl, _, .inr (.inl ⟨_, _, rfl, rfl, rfl⟩), ⟨rfl, rfl⟩⟩
theorem ok_internal_stringslite_IndexByte_6766 {s : Bytes} {r : Int} (hr : f_internal_stringslite_IndexByte_6766 s = some r) (nx : Nat) : OkH Tryz.prog 101 [.one (.c (.lit (str s))), .one (.c (.lit (.int .u8 32)))] [] nx fun v H' _ => v = .v (.one (.c (.lit (.int .i64 r)))) ∧ H' = [] := by
  refine OkH.intro Tryz.func101 rfl Tryz.ntmps101 (by simp) ?_
  unfold f_internal_stringslite_IndexByte_6766 at hr
  refine Tri.seq ?_
  refine Tri.region ?_
  refine R.flo Gd.no (Y.assign rfl) ?_
  refine R.nil ?_
  refine Tri.seq ?_
  refine Tri.region ?_
  refine R.flo Gd.no (Y.move rfl) ?_
  refine R.flo Gd.no (Y.move rfl) ?_
  refine R.flo Gd.no (Y.ext2 (Tryz.exI113 s (32 : Int)) rfl rfl) ?_
  refine R.flo Gd.no (Y.assign rfl) ?_
  refine R.nil ?_
  refine Tri.ret ?_
  have hx := Option.some.inj hr
  subst hx
  exact ⟨.inl rfl, _, .inr (.inl ⟨_, _, rfl, rfl, rfl⟩), ⟨rfl, rfl⟩⟩
theorem ok_internal_stringslite_Index_8e1a {s : Bytes} {r : Int} (hr : f_internal_stringslite_Index_8e1a s = some r) (nx : Nat) : OkH Tryz.prog 79 [.one (.c (.lit (str s))), .one (.c (.lit (str ([32] : Bytes))))] [] nx fun v H' _ => v = .v (.one (.c (.lit (.int .i64 r)))) ∧ H' = [] := by
  refine OkH.intro Tryz.func79 rfl Tryz.ntmps79 (by simp) ?_
  unfold f_internal_stringslite_Index_8e1a at hr
  refine Tri.seq ?_
  refine Tri.region ?_
  refine R.flo Gd.no (Y.assign rfl) ?_
  refine R.nil ?_
  refine Tri.seq ?_
  refine Tri.region ?_
  refine R.flo Gd.no (Y.move rfl) ?_
  refine R.flo Gd.no (Y.lenS Tryz.underlying9 rfl rfl) ?_
  refine R.flo Gd.no (Y.assign rfl) ?_
  refine R.nil ?_
  refine Tri.seq ?_
  refine Tri.block ?_
  refine Tri.seq ?_
  refine Tri.region ?_
  refine R.flo Gd.no (Y.move rfl) ?_
  refine R.flo Gd.no (Y.eqlI rfl rfl) ?_
  refine R.flo Gd.no (Y.move rfl) ?_
  refine R.flo (Gd.t 2 false 19 rfl rfl) (Y.move rfl) ?_
  refine R.flo (Gd.t 2 false 19 rfl rfl) (Y.move rfl) ?_
  refine R.flo (Gd.t 2 false 19 rfl rfl) (Y.eqlS rfl rfl) ?_
  refine R.flo Gd.no (Y.pickF rfl rfl) ?_
  refine R.flo Gd.no (Y.assign rfl) ?_
  refine R.nil ?_
  refine Tri.cond rfl (fun hc1 => ?_) (fun hc1 => ?_)
  · replace hr := cond_t hc1 hr
    refine Tri.seq ?_
    refine Tri.region ?_
    refine R.flo Gd.no (Y.assign rfl) ?_
    refine R.nil ?_
    refine Tri.ret ?_
    have hx := Option.some.inj hr
    subst hx
    exact ⟨.inl rfl, _, .inr (.inl ⟨_, _, rfl, rfl, rfl⟩), ⟨rfl, rfl⟩⟩
  · replace hr := cond_f hc1 hr
    refine Tri.seq ?_
    refine Tri.region ?_
    refine R.flo Gd.no (Y.move rfl) ?_
    refine R.flo Gd.no (Y.eqlI rfl rfl) ?_
    refine R.flo Gd.no (Y.assign rfl) ?_
    refine R.nil ?_
    refine Tri.condT rfl ?_
    refine Tri.seq ?_
    refine Tri.region ?_
    refine R.flo Gd.no (Y.move rfl) ?_
    refine R.flo Gd.no (Y.move rfl) ?_
    refine R.flo Gd.no (Y.idxS 0 Tryz.underlying9 rfl rfl rfl) ?_
    replace hr := bind_inv hr
    obtain ⟨r2, hcr2, hr⟩ := hr
    refine R.call (H1 := []) (H2 := []) Gd.no Tryz.en101 rfl (ok_internal_stringslite_IndexByte_6766 hcr2 nx) (perm_idx [] rfl) (fun _ _ nx_3 hq => ?_)
    obtain ⟨rfl, rfl⟩ := hq
    refine R.flo Gd.no (Y.assign rfl) ?_
    refine R.nil ?_
    refine Tri.ret ?_
    have hx := Option.some.inj hr
    subst hx
    exact ⟨.inl rfl, _, .inr (.inl ⟨_, _, rfl, rfl, rfl⟩), ⟨rfl, rfl⟩⟩
theorem ok_strings_Index_8e1a {s : Bytes} {r : Int} (hr : f_strings_Index_8e1a s = some r) (nx : Nat) : OkH Tryz.prog 65 [.one (.c (.lit (str s))), .one (.c (.lit (str ([32] : Bytes))))] [] nx fun v H' _ => v = .v (.one (.c (.lit (.int .i64 r)))) ∧ H' = [] := by
  refine OkH.intro Tryz.func65 rfl Tryz.ntmps65 (by simp) ?_
  unfold f_strings_Index_8e1a at hr
  refine Tri.seq ?_
  refine Tri.region ?_
  refine R.flo Gd.no (Y.assign rfl) ?_
  refine R.nil ?_
  refine Tri.seq ?_
  refine Tri.region ?_
  refine R.flo Gd.no (Y.move rfl) ?_
  refine R.flo Gd.no (Y.move rfl) ?_
  replace hr := bind_inv hr
  obtain ⟨r1, hcr1, hr⟩ := hr
  refine R.call (H1 := []) (H2 := []) Gd.no Tryz.en79 rfl (ok_internal_stringslite_Index_8e1a hcr1 nx) (perm_idx [] rfl) (fun _ _ nx_2 hq => ?_)
  obtain ⟨rfl, rfl⟩ := hq
  refine R.flo Gd.no (Y.assign rfl) ?_
  refine R.nil ?_
  refine Tri.ret ?_
  have hx := Option.some.inj hr
  subst hx
  exact ⟨.inl rfl, _, .inr (.inl ⟨_, _, rfl, rfl, rfl⟩), ⟨rfl, rfl⟩⟩
theorem ok_strings_genSplit_7a42 {s : Bytes} {r : (List Bytes)} (hr : f_strings_genSplit_7a42 s = some r) (nx : Nat) : OkH Tryz.prog 43 [.one (.c (.lit (str s))), .one (.c (.lit (str ([32] : Bytes)))), .one (.c (.lit (.int .i64 0))), .one (.c (.lit (.int .i64 (-1))))] [] nx fun v H' _ => ∃ q0, v = .v (.one (.obj q0)) ∧ H' = [(q0, .row 9 1 (rowOf encS r))] := by
  refine OkH.intro Tryz.func43 rfl Tryz.ntmps43 (by simp) ?_
  unfold f_strings_genSplit_7a42 at hr
  refine Tri.seq ?_
  refine Tri.region ?_
  refine R.flo Gd.no (Y.assign rfl) ?_
  refine R.nil ?_
  refine Tri.seq ?_
  refine Tri.seq ?_
  refine Tri.region ?_
  refine R.flo Gd.no (Y.move rfl) ?_
  refine R.flo Gd.no (Y.eqlI rfl rfl) ?_
  refine R.nil ?_
  refine Tri.condF rfl ?_
  refine Tri.skip ?_
  refine Tri.seq ?_
  refine Tri.seq ?_
  refine Tri.region ?_
  refine R.flo Gd.no (Y.move rfl) ?_
  refine R.flo Gd.no (Y.eqlS rfl rfl) ?_
  refine R.nil ?_
  refine Tri.condF rfl ?_
  refine Tri.skip ?_
  refine Tri.seq ?_
  refine Tri.seq ?_
  refine Tri.region ?_
  refine R.flo Gd.no (Y.move rfl) ?_
  refine R.flo Gd.no (Y.lssI rfl rfl) ?_
  refine R.nil ?_
  refine Tri.condT rfl ?_
  refine Tri.region ?_
  refine R.flo Gd.no (Y.move rfl) ?_
  refine R.flo Gd.no (Y.move rfl) ?_
  replace hr := bind_inv hr
  obtain ⟨r1, hcr1, hr⟩ := hr
  refine R.call (H1 := []) (H2 := []) Gd.no Tryz.en64 rfl (ok_strings_Count_8e1a hcr1 nx) (perm_idx [] rfl) (fun _ _ nx_2 hq => ?_)
  obtain ⟨rfl, rfl⟩ := hq
  replace hr := ckI_inv hr
  obtain ⟨ha, hb, hr⟩ := hr
  refine R.flo Gd.no (Y.addI rfl rfl ha hb) ?_
  refine R.flo Gd.no (Y.assign rfl) ?_
  refine R.nil ?_
  refine Tri.seq ?_
  refine Tri.region ?_
  refine R.flo Gd.no (Y.move rfl) ?_
  refine R.flo Gd.no (Y.move rfl) ?_
  refine R.flo Gd.no (Y.lenS Tryz.underlying9 rfl rfl) ?_
  replace hr := ckI_inv hr
  obtain ⟨ha, hb, hr⟩ := hr
  refine R.flo Gd.no (Y.addI rfl rfl ha hb) ?_
  refine R.flo Gd.no (Y.min2 rfl rfl) ?_
  refine R.flo Gd.no (Y.assign rfl) ?_
  refine R.nil ?_
  refine Tri.seq ?_
  refine Tri.region ?_
  refine R.flo Gd.no (Y.move rfl) ?_
  replace hr := ckP_inv hr
  obtain ⟨h0, hr⟩ := hr
  replace hr := ckN_inv hr
  obtain ⟨ha, hr⟩ := hr
  refine R.eff Gd.no (E.makeSlice ((if (((s.length : Int)) + 1) < (r1 + 1) then (((s.length : Int)) + 1) else (r1 + 1)).toNat) Tryz.underlying26 Tryz.et9 (ev_tn rfl h0) (ev_tn rfl h0) (fits_len48 ha rfl) ha (make_row (f := encS) (x := ([] : Bytes)) rfl)) ?_
  refine R.flo Gd.no (Y.assign rfl) ?_
  refine R.nil ?_
  refine Tri.seq ?_
  refine Tri.region ?_
  refine R.flo Gd.no (Y.move rfl) ?_
  replace hr := ckI_inv hr
  obtain ⟨ha, hb, hr⟩ := hr
  refine R.flo Gd.no (Y.subI rfl rfl ha hb) ?_
  refine R.flo Gd.no (Y.assign rfl) ?_
  refine R.nil ?_
  refine Tri.seq ?_
  refine Tri.region ?_
  refine R.flo Gd.no (Y.assign rfl) ?_
  refine R.nil ?_
  replace hr := bind_inv hr
  obtain ⟨x18, hr, hox18⟩ := hr
  refine Tri.meet (α := (Bytes × (List Bytes) × Nat) × Nat × Nat) (fun ⟨s19, o20, nx_21⟩ => s19 = x18) (fun ⟨s19, o20, nx_21⟩ => ⟨66, [(0, some (.v (.one (.c (.lit (str s19.1)))))), (9, some (.v (.one (.obj o20)))), (10, some (.v (.one (.c (.lit (.int .i64 ((s19.2.2 : Int))))))))], [(o20, .row 9 1 (rowOf encS s19.2.1))], nx_21⟩) ?_ (fun ⟨s19, o20, nx_21⟩ hx => ?_)
  · refine Tri.block ?_
    refine Tri.loop (α := Nat × Bytes × (List Bytes) × Nat × Nat) (fun ⟨fuel26, s3, a4, i5, nx_6⟩ => f_strings_genSplit_7a42_l1 s r1 fuel26 s3 a4 i5 = some x18) (fun ⟨fuel26, s3, a4, i5, nx_6⟩ => ⟨66, [(0, some (.v (.one (.c (.lit (str s3)))))), (1, some (.v (.one (.c (.lit (str ([32] : Bytes))))))), (2, some (.v (.one (.c (.lit (.int .i64 0)))))), (3, some (.v (.one (.c (.lit (.int .i64 ((if (((s.length : Int)) + 1) < (r1 + 1) then (((s.length : Int)) + 1) else (r1 + 1)) - 1))))))), (9, some (.v (.one (.obj nx_2)))), (10, some (.v (.one (.c (.lit (.int .i64 ((i5 : Int))))))))], [(nx_2, .row 9 1 (rowOf encS a4))], nx_6⟩) (fun ⟨fuel26, s3, a4, i5, nx_6⟩ => fuel26) ⟨FUEL, s, List.replicate ((if (((s.length : Int)) + 1) < (r1 + 1) then (((s.length : Int)) + 1) else (r1 + 1)).toNat) ([] : Bytes), 0, nx_2 + 1⟩ ?_ (Weak.to [0, 1, 2, 3, 9, 10] [0] rfl) ?_
    · exact hr
    · rintro ⟨fuel26, s3, a4, i5, nx_6⟩ (hr : f_strings_genSplit_7a42_l1 s r1 fuel26 s3 a4 i5 = some x18)
      cases fuel26 with
      | zero => rw [f_strings_genSplit_7a42_l1] at hr; cases hr
      | succ fuel26 =>
        rw [f_strings_genSplit_7a42_l1] at hr
        refine Tri.seq ?_
        refine Tri.seq ?_
        refine Tri.region ?_
        refine R.flo Gd.no (Y.move rfl) ?_
        refine R.flo Gd.no (Y.move rfl) ?_
        refine R.flo Gd.no (Y.lssI rfl rfl) ?_
        refine R.nil ?_
        refine Tri.cond rfl (fun hc7 => ?_) (fun hc7 => ?_)
        · replace hr := cond_t hc7 hr
          refine Tri.skip ?_
          refine Tri.block ?_
          refine Tri.seq ?_
          refine Tri.region ?_
          refine R.flo Gd.no (Y.move rfl) ?_
          refine R.flo Gd.no (Y.move rfl) ?_
          replace hr := bind_inv hr
          obtain ⟨r8, hcr8, hr⟩ := hr
          refine R.call (H1 := []) (H2 := [(nx_2, .row 9 1 (rowOf encS a4))]) Gd.no Tryz.en65 rfl (ok_strings_Index_8e1a hcr8 nx_6) (perm_idx [0] rfl) (fun _ _ nx_9 hq => ?_)
          obtain ⟨rfl, rfl⟩ := hq
          refine R.flo Gd.no (Y.assign rfl) ?_
          refine R.nil ?_
          refine Tri.seq ?_
          refine Tri.seq ?_
          refine Tri.region ?_
          refine R.flo Gd.no (Y.move rfl) ?_
          refine R.flo Gd.no (Y.lssI rfl rfl) ?_
          refine R.nil ?_
          refine Tri.cond rfl (fun hc10 => ?_) (fun hc10 => ?_)
          · replace hr := cond_t hc10 hr
            refine Tri.exit ?_
            have hx := Option.some.inj hr
            subst hx
            refine meet_mk ⟨(s3, a4, i5), nx_2, nx_9⟩ rfl (Weak.to [0, 9, 10] [0] rfl)
          · replace hr := cond_f hc10 hr
            refine Tri.skip ?_
            refine Tri.seq ?_
            refine Tri.region ?_
            refine R.flo Gd.no (Y.move rfl) ?_
            refine R.flo Gd.no (Y.move rfl) ?_
            refine R.flo Gd.no (Y.move rfl) ?_
            refine R.flo Gd.no (Y.move rfl) ?_
            refine R.flo Gd.no (Y.move rfl) ?_
            replace hr := ckI_inv hr
            obtain ⟨ha, hb, hr⟩ := hr
            refine R.flo Gd.no (Y.addI rfl rfl ha hb) ?_
            replace hr := cut_inv hr
            obtain ⟨y11, m12, n13, e1, e2, h1, h2, h3, hr⟩ := hr
            refine R.flo Gd.no (Y.sliceS Tryz.underlying9 rfl (bnd_z e1) (bnd_int rfl e2) h1 h2 h3) ?_
            replace hr := bind_inv hr
            obtain ⟨x14, hx14, hr⟩ := hr
            refine R.flo Gd.no (Y.idxO i5 0 rfl Tryz.underlying26 Tryz.sizeOf9 rfl rfl (row_get hx14)) ?_
            refine R.eff Gd.no (E.storeT y11 0 rfl rfl rfl rfl Tryz.sizeOf9 rfl (row_get hx14) rfl rfl) ?_
            refine R.nil ?_
            refine Tri.seq ?_
            refine Tri.region ?_
            refine R.flo Gd.no (Y.move rfl) ?_
            refine R.flo Gd.no (Y.move rfl) ?_
            refine R.flo Gd.no (Y.move rfl) ?_
            refine R.flo Gd.no (Y.lenS Tryz.underlying9 rfl rfl) ?_
            replace hr := ckI_inv hr
            obtain ⟨ha, hb, hr⟩ := hr
            refine R.flo Gd.no (Y.addI rfl rfl ha hb) ?_
            replace hr := cut_inv hr
            obtain ⟨y15, m16, n17, e1, e2, h1, h2, h3, hr⟩ := hr
            refine R.flo Gd.no (Y.sliceS Tryz.underlying9 rfl (bnd_int rfl e1) (bnd_l e2) h1 h2 h3) ?_
            refine R.flo Gd.no (Y.assign rfl) ?_
            refine R.nil ?_
            refine Tri.region ?_
            refine R.flo Gd.no (Y.move rfl) ?_
            replace hr := ckI_inv hr
            obtain ⟨ha, hb, hr⟩ := hr
            refine R.flo Gd.no (Y.addI rfl rfl ha hb) ?_
            refine R.flo Gd.no (Y.assign rfl) ?_
            refine R.nil ?_
            refine back_mk ⟨fuel26, y15, a4.set i5 y11, i5 + 1, nx_9⟩ hr (Nat.lt_succ_self _) (Weak.to [0, 1, 2, 3, 9, 10] [0] rfl)
        · replace hr := cond_f hc7 hr
          refine Tri.exit ?_
          have hx := Option.some.inj hr
          subst hx
          refine meet_mk ⟨(s3, a4, i5), nx_2, nx_6⟩ rfl (Weak.to [0, 9, 10] [0] rfl)
  · subst hx
    have hr := hox18
    refine Tri.seq ?_
    refine Tri.region ?_
    refine R.flo Gd.no (Y.move rfl) ?_
    refine R.flo Gd.no (Y.move rfl) ?_
    refine R.flo Gd.no (Y.move rfl) ?_
    replace hr := bind_inv hr
    obtain ⟨x22, hx22, hr⟩ := hr
    refine R.flo Gd.no (Y.idxO s19.2.2 0 rfl Tryz.underlying26 Tryz.sizeOf9 rfl rfl (row_get hx22)) ?_
    refine R.eff Gd.no (E.storeT s19.1 0 rfl rfl rfl rfl Tryz.sizeOf9 rfl (row_get hx22) rfl rfl) ?_
    refine R.nil ?_
    refine Tri.seq ?_
    refine Tri.region ?_
    refine R.flo Gd.no (Y.move rfl) ?_
    refine R.flo Gd.no (Y.move rfl) ?_
    replace hr := ckI_inv hr
    obtain ⟨ha, hb, hr⟩ := hr
    refine R.flo Gd.no (Y.addI rfl rfl ha hb) ?_
    replace hr := cut_inv hr
    obtain ⟨y23, m24, n25, e1, e2, h1, h2, h3, hr⟩ := hr
    refine R.eff Gd.no (E.cutO 0 rfl Tryz.underlying26 Tryz.sizeOf9 rfl (bnd_z e1) (bnd_int rfl e2) (.inl rfl) h1 (by rw [rowOf_length]; exact h2) (row_cut h3)) ?_
    refine R.flo Gd.no (Y.assign rfl) ?_
    refine R.nil ?_
    refine Tri.ret ?_
    have hx := Option.some.inj hr
    subst hx
    exact ⟨.inl rfl, _, .inr (.inl ⟨_, _, rfl, rfl, rfl⟩), ⟨nx_21, rfl, rfl⟩⟩
theorem ok_strings_Split_8e1a {s : Bytes} {r : (List Bytes)} (hr : f_strings_Split_8e1a s = some r) (nx : Nat) : OkH Tryz.prog 19 [.one (.c (.lit (str s))), .one (.c (.lit (str ([32] : Bytes))))] [] nx fun v H' _ => ∃ q0, v = .v (.one (.obj q0)) ∧ H' = [(q0, .row 9 1 (rowOf encS r))] := by
  refine OkH.intro Tryz.func19 rfl Tryz.ntmps19 (by simp) ?_
  unfold f_strings_Split_8e1a at hr
  refine Tri.seq ?_
  refine Tri.region ?_
  refine R.flo Gd.no (Y.assign rfl) ?_
  refine R.nil ?_
  refine Tri.seq ?_
  refine Tri.region ?_
  refine R.flo Gd.no (Y.move rfl) ?_
  refine R.flo Gd.no (Y.move rfl) ?_
  replace hr := bind_inv hr
  obtain ⟨r1, hcr1, hr⟩ := hr
  refine R.call (H1 := []) (H2 := []) Gd.no Tryz.en43 rfl (ok_strings_genSplit_7a42 hcr1 nx) (perm_idx [] rfl) (fun _ _ nx_3 hq => ?_)
  obtain ⟨o2, rfl, rfl⟩ := hq
  refine R.flo Gd.no (Y.assign rfl) ?_
  refine R.nil ?_
  refine Tri.ret ?_
  have hx := Option.some.inj hr
  subst hx
  exact ⟨.inl rfl, _, .inr (.inl ⟨_, _, rfl, rfl, rfl⟩), ⟨o2, rfl, rfl⟩⟩
theorem ok_link_FoldTitle_1 {w : Bytes} {r : Bool} (hr : f_link_FoldTitle_1 w = some r) (nx : Nat) : OkH Tryz.prog 22 [.one (.c (.lit (str w)))] [] nx fun v H' _ => v = .v (.one (.c (.lit (.bool r)))) ∧ H' = [] := by
  refine OkH.intro Tryz.func22 rfl Tryz.ntmps22 (by simp) ?_
  unfold f_link_FoldTitle_1 at hr
  refine Tri.seq ?_
  refine Tri.region ?_
  refine R.flo Gd.no (Y.assign rfl) ?_
  refine R.nil ?_
  refine Tri.seq ?_
  refine Tri.region ?_
  refine R.flo Gd.no (Y.move rfl) ?_
  refine R.flo Gd.no (Y.eqlS rfl rfl) ?_
  refine R.flo Gd.no (Y.assign rfl) ?_
  refine R.nil ?_
  refine Tri.ret ?_
  have hx := Option.some.inj hr
  subst hx
  exact ⟨.inl rfl, _, .inr (.inl ⟨_, _, rfl, rfl, rfl⟩), ⟨rfl, rfl⟩⟩
theorem ok_slices_IndexFunc_string_string_0c06 {s : List Bytes} {r : Int × (List Bytes)} (hr : f_slices_IndexFunc_string_string_0c06 s = some r) (o : Nat) (nx : Nat) : OkH Tryz.prog 44 [.one (.obj o), .one (.fn 22 [])] [(o, .row 9 1 (rowOf encS s))] nx fun v H' _ => v = .v (.one (.c (.lit (.int .i64 r.1)))) ∧ H' = [(o, .row 9 1 (rowOf encS r.2))] := by
  refine OkH.intro Tryz.func44 rfl Tryz.ntmps44 (by simp) ?_
  unfold f_slices_IndexFunc_string_string_0c06 at hr
  refine Tri.seq ?_
  refine Tri.region ?_
  refine R.flo Gd.no (Y.assign rfl) ?_
  refine R.nil ?_
  refine Tri.seq ?_
  refine Tri.seq ?_
  refine Tri.region ?_
  refine R.flo Gd.no (Y.move rfl) ?_
  refine TOps.fact (Fact.lenO (x := .tmp 6) (n := s.length) 0 rfl rfl rowOf_length) (fun hl1 => ?_)
  refine R.flo Gd.no (Y.lenO (m := s.length) 0 rfl Tryz.underlying26 rfl rfl rowOf_length) ?_
  refine R.flo Gd.no (Y.move rfl) ?_
  refine R.nil ?_
  replace hr := bind_inv hr
  obtain ⟨x9, hr, hox9⟩ := hr
  refine Tri.meet1 (α := Unit × Nat) (fun ⟨s10, nx_11⟩ => (.inl s10) = x9) (fun ⟨s10, nx_11⟩ => ⟨19, [], [(o, .row 9 1 (rowOf encS s))], nx_11⟩) ?_ (fun ⟨s10, nx_11⟩ hx => ?_)
  · refine Tri.block ?_
    refine Tri.loop (α := Nat × Nat × Nat) (fun ⟨fuel14, v2, nx_3⟩ => f_slices_IndexFunc_string_string_0c06_l1 s fuel14 v2 = some x9) (fun ⟨fuel14, v2, nx_3⟩ => ⟨19, [(0, some (.v (.one (.obj o)))), (1, some (.v (.one (.fn 22 [])))), (7, some (.v (.one (.c (.lit (.int .i64 ((s.length : Int)))))))), (8, some (.v (.one (.c (.lit (.int .i64 ((v2 : Int))))))))], [(o, .row 9 1 (rowOf encS s))], nx_3⟩) (fun ⟨fuel14, v2, nx_3⟩ => fuel14) ⟨FUEL, 0, nx⟩ ?_ (Weak.to [0, 1, 7, 8] [0] rfl) ?_
    · exact hr
    · rintro ⟨fuel14, v2, nx_3⟩ (hr : f_slices_IndexFunc_string_string_0c06_l1 s fuel14 v2 = some x9)
      cases fuel14 with
      | zero => rw [f_slices_IndexFunc_string_string_0c06_l1] at hr; cases hr
      | succ fuel14 =>
        rw [f_slices_IndexFunc_string_string_0c06_l1] at hr
        refine Tri.seq ?_
        refine Tri.region ?_
        refine R.flo Gd.no (Y.lssI rfl rfl) ?_
        refine R.nil ?_
        refine Tri.seq ?_
        refine Tri.cond rfl (fun hc4 => ?_) (fun hc4 => ?_)
        · replace hr := cond_t hc4 hr
          refine Tri.skip ?_
          refine Tri.seq ?_
          refine Tri.block ?_
          refine Tri.seq ?_
          refine Tri.region ?_
          refine R.flo Gd.no (Y.move rfl) ?_
          refine R.flo Gd.no (Y.assign rfl) ?_
          refine R.nil ?_
          refine Tri.seq ?_
          refine Tri.region ?_
          refine R.flo Gd.no (Y.move rfl) ?_
          refine R.flo Gd.no (Y.move rfl) ?_
          refine R.flo Gd.no (Y.move rfl) ?_
          replace hr := bind_inv hr
          obtain ⟨x5, hx5, hr⟩ := hr
          refine R.flo Gd.no (Y.idxO v2 0 rfl Tryz.underlying26 Tryz.sizeOf9 rfl rfl (row_get hx5)) ?_
          refine R.flo Gd.no (Y.loadR1 rfl 0 rfl (row_get hx5) rfl Tryz.isAgg9) ?_
          replace hr := bind_inv hr
          obtain ⟨r6, hcr6, hr⟩ := hr
          refine R.callV (H1 := []) (H2 := [(o, .row 9 1 (rowOf encS s))]) Gd.no Tryz.en22 rfl rfl (ok_link_FoldTitle_1 hcr6 nx_3) (perm_idx [0] rfl) (fun _ _ nx_7 hq => ?_)
          obtain ⟨rfl, rfl⟩ := hq
          refine R.nil ?_
          refine Tri.cond rfl (fun hc8 => ?_) (fun hc8 => ?_)
          · replace hr := cond_t hc8 hr
            refine Tri.seq ?_
            refine Tri.region ?_
            refine R.flo Gd.no (Y.move rfl) ?_
            refine R.flo Gd.no (Y.assign rfl) ?_
            refine R.nil ?_
            have hx := Option.some.inj hr
            subst hx
            have hr := sum_r hox9
            refine Tri.ret ?_
            have hx := Option.some.inj hr
            subst hx
            exact ⟨.inl rfl, _, .inr (.inl ⟨_, _, rfl, rfl, rfl⟩), ⟨rfl, rfl⟩⟩
          · replace hr := cond_f hc8 hr
            refine Tri.skip ?_
            refine Tri.region ?_
            replace hr := ckI_inv hr
            obtain ⟨ha, hb, hr⟩ := hr
            refine R.flo Gd.no (Y.addI rfl rfl ha hb) ?_
            refine R.flo Gd.no (Y.move rfl) ?_
            refine R.nil ?_
            refine back_mk ⟨fuel14, v2 + 1, nx_7⟩ hr (Nat.lt_succ_self _) (Weak.to [0, 1, 7, 8] [0] rfl)
        · replace hr := cond_f hc4 hr
          refine Tri.exit ?_
          have hx := Option.some.inj hr
          subst hx
          refine meet_mk ⟨(), nx_3⟩ rfl (Weak.to [] [0] rfl)
  · subst hx
    have hr := sum_l hox9
    refine Tri.seq ?_
    refine Tri.region ?_
    refine R.flo Gd.no (Y.assign rfl) ?_
    refine R.nil ?_
    refine Tri.ret ?_
    have hx := Option.some.inj hr
    subst hx
    exact ⟨.inl rfl, _, .inr (.inl ⟨_, _, rfl, rfl, rfl⟩), ⟨rfl, rfl⟩⟩
theorem ok_slices_DeleteFunc_string_string_0c06 {s : List Bytes} {r : Sum ((List Bytes)) ((List Bytes))} (hr : f_slices_DeleteFunc_string_string_0c06 s = some r) (o : Nat) (nx : Nat) : OkH Tryz.prog 21 [.one (.obj o), .one (.fn 22 [])] [(o, .row 9 1 (rowOf encS s))] nx fun v H' _ => sumP r (fun rl0 => v = .v (.one (.obj o)) ∧ H' = [(o, .row 9 1 (rowOf encS rl0))]) (fun rr0 => ∃ q0, v = .v (.one (.obj q0)) ∧ H' = [(q0, .row 9 1 (rowOf encS rr0))]) := by
  refine OkH.intro Tryz.func21 rfl Tryz.ntmps21 (by simp) ?_
  unfold f_slices_DeleteFunc_string_string_0c06 at hr
  refine Tri.seq ?_
  refine Tri.region ?_
  refine R.flo Gd.no (Y.assign rfl) ?_
  refine R.nil ?_
  refine Tri.seq ?_
  refine Tri.region ?_
  refine R.flo Gd.no (Y.move rfl) ?_
  refine R.flo Gd.no (Y.move rfl) ?_
  replace hr := bind_inv hr
  obtain ⟨r1, hcr1, hr⟩ := hr
  refine R.call (H1 := [(o, .row 9 1 (rowOf encS s))]) (H2 := []) Gd.no Tryz.en44 rfl (ok_slices_IndexFunc_string_string_0c06 hcr1 o nx) (perm_idx [0] rfl) (fun _ _ nx_2 hq => ?_)
  obtain ⟨rfl, rfl⟩ := hq
  refine R.flo Gd.no (Y.assign rfl) ?_
  refine R.nil ?_
  refine Tri.seq ?_
  refine Tri.seq ?_
  refine Tri.region ?_
  refine R.flo Gd.no (Y.move rfl) ?_
  refine R.flo Gd.no (Y.eqlI rfl rfl) ?_
  refine R.nil ?_
  refine Tri.cond rfl (fun hc3 => ?_) (fun hc3 => ?_)
  · replace hr := cond_t hc3 hr
    refine Tri.seq ?_
    refine Tri.region ?_
    refine R.flo Gd.no (Y.move rfl) ?_
    refine R.flo Gd.no (Y.assign rfl) ?_
    refine R.nil ?_
    refine Tri.ret ?_
    have hx := Option.some.inj hr
    subst hx
    exact ⟨.inl rfl, _, .inr (.inl ⟨_, _, rfl, rfl, rfl⟩), (sumP_l ⟨rfl, rfl⟩)⟩
  · replace hr := cond_f hc3 hr
    refine Tri.skip ?_
    refine Tri.seq ?_
    refine Tri.seq ?_
    refine Tri.region ?_
    refine R.flo Gd.no (Y.move rfl) ?_
    replace hr := ckI_inv hr
    obtain ⟨ha, hb, hr⟩ := hr
    refine R.flo Gd.no (Y.addI rfl rfl ha hb) ?_
    refine R.flo Gd.no (Y.assign rfl) ?_
    refine R.nil ?_
    replace hr := bind_inv hr
    obtain ⟨x20, hr, hox20⟩ := hr
    refine Tri.meet1 (α := ((List Bytes) × Int) × Nat) (fun ⟨s21, nx_22⟩ => s21 = x20) (fun ⟨s21, nx_22⟩ => ⟨42, [(0, some (.v (.one (.obj o)))), (5, some (.v (.one (.c (.lit (.int .i64 s21.2))))))], [(o, .row 9 1 (rowOf encS s21.1))], nx_22⟩) ?_ (fun ⟨s21, nx_22⟩ hx => ?_)
    · refine Tri.block ?_
      refine Tri.loop (α := Nat × (List Bytes) × Int × Int × Nat) (fun ⟨fuel23, s4, i5, j6, nx_7⟩ => f_slices_DeleteFunc_string_string_0c06_l1 fuel23 s4 i5 j6 = some x20) (fun ⟨fuel23, s4, i5, j6, nx_7⟩ => ⟨42, [(0, some (.v (.one (.obj o)))), (1, some (.v (.one (.fn 22 [])))), (5, some (.v (.one (.c (.lit (.int .i64 i5)))))), (6, some (.v (.one (.c (.lit (.int .i64 j6))))))], [(o, .row 9 1 (rowOf encS s4))], nx_7⟩) (fun ⟨fuel23, s4, i5, j6, nx_7⟩ => fuel23) ⟨FUEL, r1.2, r1.1, r1.1 + 1, nx_2⟩ ?_ (Weak.to [0, 1, 5, 6] [0] rfl) ?_
      · exact hr
      · rintro ⟨fuel23, s4, i5, j6, nx_7⟩ (hr : f_slices_DeleteFunc_string_string_0c06_l1 fuel23 s4 i5 j6 = some x20)
        cases fuel23 with
        | zero => rw [f_slices_DeleteFunc_string_string_0c06_l1] at hr; cases hr
        | succ fuel23 =>
          rw [f_slices_DeleteFunc_string_string_0c06_l1] at hr
          refine Tri.seq ?_
          refine Tri.seq ?_
          refine Tri.region ?_
          refine R.flo Gd.no (Y.move rfl) ?_
          refine R.flo Gd.no (Y.move rfl) ?_
          refine TOps.fact (Fact.lenO (x := .tmp 17) (n := s4.length) 0 rfl rfl rowOf_length) (fun hl8 => ?_)
          refine R.flo Gd.no (Y.lenO (m := s4.length) 0 rfl Tryz.underlying26 rfl rfl rowOf_length) ?_
          refine R.flo Gd.no (Y.lssI rfl rfl) ?_
          refine R.nil ?_
          refine Tri.cond rfl (fun hc9 => ?_) (fun hc9 => ?_)
          · replace hr := cond_t hc9 hr
            refine Tri.skip ?_
            replace hr := bind_inv hr
            obtain ⟨x17, hr, hox17⟩ := hr
            refine Tri.meet (α := ((List Bytes) × Int) × Nat) (fun ⟨s18, nx_19⟩ => s18 = x17) (fun ⟨s18, nx_19⟩ => ⟨42, [(0, some (.v (.one (.obj o)))), (1, some (.v (.one (.fn 22 [])))), (5, some (.v (.one (.c (.lit (.int .i64 s18.2)))))), (6, some (.v (.one (.c (.lit (.int .i64 j6))))))], [(o, .row 9 1 (rowOf encS s18.1))], nx_19⟩) ?_ (fun ⟨s18, nx_19⟩ hx => ?_)
            · refine Tri.block ?_
              refine Tri.seq ?_
              refine Tri.region ?_
              refine R.flo Gd.no (Y.move rfl) ?_
              refine R.flo Gd.no (Y.move rfl) ?_
              replace hr := atn_inv hr
              obtain ⟨x10, h11, hx10, hr⟩ := hr
              refine R.flo Gd.no (Y.idxO ((j6).toNat) 0 rfl Tryz.underlying26 Tryz.sizeOf9 rfl (ev_tn rfl h11) (row_get hx10)) ?_
              refine R.flo Gd.no (Y.loadR1 rfl 0 rfl (row_get hx10) rfl Tryz.isAgg9) ?_
              refine R.flo Gd.no (Y.assign rfl) ?_
              refine R.nil ?_
              refine Tri.seq ?_
              refine Tri.region ?_
              refine R.flo Gd.no (Y.move rfl) ?_
              refine R.flo Gd.no (Y.move rfl) ?_
              replace hr := bind_inv hr
              obtain ⟨r12, hcr12, hr⟩ := hr
              refine R.callV (H1 := []) (H2 := [(o, .row 9 1 (rowOf encS s4))]) Gd.no Tryz.en22 rfl rfl (ok_link_FoldTitle_1 hcr12 nx_7) (perm_idx [0] rfl) (fun _ _ nx_13 hq => ?_)
              obtain ⟨rfl, rfl⟩ := hq
              refine R.flo Gd.no (Y.not rfl) ?_
              refine R.nil ?_
              refine Tri.cond rfl (fun hc14 => ?_) (fun hc14 => ?_)
              · replace hr := cond_t hc14 hr
                refine Tri.seq ?_
                refine Tri.region ?_
                refine R.flo Gd.no (Y.move rfl) ?_
                refine R.flo Gd.no (Y.move rfl) ?_
                refine R.flo Gd.no (Y.move rfl) ?_
                replace hr := atn_inv hr
                obtain ⟨x15, h16, hx15, hr⟩ := hr
                refine R.flo Gd.no (Y.idxO ((i5).toNat) 0 rfl Tryz.underlying26 Tryz.sizeOf9 rfl (ev_tn rfl h16) (row_get hx15)) ?_
                refine R.eff Gd.no (E.storeT x10 0 rfl rfl rfl rfl Tryz.sizeOf9 rfl (row_get hx15) rfl rfl) ?_
                refine R.nil ?_
                refine Tri.region ?_
                refine R.flo Gd.no (Y.move rfl) ?_
                replace hr := ckI_inv hr
                obtain ⟨ha, hb, hr⟩ := hr
                refine R.flo Gd.no (Y.addI rfl rfl ha hb) ?_
                refine R.flo Gd.no (Y.assign rfl) ?_
                refine R.nil ?_
                have hx := Option.some.inj hr
                subst hx
                refine meet_mk ⟨(s4.set ((i5).toNat) x10, i5 + 1), nx_13⟩ rfl (Weak.to [0, 1, 5, 6] [0] rfl)
              · replace hr := cond_f hc14 hr
                refine Tri.skip ?_
                have hx := Option.some.inj hr
                subst hx
                refine meet_mk ⟨(s4, i5), nx_13⟩ rfl (Weak.to [0, 1, 5, 6] [0] rfl)
            · subst hx
              have hr := hox17
              refine Tri.region ?_
              refine R.flo Gd.no (Y.move rfl) ?_
              replace hr := ckI_inv hr
              obtain ⟨ha, hb, hr⟩ := hr
              refine R.flo Gd.no (Y.addI rfl rfl ha hb) ?_
              refine R.flo Gd.no (Y.assign rfl) ?_
              refine R.nil ?_
              refine back_mk ⟨fuel23, s18.1, s18.2, j6 + 1, nx_19⟩ hr (Nat.lt_succ_self _) (Weak.to [0, 1, 5, 6] [0] rfl)
          · replace hr := cond_f hc9 hr
            refine Tri.exit ?_
            have hx := Option.some.inj hr
            subst hx
            refine meet_mk ⟨(s4, i5), nx_7⟩ rfl (Weak.to [0, 5] [0] rfl)
    · subst hx
      have hr := hox20
      refine Tri.seq ?_
      refine Tri.region ?_
      refine R.flo Gd.no (Y.move rfl) ?_
      refine R.flo Gd.no (Y.move rfl) ?_
      replace hr := ckP_inv hr
      obtain ⟨⟨h0, h1⟩, hr⟩ := hr
      refine R.flo Gd.no (Y.subO 0 rfl Tryz.underlying26 Tryz.sizeOf9 rfl (bnd_tn rfl h0) rfl (by rw [rowOf_length]; omega) (Nat.le_refl _) (by rw [rowOf_length])) ?_
      replace hr := ckP_inv hr
      obtain ⟨h0, hr⟩ := hr
      refine R.eff Gd.no (E.clearSub 0 rfl Tryz.underlying26 Tryz.et9 rfl (by rw [rowOf_length]; exact h0) rfl (clear_row (f := encS) (x := ([] : Bytes)) rfl)) ?_
      refine R.nil ?_
      refine Tri.seq ?_
      refine Tri.region ?_
      refine R.flo Gd.no (Y.move rfl) ?_
      refine R.flo Gd.no (Y.move rfl) ?_
      replace hr := cut_inv hr
      obtain ⟨y24, m25, n26, e1, e2, h1, h2, h3, hr⟩ := hr
      refine R.eff Gd.no (E.cutO 0 rfl Tryz.underlying26 Tryz.sizeOf9 rfl (bnd_z e1) (bnd_int rfl e2) (.inl rfl) h1 (by rw [rowOf_length]; exact h2) (row_cut h3)) ?_
      refine R.flo Gd.no (Y.assign rfl) ?_
      refine R.nil ?_
      refine Tri.ret ?_
      have hx := Option.some.inj hr
      subst hx
      exact ⟨.inl rfl, _, .inr (.inl ⟨_, _, rfl, rfl, rfl⟩), (sumP_r ⟨nx_22, rfl, rfl⟩)⟩
theorem ok_link_FoldTitle {s : Bytes} {r : Bytes} (hr : f_link_FoldTitle s = some r) (nx : Nat) : OkH Tryz.prog 9 [.one (.c (.lit (str s)))] [] nx fun v H' _ => v = .v (.one (.c (.lit (str r)))) ∧ H' = [] := by
  refine OkH.intro Tryz.func9 rfl Tryz.ntmps9 (by simp) ?_
  unfold f_link_FoldTitle at hr
  refine Tri.seq ?_
  refine Tri.region ?_
  refine R.flo Gd.no (Y.assign rfl) ?_
  refine R.nil ?_
  refine Tri.seq ?_
  refine Tri.region ?_
  refine R.flo Gd.no (Y.move rfl) ?_
  replace hr := bind_inv hr
  obtain ⟨r1, hcr1, hr⟩ := hr
  refine R.call (H1 := []) (H2 := []) Gd.no Tryz.en20 rfl (ok_link_lower hcr1 nx) (perm_idx [] rfl) (fun _ _ nx_2 hq => ?_)
  obtain ⟨rfl, rfl⟩ := hq
  replace hr := bind_inv hr
  obtain ⟨r3, hcr3, hr⟩ := hr
  refine R.call (H1 := []) (H2 := []) Gd.no Tryz.en19 rfl (ok_strings_Split_8e1a hcr3 nx_2) (perm_idx [] rfl) (fun _ _ nx_5 hq => ?_)
  obtain ⟨o4, rfl, rfl⟩ := hq
  refine R.flo Gd.no (Y.assign rfl) ?_
  refine R.nil ?_
  refine Tri.seq ?_
  refine Tri.region ?_
  refine R.flo Gd.no (Y.move rfl) ?_
  replace hr := bind_inv hr
  obtain ⟨(r6_c0 | r6_c1), hcr6, hr⟩ := hr
  · replace hr := (sum_l hr)
    refine R.call (H1 := [(o4, .row 9 1 (rowOf encS r3))]) (H2 := []) Gd.no Tryz.en21 rfl (ok_slices_DeleteFunc_string_string_0c06 hcr6 o4 nx_5) (perm_idx [0] rfl) (fun _ _ nx_7 hq => ?_)
    obtain ⟨rfl, rfl⟩ := hq
    refine R.flo Gd.no (Y.assign rfl) ?_
    refine R.nil ?_
    refine Tri.seq ?_
    refine Tri.region ?_
    refine R.flo Gd.no (Y.move rfl) ?_
    replace hr := bind_inv hr
    obtain ⟨r8, hcr8, hr⟩ := hr
    refine R.call (H1 := [(o4, .row 9 1 (rowOf encS r6_c0))]) (H2 := []) Gd.no Tryz.en23 rfl (Prim.join_own Tryz.lays156 Tryz.Builder_Extra_156 hcr8 o4 nx_7) (perm_idx [0] rfl) (fun _ _ nx_9 hq => ?_)
    obtain ⟨rfl, rfl⟩ := hq
    refine R.flo Gd.no (Y.assign rfl) ?_
    refine R.nil ?_
    refine Tri.weak (Weak.to [2] [] rfl) ?_
    refine Tri.ret ?_
    have hx := Option.some.inj hr
    subst hx
    exact ⟨.inl rfl, _, .inr (.inl ⟨_, _, rfl, rfl, rfl⟩), ⟨rfl, rfl⟩⟩
  · replace hr := (sum_r hr)
    refine R.call (H1 := [(o4, .row 9 1 (rowOf encS r3))]) (H2 := []) Gd.no Tryz.en21 rfl (ok_slices_DeleteFunc_string_string_0c06 hcr6 o4 nx_5) (perm_idx [0] rfl) (fun _ _ nx_11 hq => ?_)
    obtain ⟨o10, rfl, rfl⟩ := hq
    refine R.flo Gd.no (Y.assign rfl) ?_
    refine R.nil ?_
    refine Tri.seq ?_
    refine Tri.region ?_
    refine R.flo Gd.no (Y.move rfl) ?_
    replace hr := bind_inv hr
    obtain ⟨r12, hcr12, hr⟩ := hr
    refine R.call (H1 := [(o10, .row 9 1 (rowOf encS r6_c1))]) (H2 := []) Gd.no Tryz.en23 rfl (Prim.join_own Tryz.lays156 Tryz.Builder_Extra_156 hcr12 o10 nx_11) (perm_idx [0] rfl) (fun _ _ nx_13 hq => ?_)
    obtain ⟨rfl, rfl⟩ := hq
    refine R.flo Gd.no (Y.assign rfl) ?_
    refine R.nil ?_
    refine Tri.weak (Weak.to [2] [] rfl) ?_
    refine Tri.ret ?_
    have hx := Option.some.inj hr
    subst hx
    exact ⟨.inl rfl, _, .inr (.inl ⟨_, _, rfl, rfl, rfl⟩), ⟨rfl, rfl⟩⟩
theorem ok_link_keep_65f5 {m : List (Bytes × Int)} {name : Bytes} {page : Int} {r : (List (Bytes × Int))} (hr : f_link_keep_65f5 m name page = some r) (o : Nat) (nx : Nat) : OkH Tryz.prog 30 [.one (.obj o), .one (.c (.lit (str name))), .one (.c (.lit (.int .i64 page)))] [(o, .map .string 3 (mapOf (fun s : Bytes => str s) evI m))] nx fun v H' _ => v = .tup [] ∧ H' = [(o, .map .string 3 (mapOf (fun s : Bytes => str s) evI r))] := by
  refine OkH.intro Tryz.func30 rfl Tryz.ntmps30 (by simp) ?_
  unfold f_link_keep_65f5 at hr
  refine Tri.fall ?_
  refine Tri.seq ?_
  refine Tri.region ?_
  refine R.flo Gd.no (Y.move rfl) ?_
  refine R.flo Gd.no (Y.move rfl) ?_
  refine R.flo Gd.no (Y.lookup2 0 rfl Tryz.underlying49 Tryz.underlying9 keyS rfl rfl Tryz.et3.zero zvI) ?_
  refine R.flo Gd.no (Y.move rfl) ?_
  refine R.flo Gd.no (Y.extract rfl rfl) ?_
  refine R.flo Gd.no (Y.extract rfl rfl) ?_
  refine R.flo Gd.no (Y.assign rfl) ?_
  refine R.flo Gd.no (Y.assign rfl) ?_
  refine R.nil ?_
  refine Tri.seq ?_
  refine Tri.region ?_
  refine R.flo Gd.no (Y.move rfl) ?_
  refine R.flo Gd.no (Y.not rfl) ?_
  refine R.nil ?_
  refine Tri.cond rfl (fun hc1 => ?_) (fun hc1 => ?_)
  · replace hr := cond_t hc1 hr
    refine Tri.region ?_
    refine R.flo Gd.no (Y.move rfl) ?_
    refine R.flo Gd.no (Y.move rfl) ?_
    refine R.flo Gd.no (Y.move rfl) ?_
    replace hr := ckN_inv hr
    obtain ⟨ha, hr⟩ := hr
    refine R.eff Gd.no (E.mapUpdate 0 rfl Tryz.underlying49 Tryz.underlying9 keyS rfl rfl rfl ha) ?_
    refine R.nil ?_
    refine ⟨_, Weak.refl _, ?_⟩
    have hx := Option.some.inj hr
    subst hx
    exact ⟨.inr rfl, _, .inl ⟨rfl, rfl⟩, ⟨rfl, rfl⟩⟩
  · replace hr := cond_f hc1 hr
    refine Tri.skip ?_
    refine ⟨_, Weak.refl _, ?_⟩
    have hx := Option.some.inj hr
    subst hx
    exact ⟨.inr rfl, _, .inl ⟨rfl, rfl⟩, ⟨rfl, rfl⟩⟩
theorem ok_link_aliasesOf {b : Block} {r : (List Bytes)} (hr : f_link_aliasesOf b = some r) (nx : Nat) : OkH Tryz.prog 31 [.agg [.c (.lit (.int .i64 b.id)), .c (.lit (.int .i64 b.parent)), .c (.ro 1 false (b.kids.map encI)), .c (.lit (str b.text)), .c (.ro 6 false (b.props.map encP))]] [] nx fun v H' _ => v = .v (.one (.c (.ro 1 false (r.map encS)))) ∧ H' = [] := by
  refine OkH.intro Tryz.func31 rfl Tryz.ntmps31 (by simp) ?_
  unfold f_link_aliasesOf at hr
  refine Tri.seq ?_
  refine Tri.region ?_
  refine R.eff Gd.no (E.box (cs := [.c (.lit (.int .i64 b.id)), .c (.lit (.int .i64 b.parent)), .c (.ro 1 false (b.kids.map encI)), .c (.lit (str b.text)), .c (.ro 6 false (b.props.map encP))]) rfl rfl rfl) ?_
  refine R.flo Gd.no (Y.assign rfl) ?_
  refine R.nil ?_
  refine Tri.seq ?_
  refine Tri.region ?_
  refine R.flo Gd.no (Y.assign rfl) ?_
  refine R.nil ?_
  refine Tri.seq ?_
  refine Tri.seq ?_
  refine Tri.region ?_
  refine R.flo Gd.no (Y.fieldP Tryz.fo55_4 rfl) ?_
  refine R.flo Gd.no (Y.loadB1 rfl 0 rfl rfl Tryz.isAgg53) ?_
  refine TOps.fact (Fact.lenR (x := .tmp 9) (n := b.props.length) rfl (List.length_map ..)) (fun hl1 => ?_)
  refine R.flo Gd.no (Y.lenR (m := b.props.length) Tryz.underlying53 rfl rfl (List.length_map ..)) ?_
  refine R.flo Gd.no (Y.move rfl) ?_
  refine R.nil ?_
  refine Tri.weak (Weak.virt (t := 3) 9 1 rfl) ?_
  replace hr := bind_inv hr
  obtain ⟨x19, hr, hox19⟩ := hr
  refine Tri.meet1 (α := ((List Bytes)) × Nat × Nat) (fun ⟨s20, o21, nx_22⟩ => s20 = x19) (fun ⟨s20, o21, nx_22⟩ => ⟨41, [(3, some (.v (.one (.obj o21))))], [(o21, .row 9 1 (rowOf encS s20))], nx_22⟩) ?_ (fun ⟨s20, o21, nx_22⟩ hx => ?_)
  · refine Tri.block ?_
    refine Tri.loop (α := Nat × (List Bytes) × Nat × Nat) (fun ⟨v4, l3, o2, nx_5⟩ => v4 ≤ b.props.length ∧ f_link_aliasesOf_l1 (b.props.drop v4) l3 = some x19) (fun ⟨v4, l3, o2, nx_5⟩ => ⟨41, [(3, some (.v (.one (.obj o2)))), (9, some (.v (.one (.c (.ro 6 false (b.props.map encP)))))), (10, some (.v (.one (.c (.lit (.int .i64 ((b.props.length : Int)))))))), (11, some (.v (.one (.c (.lit (.int .i64 ((v4 : Int))))))))], [(o2, .row 9 1 (rowOf encS l3))], nx_5⟩) (fun ⟨v4, l3, o2, nx_5⟩ => b.props.length - v4) ⟨0, ([] : List Bytes), nx + 1, nx + 2⟩ ?_ (Weak.to [3, 9, 10, 11] [0] rfl) ?_
    · exact ⟨Nat.zero_le _, hr⟩
    · rintro ⟨v4, l3, o2, nx_5⟩ ⟨hk, hr⟩
      refine Tri.seq ?_
      refine Tri.region ?_
      refine R.flo Gd.no (Y.lssI rfl rfl) ?_
      refine R.nil ?_
      refine Tri.seq ?_
      refine Tri.cond rfl (fun hc => ?_) (fun hc => ?_)
      · have hk := lt_of_dec hc
        obtain ⟨x6, hx6⟩ := get_of_lt hk
        rw [drop_at hx6, f_link_aliasesOf_l1] at hr
        refine Tri.skip ?_
        refine Tri.seq ?_
        refine Tri.block ?_
        refine Tri.seq ?_
        refine Tri.region ?_
        refine R.flo Gd.no (Y.idxR v4 Tryz.underlying53 Tryz.sizeOf91 rfl rfl (map_get hx6)) ?_
        refine R.flo Gd.no (Y.loadPN rfl Tryz.isAgg91 Tryz.sizeOf91 rfl rfl) ?_
        refine R.eff Gd.no (E.alloc (cs := [.c (.lit (str ([] : Bytes))), .c (.lit (.int .i64 0)), .c (.lit (.int .i64 0)), .c (.lit (.int .i64 0)), .c (.lit (str ([] : Bytes))), .c (.lit (.slice none 0 0))]) Tryz.et91.zero Tryz.et91.one (by rfl)) ?_
        refine R.eff Gd.no (E.storeB 0 rfl rfl rfl rfl Tryz.sizeOf91 rfl rfl rfl) ?_
        refine R.nil ?_
        refine Tri.seq ?_
        refine Tri.seq ?_
        refine Tri.region ?_
        refine R.flo Gd.no (Y.fieldP Tryz.fo91_0 rfl) ?_
        refine R.flo Gd.no (Y.loadB1 rfl 0 rfl rfl Tryz.isAgg9) ?_
        refine R.flo Gd.no (Y.neqS rfl rfl) ?_
        refine R.nil ?_
        refine Tri.cond rfl (fun hc7 => ?_) (fun hc7 => ?_)
        · replace hr := cond_t hc7 hr
          refine Tri.exit ?_
          refine Tri.region ?_
          refine R.flo Gd.no (Y.addI rfl rfl (by omega) (by unfold maxLen at *; omega)) ?_
          refine R.flo Gd.no (Y.move rfl) ?_
          refine R.nil ?_
          refine back_mk ⟨v4 + 1, l3, o2, nx_5 + 1⟩ ⟨hk, hr⟩ (mu_dec hk) (Weak.to [3, 9, 10, 11] [1] rfl)
        · replace hr := cond_f hc7 hr
          refine Tri.skip ?_
          refine Tri.seq ?_
          refine Tri.region ?_
          refine R.flo Gd.no (Y.fieldP Tryz.fo91_1 rfl) ?_
          refine R.flo Gd.no (Y.loadBN rfl 0 rfl Tryz.isAgg89 Tryz.sizeOf89 rfl rfl) ?_
          refine R.eff Gd.no (E.buildSlice (es := rowOf encV ([x6.value])) [.agg [.c (.lit (.int .i64 x6.value.kind)), .c (.lit (.int .i64 x6.value.int)), .c (.lit (.int .i64 x6.value.to)), .c (.lit (str x6.value.text)), .c (.ro 5 false (encItems x6.value))]] Tryz.underlying87 Tryz.et89 rfl rfl rfl rfl (by decide) (by decide) rfl) ?_
          refine R.flo Gd.no (Y.fieldP Tryz.fo91_1 rfl) ?_
          refine R.flo Gd.no (Y.fieldP Tryz.fo89_4 rfl) ?_
          refine R.flo Gd.no (Y.loadB1 rfl 1 rfl rfl Tryz.isAgg87) ?_
          replace hr := ckN_inv hr
          obtain ⟨ha, hr⟩ := hr
          refine R.eff Gd.no (E.append (es := rowOf encV ([x6.value])) (es' := rowOf encV (([x6.value]) ++ x6.value.items)) 0 rfl Tryz.underlying87 Tryz.et89 rfl rfl Holds.ro (fits_len ha (app_len rowOf_length (by rw [clos_length, encItems_length])) rfl) (fits_max ha (app_len rowOf_length (by rw [clos_length, encItems_length]))) rfl (by rw [encItems_eq]; exact rowOf_app ..)) ?_
          refine TOps.fact (Fact.lenO (x := .tmp 24) (n := (([x6.value]) ++ x6.value.items).length) 0 rfl rfl rowOf_length) (fun hl8 => ?_)
          refine R.flo Gd.no (Y.lenO (m := (([x6.value]) ++ x6.value.items).length) 0 rfl Tryz.underlying87 rfl rfl rowOf_length) ?_
          refine R.flo Gd.no (Y.move rfl) ?_
          refine R.nil ?_
          replace hr := bind_inv hr
          obtain ⟨x15, hr, hox15⟩ := hr
          refine Tri.meet1 (α := ((List Bytes)) × Nat × Nat) (fun ⟨s16, o17, nx_18⟩ => s16 = x15) (fun ⟨s16, o17, nx_18⟩ => ⟨41, [(3, some (.v (.one (.obj o17)))), (9, some (.v (.one (.c (.ro 6 false (b.props.map encP)))))), (10, some (.v (.one (.c (.lit (.int .i64 ((b.props.length : Int)))))))), (11, some (.v (.one (.c (.lit (.int .i64 ((v4 : Int))))))))], [(o17, .row 9 1 (rowOf encS s16))], nx_18⟩) ?_ (fun ⟨s16, o17, nx_18⟩ hx => ?_)
          · refine Tri.block ?_
            refine Tri.loop (α := Nat × (List Bytes) × Nat × Nat) (fun ⟨v11, l10, o9, nx_12⟩ => v11 ≤ (([x6.value]) ++ x6.value.items).length ∧ f_link_aliasesOf_l2 ((([x6.value]) ++ x6.value.items).drop v11) l10 = some x15) (fun ⟨v11, l10, o9, nx_12⟩ => ⟨41, [(3, some (.v (.one (.obj o9)))), (9, some (.v (.one (.c (.ro 6 false (b.props.map encP)))))), (10, some (.v (.one (.c (.lit (.int .i64 ((b.props.length : Int)))))))), (11, some (.v (.one (.c (.lit (.int .i64 ((v4 : Int)))))))), (24, some (.v (.one (.obj (nx_5 + 2))))), (25, some (.v (.one (.c (.lit (.int .i64 (((([x6.value]) ++ x6.value.items).length : Int)))))))), (26, some (.v (.one (.c (.lit (.int .i64 ((v11 : Int))))))))], [(o9, .row 9 1 (rowOf encS l10)), (nx_5 + 2, .row 89 5 (rowOf encV (([x6.value]) ++ x6.value.items)))], nx_12⟩) (fun ⟨v11, l10, o9, nx_12⟩ => (([x6.value]) ++ x6.value.items).length - v11) ⟨0, l3, o2, nx_5 + 3⟩ ?_ (Weak.to [3, 9, 10, 11, 24, 25, 26] [2, 0] rfl) ?_
            · exact ⟨Nat.zero_le _, hr⟩
            · rintro ⟨v11, l10, o9, nx_12⟩ ⟨hk, hr⟩
              refine Tri.seq ?_
              refine Tri.region ?_
              refine R.flo Gd.no (Y.lssI rfl rfl) ?_
              refine R.nil ?_
              refine Tri.seq ?_
              refine Tri.cond rfl (fun hc => ?_) (fun hc => ?_)
              · have hk := lt_of_dec hc
                obtain ⟨x13, hx13⟩ := get_of_lt hk
                rw [drop_at hx13, f_link_aliasesOf_l2] at hr
                refine Tri.skip ?_
                refine Tri.seq ?_
                refine Tri.block ?_
                refine Tri.seq ?_
                refine Tri.region ?_
                refine R.flo Gd.no (Y.idxO v11 1 rfl Tryz.underlying87 Tryz.sizeOf89 rfl rfl (row_get hx13)) ?_
                refine R.flo Gd.no (Y.loadRN rfl 1 rfl (row_get hx13) Tryz.isAgg89 Tryz.sizeOf89 rfl rfl) ?_
                refine R.eff Gd.no (E.alloc (cs := [.c (.lit (.int .i64 0)), .c (.lit (.int .i64 0)), .c (.lit (.int .i64 0)), .c (.lit (str ([] : Bytes))), .c (.lit (.slice none 0 0))]) Tryz.et89.zero Tryz.et89.one (by rfl)) ?_
                refine R.eff Gd.no (E.storeB 0 rfl rfl rfl rfl Tryz.sizeOf89 rfl rfl rfl) ?_
                refine R.nil ?_
                refine Tri.seq ?_
                refine Tri.region ?_
                refine R.flo Gd.no (Y.fieldP Tryz.fo89_0 rfl) ?_
                refine R.flo Gd.no (Y.loadB1 rfl 0 rfl rfl Tryz.isAgg3) ?_
                refine R.flo Gd.no (Y.eqlI rfl rfl) ?_
                refine R.nil ?_
                refine Tri.cond rfl (fun hc14 => ?_) (fun hc14 => ?_)
                · replace hr := cond_t hc14 hr
                  refine Tri.region ?_
                  refine R.flo Gd.no (Y.move rfl) ?_
                  refine R.flo Gd.no (Y.fieldP Tryz.fo89_3 rfl) ?_
                  refine R.flo Gd.no (Y.loadB1 rfl 0 rfl rfl Tryz.isAgg9) ?_
                  refine R.eff Gd.no (E.buildSlice (es := rowOf encS ([x13.text])) [.one (.c (.lit (str x13.text)))] Tryz.underlying26 Tryz.et9 rfl rfl rfl rfl (by decide) (by decide) rfl) ?_
                  replace hr := ckN_inv hr
                  obtain ⟨ha, hr⟩ := hr
                  refine R.eff Gd.no (E.append (es := rowOf encS l10) (es' := rowOf encS (l10 ++ ([x13.text]))) 2 rfl Tryz.underlying26 Tryz.et9 rfl rfl (Holds.obj 0 rfl) (fits_len ha (app_len rowOf_length rowOf_length) rfl) (fits_max ha (app_len rowOf_length rowOf_length)) rfl rowOf_append.symm) ?_
                  refine R.flo Gd.no (Y.assign rfl) ?_
                  refine R.nil ?_
                  refine Tri.region ?_
                  refine R.flo Gd.no (Y.addI rfl rfl (by omega) (by unfold maxLen at *; omega)) ?_
                  refine R.flo Gd.no (Y.move rfl) ?_
                  refine R.nil ?_
                  refine back_mk ⟨v11 + 1, l10 ++ ([x13.text]), nx_12 + 2, nx_12 + 3⟩ ⟨hk, hr⟩ (mu_dec hk) (Weak.to [3, 9, 10, 11, 24, 25, 26] [0, 3] rfl)
                · replace hr := cond_f hc14 hr
                  refine Tri.skip ?_
                  refine Tri.region ?_
                  refine R.flo Gd.no (Y.addI rfl rfl (by omega) (by unfold maxLen at *; omega)) ?_
                  refine R.flo Gd.no (Y.move rfl) ?_
                  refine R.nil ?_
                  refine back_mk ⟨v11 + 1, l10, o9, nx_12 + 1⟩ ⟨hk, hr⟩ (mu_dec hk) (Weak.to [3, 9, 10, 11, 24, 25, 26] [1, 2] rfl)
              · rw [drop_end (nlt_of_dec hc), f_link_aliasesOf_l2] at hr
                refine Tri.exit ?_
                have hx := Option.some.inj hr
                subst hx
                refine meet_mk ⟨l10, o9, nx_12⟩ rfl (Weak.to [3, 9, 10, 11] [0] rfl)
          · subst hx
            have hr := hox15
            refine Tri.region ?_
            refine R.flo Gd.no (Y.addI rfl rfl (by omega) (by unfold maxLen at *; omega)) ?_
            refine R.flo Gd.no (Y.move rfl) ?_
            refine R.nil ?_
            refine back_mk ⟨v4 + 1, s16, o17, nx_18⟩ ⟨hk, hr⟩ (mu_dec hk) (Weak.to [3, 9, 10, 11] [0] rfl)
      · rw [drop_end (nlt_of_dec hc), f_link_aliasesOf_l1] at hr
        refine Tri.exit ?_
        have hx := Option.some.inj hr
        subst hx
        refine meet_mk ⟨l3, o2, nx_5⟩ rfl (Weak.to [3] [0] rfl)
  · subst hx
    have hr := hox19
    refine Tri.seq ?_
    refine Tri.region ?_
    refine R.flo Gd.no (Y.move rfl) ?_
    refine R.flo Gd.no (Y.assign rfl) ?_
    refine R.nil ?_
    refine Tri.weak (Weak.sealS (l := s20) (f := encS) 0 2 rfl rfl) ?_
    refine Tri.ret ?_
    have hx := Option.some.inj hr
    subst hx
    exact ⟨.inl rfl, _, .inr (.inl ⟨_, _, rfl, rfl, rfl⟩), ⟨rfl, rfl⟩⟩
theorem ok_link_look {base : List Block} {r : Sum Int ((List Block) × (List (Int × Int)) × (List (Int × Int)) × (List (Bytes × Int)) × (List (Bytes × Int)) × Int)} (hr : f_link_look base = some r) (nx : Nat) : OkH Tryz.prog 11 [.one (.c (.ro 5 false (base.map encB)))] [] nx fun v H' _ => sumP r (fun rl0 => v = .tup [.one (.c (.lit (.pointer none))), .one (.c (.lit (.int .i64 rl0)))] ∧ H' = []) (fun rr0 => ∃ q0 q1 q2 q3 q4, v = .tup [.one (.ptr q0 0 0), .one (.c (.lit (.int .i64 rr0.2.2.2.2.2)))] ∧ H' = [(q0, .box 51 [.c (.ro 5 false (rr0.1.map encB)), .obj q1, .obj q2, .obj q3, .obj q4]), (q1, .map (.int .i64) 3 (mapOf (fun n : Int => Value.int .i64 n) evI rr0.2.1)), (q2, .map (.int .i64) 3 (mapOf (fun n : Int => Value.int .i64 n) evI rr0.2.2.1)), (q3, .map .string 3 (mapOf (fun s : Bytes => str s) evI rr0.2.2.2.1)), (q4, .map .string 3 (mapOf (fun s : Bytes => str s) evI rr0.2.2.2.2.1))]) := by
  refine OkH.intro Tryz.func11 rfl Tryz.ntmps11 (by simp) ?_
  unfold f_link_look at hr
  refine Tri.seq ?_
  refine Tri.region ?_
  refine R.flo Gd.no (Y.assign rfl) ?_
  refine R.flo Gd.no (Y.assign rfl) ?_
  refine R.nil ?_
  refine Tri.seq ?_
  refine Tri.seq ?_
  refine Tri.region ?_
  refine R.flo Gd.no (Y.move rfl) ?_
  replace hr := bind_inv hr
  obtain ⟨r1, hcr1, hr⟩ := hr
  refine R.call (H1 := []) (H2 := []) Gd.no Tryz.en26 rfl (ok_tree_Check hcr1 nx) (perm_idx [] rfl) (fun _ _ nx_2 hq => ?_)
  obtain ⟨rfl, rfl⟩ := hq
  refine R.flo Gd.no (Y.assign rfl) ?_
  refine R.nil ?_
  refine Tri.seq ?_
  refine Tri.region ?_
  refine R.flo Gd.no (Y.move rfl) ?_
  refine R.flo Gd.no (Y.neqI rfl rfl) ?_
  refine R.nil ?_
  refine Tri.cond rfl (fun hc3 => ?_) (fun hc3 => ?_)
  · replace hr := cond_t hc3 hr
    refine Tri.seq ?_
    refine Tri.region ?_
    refine R.flo Gd.no (Y.move rfl) ?_
    refine R.flo Gd.no (Y.assign rfl) ?_
    refine R.flo Gd.no (Y.assign rfl) ?_
    refine R.nil ?_
    refine Tri.ret ?_
    have hx := Option.some.inj hr
    subst hx
    exact ⟨.inl rfl, _, .inr (.inr (.inl ⟨_, _, _, _, rfl, rfl, rfl, rfl⟩)), (sumP_l ⟨rfl, rfl⟩)⟩
  · replace hr := cond_f hc3 hr
    refine Tri.skip ?_
    refine Tri.seq ?_
    refine Tri.region ?_
    refine R.flo Gd.no (Y.move rfl) ?_
    refine R.eff Gd.no (E.makeMap (.int .i64) 3 (fun n : Int => Value.int .i64 n) evI) ?_
    refine R.eff Gd.no (E.makeMap (.int .i64) 3 (fun n : Int => Value.int .i64 n) evI) ?_
    refine R.eff Gd.no (E.makeMap .string 3 (fun s : Bytes => str s) evI) ?_
    refine R.eff Gd.no (E.makeMap .string 3 (fun s : Bytes => str s) evI) ?_
    refine R.flo Gd.no (Y.build Tryz.pl51 rfl rfl rfl) ?_
    refine R.eff Gd.no (E.box (cs := [.c (.ro 5 false (base.map encB)), .obj nx_2, .obj (nx_2 + 1), .obj (nx_2 + 2), .obj (nx_2 + 3)]) rfl rfl rfl) ?_
    refine R.flo Gd.no (Y.assign rfl) ?_
    refine R.nil ?_
    refine Tri.seq ?_
    refine Tri.seq ?_
    refine Tri.region ?_
    refine R.flo Gd.no (Y.move rfl) ?_
    refine TOps.fact (Fact.lenR (x := .tmp 27) (n := base.length) rfl (List.length_map ..)) (fun hl4 => ?_)
    refine R.flo Gd.no (Y.lenR (m := base.length) Tryz.underlying22 rfl rfl (List.length_map ..)) ?_
    refine R.flo Gd.no (Y.move rfl) ?_
    refine R.nil ?_
    replace hr := bind_inv hr
    obtain ⟨x9, hr, hox9⟩ := hr
    refine Tri.meet1 (α := ((List (Int × Int))) × Nat × Nat × Nat × Nat × Nat × Nat) (fun ⟨s10, o11, o12, o13, o14, o15, nx_16⟩ => s10 = x9) (fun ⟨s10, o11, o12, o13, o14, o15, nx_16⟩ => ⟨103, [(0, some (.v (.one (.c (.ro 5 false (base.map encB)))))), (5, some (.v (.one (.ptr o11 0 0))))], [(o11, .box 51 [.c (.ro 5 false (base.map encB)), .obj o12, .obj o13, .obj o14, .obj o15]), (o12, .map (.int .i64) 3 (mapOf (fun n : Int => Value.int .i64 n) evI s10)), (o13, .map (.int .i64) 3 (mapOf (fun n : Int => Value.int .i64 n) evI (([] : List (Int × Int))))), (o14, .map .string 3 (mapOf (fun s : Bytes => str s) evI (([] : List (Bytes × Int))))), (o15, .map .string 3 (mapOf (fun s : Bytes => str s) evI (([] : List (Bytes × Int)))))], nx_16⟩) ?_ (fun ⟨s10, o11, o12, o13, o14, o15, nx_16⟩ hx => ?_)
    · refine Tri.block ?_
      refine Tri.loop (α := Nat × (List (Int × Int)) × Nat) (fun ⟨v6, v5, nx_7⟩ => v6 ≤ base.length ∧ f_link_look_l1 (base.drop v6) v6 v5 = some x9) (fun ⟨v6, v5, nx_7⟩ => ⟨103, [(0, some (.v (.one (.c (.ro 5 false (base.map encB)))))), (5, some (.v (.one (.ptr (nx_2 + 4) 0 0)))), (27, some (.v (.one (.c (.ro 5 false (base.map encB)))))), (28, some (.v (.one (.c (.lit (.int .i64 ((base.length : Int)))))))), (29, some (.v (.one (.c (.lit (.int .i64 ((v6 : Int))))))))], [(nx_2 + 4, .box 51 [.c (.ro 5 false (base.map encB)), .obj nx_2, .obj (nx_2 + 1), .obj (nx_2 + 2), .obj (nx_2 + 3)]), (nx_2, .map (.int .i64) 3 (mapOf (fun n : Int => Value.int .i64 n) evI v5)), (nx_2 + 1, .map (.int .i64) 3 (mapOf (fun n : Int => Value.int .i64 n) evI (([] : List (Int × Int))))), (nx_2 + 2, .map .string 3 (mapOf (fun s : Bytes => str s) evI (([] : List (Bytes × Int))))), (nx_2 + 3, .map .string 3 (mapOf (fun s : Bytes => str s) evI (([] : List (Bytes × Int)))))], nx_7⟩) (fun ⟨v6, v5, nx_7⟩ => base.length - v6) ⟨0, ([] : List (Int × Int)), nx_2 + 5⟩ ?_ (Weak.to [0, 5, 27, 28, 29] [0, 4, 3, 2, 1] rfl) ?_
      · exact ⟨Nat.zero_le _, hr⟩
      · rintro ⟨v6, v5, nx_7⟩ ⟨hk, hr⟩
        refine Tri.seq ?_
        refine Tri.region ?_
        refine R.flo Gd.no (Y.lssI rfl rfl) ?_
        refine R.nil ?_
        refine Tri.seq ?_
        refine Tri.cond rfl (fun hc => ?_) (fun hc => ?_)
        · have hk := lt_of_dec hc
          obtain ⟨x8, hx8⟩ := get_of_lt hk
          rw [drop_at hx8, f_link_look_l1] at hr
          refine Tri.skip ?_
          refine Tri.seq ?_
          refine Tri.block ?_
          refine Tri.seq ?_
          refine Tri.region ?_
          refine R.flo Gd.no (Y.move rfl) ?_
          refine R.flo Gd.no (Y.idxR v6 Tryz.underlying22 Tryz.sizeOf55 rfl rfl (map_get hx8)) ?_
          refine R.flo Gd.no (Y.loadPN rfl Tryz.isAgg55 Tryz.sizeOf55 rfl rfl) ?_
          refine R.eff Gd.no (E.alloc (cs := [.c (.lit (.int .i64 0)), .c (.lit (.int .i64 0)), .c (.lit (.slice none 0 0)), .c (.lit (str ([] : Bytes))), .c (.lit (.slice none 0 0))]) Tryz.et55.zero Tryz.et55.one (by rfl)) ?_
          refine R.flo Gd.no (Y.assign rfl) ?_
          refine R.eff Gd.no (E.storeB 0 rfl rfl rfl rfl Tryz.sizeOf55 rfl rfl rfl) ?_
          refine R.nil ?_
          refine Tri.weak (Weak.perm (perm_idx [2, 0, 1, 3, 4, 5] rfl)) ?_
          refine Tri.draw 8 rfl rfl [(nx_2, .map (.int .i64) 3 (mapOf (fun n : Int => Value.int .i64 n) evI v5))] [(nx_7, .box 55 [.c (.lit (.int .i64 x8.id)), .c (.lit (.int .i64 x8.parent)), .c (.ro 1 false (x8.kids.map encI)), .c (.lit (str x8.text)), .c (.ro 6 false (x8.props.map encP))]), (nx_2 + 4, .box 51 [.c (.ro 5 false (base.map encB)), .obj nx_2, .obj (nx_2 + 1), .obj (nx_2 + 2), .obj (nx_2 + 3)]), (nx_2 + 1, .map (.int .i64) 3 (mapOf (fun n : Int => Value.int .i64 n) evI (([] : List (Int × Int))))), (nx_2 + 2, .map .string 3 (mapOf (fun s : Bytes => str s) evI (([] : List (Bytes × Int))))), (nx_2 + 3, .map .string 3 (mapOf (fun s : Bytes => str s) evI (([] : List (Bytes × Int)))))] rfl ?_
          refine TAny.flo 0 rfl (by decide +kernel) (by decide +kernel) (by decide +kernel) Gd.no (Y.move rfl) ?_
          refine TAny.flo 1 rfl (by decide +kernel) (by decide +kernel) (by decide +kernel) Gd.no (Y.nilP rfl) ?_
          refine TAny.flo 2 rfl (by decide +kernel) (by decide +kernel) (by decide +kernel) Gd.no (Y.fieldP Tryz.fo51_1 rfl) ?_
          refine TAny.flo 3 rfl (by decide +kernel) (by decide +kernel) (by decide +kernel) Gd.no (Y.loadB1 rfl 1 rfl rfl Tryz.isAgg48) ?_
          refine TAny.flo 4 rfl (by decide +kernel) (by decide +kernel) (by decide +kernel) Gd.no (Y.fieldP Tryz.fo55_0 rfl) ?_
          refine TAny.flo 5 rfl (by decide +kernel) (by decide +kernel) (by decide +kernel) Gd.no (Y.loadB1 rfl 0 rfl rfl Tryz.isAgg3) ?_
          refine TAny.flo 6 rfl (by decide +kernel) (by decide +kernel) (by decide +kernel) Gd.no (Y.move rfl) ?_
          refine TAny.lists (HE' := [(nx_2, .map (.int .i64) 3 (mapOf (fun n : Int => Value.int .i64 n) evI v5))] ++ []) (HS' := [(nx_7, .box 55 [.c (.lit (.int .i64 x8.id)), .c (.lit (.int .i64 x8.parent)), .c (.ro 1 false (x8.kids.map encI)), .c (.lit (str x8.text)), .c (.ro 6 false (x8.props.map encP))]), (nx_2 + 4, .box 51 [.c (.ro 5 false (base.map encB)), .obj nx_2, .obj (nx_2 + 1), .obj (nx_2 + 2), .obj (nx_2 + 3)]), (nx_2 + 1, .map (.int .i64) 3 (mapOf (fun n : Int => Value.int .i64 n) evI (([] : List (Int × Int))))), (nx_2 + 2, .map .string 3 (mapOf (fun s : Bytes => str s) evI (([] : List (Bytes × Int))))), (nx_2 + 3, .map .string 3 (mapOf (fun s : Bytes => str s) evI (([] : List (Bytes × Int)))))]) (perm_idx [0, 1, 2, 3, 4, 5] rfl) (sub_idx [0] rfl) ?_
          replace hr := ckN_inv hr
          obtain ⟨ha, hr⟩ := hr
          refine TAny.eff 7 rfl (by decide +kernel) Gd.no (E.mapUpdate 0 rfl Tryz.underlying48 Tryz.underlying3 keyI rfl rfl rfl ha) ?_
          refine TAny.done (by decide +kernel) ?_
          refine Tri.region ?_
          refine R.flo Gd.no (Y.addI rfl rfl (by omega) (by unfold maxLen at *; omega)) ?_
          refine R.flo Gd.no (Y.move rfl) ?_
          refine R.nil ?_
          refine back_mk ⟨v6 + 1, mset v5 x8.id ((v6 : Int)), nx_7 + 1⟩ ⟨hk, hr⟩ (mu_dec hk) (Weak.to [0, 5, 27, 28, 29] [2, 0, 3, 4, 5] rfl)
        · rw [drop_end (nlt_of_dec hc), f_link_look_l1] at hr
          refine Tri.exit ?_
          have hx := Option.some.inj hr
          subst hx
          refine meet_mk ⟨v5, nx_2 + 4, nx_2, nx_2 + 1, nx_2 + 2, nx_2 + 3, nx_7⟩ rfl (Weak.to [0, 5] [0, 1, 2, 3, 4] rfl)
    · subst hx
      have hr := hox9
      refine Tri.seq ?_
      refine Tri.seq ?_
      refine Tri.region ?_
      refine R.flo Gd.no (Y.move rfl) ?_
      replace hr := bind_inv hr
      obtain ⟨x17, hx17, hr⟩ := hr
      refine R.flo Gd.no (Y.idxR 0 Tryz.underlying22 Tryz.sizeOf55 rfl rfl (map_get hx17)) ?_
      refine R.flo Gd.no (Y.fieldR Tryz.fo55_2 rfl) ?_
      refine R.flo Gd.no (Y.loadP1 rfl rfl Tryz.isAgg52) ?_
      refine TOps.fact (Fact.lenR (x := .tmp 45) (n := x17.kids.length) rfl (List.length_map ..)) (fun hl18 => ?_)
      refine R.flo Gd.no (Y.lenR (m := x17.kids.length) Tryz.underlying52 rfl rfl (List.length_map ..)) ?_
      refine R.flo Gd.no (Y.move rfl) ?_
      refine R.nil ?_
      replace hr := bind_inv hr
      obtain ⟨x29, hr, hox29⟩ := hr
      refine Tri.meet1 (α := ((List Block) × (List (Int × Int)) × (List (Int × Int)) × (List (Bytes × Int)) × (List (Bytes × Int))) × Nat) (fun ⟨s30, nx_31⟩ => s30 = x29) (fun ⟨s30, nx_31⟩ => ⟨103, [(0, some (.v (.one (.c (.ro 5 false (base.map encB)))))), (5, some (.v (.one (.ptr o11 0 0))))], [(o11, .box 51 [.c (.ro 5 false (s30.1.map encB)), .obj o12, .obj o13, .obj o14, .obj o15]), (o12, .map (.int .i64) 3 (mapOf (fun n : Int => Value.int .i64 n) evI s30.2.1)), (o13, .map (.int .i64) 3 (mapOf (fun n : Int => Value.int .i64 n) evI s30.2.2.1)), (o14, .map .string 3 (mapOf (fun s : Bytes => str s) evI s30.2.2.2.1)), (o15, .map .string 3 (mapOf (fun s : Bytes => str s) evI s30.2.2.2.2))], nx_31⟩) ?_ (fun ⟨s30, nx_31⟩ hx => ?_)
      · refine Tri.block ?_
        refine Tri.loop (α := Nat × (List Block) × (List (Int × Int)) × (List (Int × Int)) × (List (Bytes × Int)) × (List (Bytes × Int)) × Nat) (fun ⟨v24, v19, v20, v21, v22, v23, nx_25⟩ => v24 ≤ x17.kids.length ∧ f_link_look_l2 (x17.kids.drop v24) v19 v20 v21 v22 v23 = some x29) (fun ⟨v24, v19, v20, v21, v22, v23, nx_25⟩ => ⟨103, [(0, some (.v (.one (.c (.ro 5 false (base.map encB)))))), (5, some (.v (.one (.ptr o11 0 0)))), (45, some (.v (.one (.c (.ro 1 false (x17.kids.map encI)))))), (46, some (.v (.one (.c (.lit (.int .i64 ((x17.kids.length : Int)))))))), (47, some (.v (.one (.c (.lit (.int .i64 ((v24 : Int))))))))], [(o11, .box 51 [.c (.ro 5 false (v19.map encB)), .obj o12, .obj o13, .obj o14, .obj o15]), (o12, .map (.int .i64) 3 (mapOf (fun n : Int => Value.int .i64 n) evI v20)), (o13, .map (.int .i64) 3 (mapOf (fun n : Int => Value.int .i64 n) evI v21)), (o14, .map .string 3 (mapOf (fun s : Bytes => str s) evI v22)), (o15, .map .string 3 (mapOf (fun s : Bytes => str s) evI v23))], nx_25⟩) (fun ⟨v24, v19, v20, v21, v22, v23, nx_25⟩ => x17.kids.length - v24) ⟨0, base, s10, ([] : List (Int × Int)), ([] : List (Bytes × Int)), ([] : List (Bytes × Int)), nx_16⟩ ?_ (Weak.to [0, 5, 45, 46, 47] [0, 1, 2, 3, 4] rfl) ?_
        · exact ⟨Nat.zero_le _, hr⟩
        · rintro ⟨v24, v19, v20, v21, v22, v23, nx_25⟩ ⟨hk, hr⟩
          refine Tri.seq ?_
          refine Tri.region ?_
          refine R.flo Gd.no (Y.lssI rfl rfl) ?_
          refine R.nil ?_
          refine Tri.seq ?_
          refine Tri.cond rfl (fun hc => ?_) (fun hc => ?_)
          · have hk := lt_of_dec hc
            obtain ⟨x26, hx26⟩ := get_of_lt hk
            rw [drop_at hx26, f_link_look_l2] at hr
            refine Tri.skip ?_
            refine Tri.seq ?_
            refine Tri.block ?_
            refine Tri.seq ?_
            refine Tri.region ?_
            refine R.flo Gd.no (Y.idxR v24 Tryz.underlying52 Tryz.sizeOf3 rfl rfl (map_get hx26)) ?_
            refine R.flo Gd.no (Y.loadP1 rfl rfl Tryz.isAgg3) ?_
            refine R.flo Gd.no (Y.assign rfl) ?_
            refine R.nil ?_
            refine Tri.region ?_
            refine R.flo Gd.no (Y.move rfl) ?_
            refine R.flo Gd.no (Y.move rfl) ?_
            refine R.flo Gd.no (Y.move rfl) ?_
            replace hr := bind_inv hr
            obtain ⟨r27, hcr27, hr⟩ := hr
            refine R.call (H1 := [(o11, .box 51 [.c (.ro 5 false (v19.map encB)), .obj o12, .obj o13, .obj o14, .obj o15]), (o12, .map (.int .i64) 3 (mapOf (fun n : Int => Value.int .i64 n) evI v20)), (o13, .map (.int .i64) 3 (mapOf (fun n : Int => Value.int .i64 n) evI v21)), (o14, .map .string 3 (mapOf (fun s : Bytes => str s) evI v22)), (o15, .map .string 3 (mapOf (fun s : Bytes => str s) evI v23))]) (H2 := []) Gd.no Tryz.en27 rfl (ok_link_view_mark_c7f0 FUEL hcr27 o11 o12 o13 o14 o15 nx_25) (perm_idx [0, 1, 2, 3, 4] rfl) (fun _ _ nx_28 hq => ?_)
            obtain ⟨rfl, rfl⟩ := hq
            refine R.nil ?_
            refine Tri.region ?_
            refine R.flo Gd.no (Y.addI rfl rfl (by omega) (by unfold maxLen at *; omega)) ?_
            refine R.flo Gd.no (Y.move rfl) ?_
            refine R.nil ?_
            refine back_mk ⟨v24 + 1, r27.1, r27.2.1, r27.2.2.1, r27.2.2.2.1, r27.2.2.2.2, nx_28⟩ ⟨hk, hr⟩ (mu_dec hk) (Weak.to [0, 5, 45, 46, 47] [0, 1, 2, 3, 4] rfl)
          · rw [drop_end (nlt_of_dec hc), f_link_look_l2] at hr
            refine Tri.exit ?_
            have hx := Option.some.inj hr
            subst hx
            refine meet_mk ⟨(v19, v20, v21, v22, v23), nx_25⟩ rfl (Weak.to [0, 5] [0, 1, 2, 3, 4] rfl)
      · subst hx
        have hr := hox29
        refine Tri.seq ?_
        refine Tri.seq ?_
        refine Tri.region ?_
        refine R.flo Gd.no (Y.move rfl) ?_
        replace hr := bind_inv hr
        obtain ⟨x32, hx32, hr⟩ := hr
        refine R.flo Gd.no (Y.idxR 0 Tryz.underlying22 Tryz.sizeOf55 rfl rfl (map_get hx32)) ?_
        refine R.flo Gd.no (Y.fieldR Tryz.fo55_2 rfl) ?_
        refine R.flo Gd.no (Y.loadP1 rfl rfl Tryz.isAgg52) ?_
        replace hr := bind_inv hr
        obtain ⟨r33, hcr33, hr⟩ := hr
        refine R.call (H1 := []) (H2 := [(o11, .box 51 [.c (.ro 5 false (s30.1.map encB)), .obj o12, .obj o13, .obj o14, .obj o15]), (o12, .map (.int .i64) 3 (mapOf (fun n : Int => Value.int .i64 n) evI s30.2.1)), (o13, .map (.int .i64) 3 (mapOf (fun n : Int => Value.int .i64 n) evI s30.2.2.1)), (o14, .map .string 3 (mapOf (fun s : Bytes => str s) evI s30.2.2.2.1)), (o15, .map .string 3 (mapOf (fun s : Bytes => str s) evI s30.2.2.2.2))]) Gd.no Tryz.en29 rfl (ok_slices_Values_int_int hcr33 nx_31) (perm_idx [0, 1, 2, 3, 4] rfl) (fun _ _ nx_35 hq => ?_)
        obtain ⟨o34, rfl, rfl⟩ := hq
        replace hr := bind_inv hr
        obtain ⟨r36, hcr36, hr⟩ := hr
        refine R.call (H1 := [(o34, .box 52 [.c (.ro 1 false (r33.map encI))])]) (H2 := [(o11, .box 51 [.c (.ro 5 false (s30.1.map encB)), .obj o12, .obj o13, .obj o14, .obj o15]), (o12, .map (.int .i64) 3 (mapOf (fun n : Int => Value.int .i64 n) evI s30.2.1)), (o13, .map (.int .i64) 3 (mapOf (fun n : Int => Value.int .i64 n) evI s30.2.2.1)), (o14, .map .string 3 (mapOf (fun s : Bytes => str s) evI s30.2.2.2.1)), (o15, .map .string 3 (mapOf (fun s : Bytes => str s) evI s30.2.2.2.2))]) Gd.no Tryz.en28 rfl (ok_slices_Sorted_int_8a7f hcr36 o34 nx_35) (perm_idx [0, 1, 2, 3, 4, 5] rfl) (fun _ _ nx_38 hq => ?_)
        obtain ⟨o37, rfl, rfl⟩ := hq
        refine TOps.fact (Fact.lenO (x := .tmp 61) (n := r36.1.length) 0 rfl rfl rowOf_length) (fun hl39 => ?_)
        refine R.flo Gd.no (Y.lenO (m := r36.1.length) 0 rfl Tryz.underlying52 rfl rfl rowOf_length) ?_
        refine R.flo Gd.no (Y.move rfl) ?_
        refine R.nil ?_
        replace hr := bind_inv hr
        obtain ⟨x66, hr, hox66⟩ := hr
        refine Tri.meet1 (α := ((List (Bytes × Int)) × (List (Bytes × Int))) × Nat) (fun ⟨s67, nx_68⟩ => s67 = x66) (fun ⟨s67, nx_68⟩ => ⟨103, [(5, some (.v (.one (.ptr o11 0 0))))], [(o11, .box 51 [.c (.ro 5 false (s30.1.map encB)), .obj o12, .obj o13, .obj o14, .obj o15]), (o12, .map (.int .i64) 3 (mapOf (fun n : Int => Value.int .i64 n) evI s30.2.1)), (o13, .map (.int .i64) 3 (mapOf (fun n : Int => Value.int .i64 n) evI s30.2.2.1)), (o14, .map .string 3 (mapOf (fun s : Bytes => str s) evI s67.1)), (o15, .map .string 3 (mapOf (fun s : Bytes => str s) evI s67.2))], nx_68⟩) ?_ (fun ⟨s67, nx_68⟩ hx => ?_)
        · refine Tri.block ?_
          refine Tri.loop (α := Nat × (List (Bytes × Int)) × (List (Bytes × Int)) × Nat × Nat) (fun ⟨v43, v40, v41, o42, nx_44⟩ => v43 ≤ r36.1.length ∧ f_link_look_l3 base s30 (r36.1.drop v43) v40 v41 = some x66) (fun ⟨v43, v40, v41, o42, nx_44⟩ => ⟨103, [(0, some (.v (.one (.c (.ro 5 false (base.map encB)))))), (5, some (.v (.one (.ptr o11 0 0)))), (61, some (.v (.one (.obj o42)))), (62, some (.v (.one (.c (.lit (.int .i64 ((r36.1.length : Int)))))))), (63, some (.v (.one (.c (.lit (.int .i64 ((v43 : Int))))))))], [(o11, .box 51 [.c (.ro 5 false (s30.1.map encB)), .obj o12, .obj o13, .obj o14, .obj o15]), (o12, .map (.int .i64) 3 (mapOf (fun n : Int => Value.int .i64 n) evI s30.2.1)), (o13, .map (.int .i64) 3 (mapOf (fun n : Int => Value.int .i64 n) evI s30.2.2.1)), (o14, .map .string 3 (mapOf (fun s : Bytes => str s) evI v40)), (o15, .map .string 3 (mapOf (fun s : Bytes => str s) evI v41)), (o42, .row 3 1 (rowOf encI r36.1))], nx_44⟩) (fun ⟨v43, v40, v41, o42, nx_44⟩ => r36.1.length - v43) ⟨0, s30.2.2.2.1, s30.2.2.2.2, o37, nx_38⟩ ?_ (Weak.to [0, 5, 61, 62, 63] [2, 3, 4, 5, 6, 0] rfl) ?_
          · exact ⟨Nat.zero_le _, hr⟩
          · rintro ⟨v43, v40, v41, o42, nx_44⟩ ⟨hk, hr⟩
            refine Tri.seq ?_
            refine Tri.region ?_
            refine R.flo Gd.no (Y.lssI rfl rfl) ?_
            refine R.nil ?_
            refine Tri.seq ?_
            refine Tri.cond rfl (fun hc => ?_) (fun hc => ?_)
            · have hk := lt_of_dec hc
              obtain ⟨x45, hx45⟩ := get_of_lt hk
              rw [drop_at hx45, f_link_look_l3] at hr
              refine Tri.skip ?_
              refine Tri.seq ?_
              refine Tri.block ?_
              refine Tri.seq ?_
              refine Tri.region ?_
              refine R.flo Gd.no (Y.idxO v43 5 rfl Tryz.underlying52 Tryz.sizeOf3 rfl rfl (row_get hx45)) ?_
              refine R.flo Gd.no (Y.loadR1 rfl 5 rfl (row_get hx45) rfl Tryz.isAgg3) ?_
              refine R.flo Gd.no (Y.assign rfl) ?_
              refine R.nil ?_
              refine Tri.seq ?_
              refine Tri.region ?_
              refine R.flo Gd.no (Y.move rfl) ?_
              refine R.flo Gd.no (Y.move rfl) ?_
              refine R.flo Gd.no (Y.nilP rfl) ?_
              refine R.flo Gd.no (Y.fieldP Tryz.fo51_1 rfl) ?_
              refine R.flo Gd.no (Y.loadB1 rfl 0 rfl rfl Tryz.isAgg48) ?_
              refine R.flo Gd.no (Y.move rfl) ?_
              refine R.flo Gd.no (Y.lookup1 1 rfl Tryz.underlying48 Tryz.underlying3 keyI rfl rfl Tryz.et3.zero zvI) ?_
              replace hr := atn_inv hr
              obtain ⟨x46, h47, hx46, hr⟩ := hr
              refine R.flo Gd.no (Y.idxR (((mget s30.2.1 x45).getD (0 : Int)).toNat) Tryz.underlying22 Tryz.sizeOf55 rfl (ev_tn rfl h47) (map_get hx46)) ?_
              refine R.flo Gd.no (Y.loadPN rfl Tryz.isAgg55 Tryz.sizeOf55 rfl rfl) ?_
              refine R.eff Gd.no (E.alloc (cs := [.c (.lit (.int .i64 0)), .c (.lit (.int .i64 0)), .c (.lit (.slice none 0 0)), .c (.lit (str ([] : Bytes))), .c (.lit (.slice none 0 0))]) Tryz.et55.zero Tryz.et55.one (by rfl)) ?_
              refine R.eff Gd.no (E.storeB 0 rfl rfl rfl rfl Tryz.sizeOf55 rfl rfl rfl) ?_
              refine R.nil ?_
              refine Tri.seq ?_
              refine Tri.weak (Weak.perm (perm_idx [4, 0, 1, 2, 3, 5, 6] rfl)) ?_
              refine Tri.draw 9 rfl rfl [(o14, .map .string 3 (mapOf (fun s : Bytes => str s) evI v40))] [(nx_44, .box 55 [.c (.lit (.int .i64 x46.id)), .c (.lit (.int .i64 x46.parent)), .c (.ro 1 false (x46.kids.map encI)), .c (.lit (str x46.text)), .c (.ro 6 false (x46.props.map encP))]), (o11, .box 51 [.c (.ro 5 false (s30.1.map encB)), .obj o12, .obj o13, .obj o14, .obj o15]), (o12, .map (.int .i64) 3 (mapOf (fun n : Int => Value.int .i64 n) evI s30.2.1)), (o13, .map (.int .i64) 3 (mapOf (fun n : Int => Value.int .i64 n) evI s30.2.2.1)), (o15, .map .string 3 (mapOf (fun s : Bytes => str s) evI v41)), (o42, .row 3 1 (rowOf encI r36.1))] rfl ?_
              refine TAny.flo 0 rfl (by decide +kernel) (by decide +kernel) (by decide +kernel) Gd.no (Y.move rfl) ?_
              refine TAny.flo 1 rfl (by decide +kernel) (by decide +kernel) (by decide +kernel) Gd.no (Y.nilP rfl) ?_
              refine TAny.flo 2 rfl (by decide +kernel) (by decide +kernel) (by decide +kernel) Gd.no (Y.fieldP Tryz.fo51_3 rfl) ?_
              refine TAny.flo 3 rfl (by decide +kernel) (by decide +kernel) (by decide +kernel) Gd.no (Y.loadB1 rfl 1 rfl rfl Tryz.isAgg49) ?_
              refine TAny.flo 4 rfl (by decide +kernel) (by decide +kernel) (by decide +kernel) Gd.no (Y.fieldP Tryz.fo55_3 rfl) ?_
              refine TAny.flo 5 rfl (by decide +kernel) (by decide +kernel) (by decide +kernel) Gd.no (Y.loadB1 rfl 0 rfl rfl Tryz.isAgg9) ?_
              refine TAny.flo 7 rfl (by decide +kernel) (by decide +kernel) (by decide +kernel) Gd.no (Y.move rfl) ?_
              refine TAny.lists (HE' := [] ++ [(o14, .map .string 3 (mapOf (fun s : Bytes => str s) evI v40))]) (HS' := [(nx_44, .box 55 [.c (.lit (.int .i64 x46.id)), .c (.lit (.int .i64 x46.parent)), .c (.ro 1 false (x46.kids.map encI)), .c (.lit (str x46.text)), .c (.ro 6 false (x46.props.map encP))]), (o11, .box 51 [.c (.ro 5 false (s30.1.map encB)), .obj o12, .obj o13, .obj o14, .obj o15]), (o12, .map (.int .i64) 3 (mapOf (fun n : Int => Value.int .i64 n) evI s30.2.1)), (o13, .map (.int .i64) 3 (mapOf (fun n : Int => Value.int .i64 n) evI s30.2.2.1)), (o15, .map .string 3 (mapOf (fun s : Bytes => str s) evI v41)), (o42, .row 3 1 (rowOf encI r36.1))]) (perm_idx [0, 1, 2, 3, 4, 5, 6] rfl) (sub_idx [0] rfl) ?_
              replace hr := bind_inv hr
              obtain ⟨r48, hcr48, hr⟩ := hr
              refine TAny.call 6 rfl (by decide +kernel) Gd.no Tryz.en9 rfl (ok_link_FoldTitle hcr48 (nx_44 + 1)) (fun _ _ nx_49 hq => ?_)
              obtain ⟨rfl, rfl⟩ := hq
              refine TAny.lists (HE' := [(o14, .map .string 3 (mapOf (fun s : Bytes => str s) evI v40))] ++ []) (HS' := [(nx_44, .box 55 [.c (.lit (.int .i64 x46.id)), .c (.lit (.int .i64 x46.parent)), .c (.ro 1 false (x46.kids.map encI)), .c (.lit (str x46.text)), .c (.ro 6 false (x46.props.map encP))]), (o11, .box 51 [.c (.ro 5 false (s30.1.map encB)), .obj o12, .obj o13, .obj o14, .obj o15]), (o12, .map (.int .i64) 3 (mapOf (fun n : Int => Value.int .i64 n) evI s30.2.1)), (o13, .map (.int .i64) 3 (mapOf (fun n : Int => Value.int .i64 n) evI s30.2.2.1)), (o15, .map .string 3 (mapOf (fun s : Bytes => str s) evI v41)), (o42, .row 3 1 (rowOf encI r36.1))]) (perm_idx [0, 1, 2, 3, 4, 5, 6] rfl) (sub_idx [0] rfl) ?_
              replace hr := bind_inv hr
              obtain ⟨r50, hcr50, hr⟩ := hr
              refine TAny.call 8 rfl (by decide +kernel) Gd.no Tryz.en30 rfl (ok_link_keep_65f5 hcr50 o14 nx_49) (fun _ _ nx_51 hq => ?_)
              obtain ⟨rfl, rfl⟩ := hq
              refine TAny.done (by decide +kernel) ?_
              refine Tri.seq ?_
              refine Tri.region ?_
              refine R.flo Gd.no (Y.loadBN rfl 1 rfl Tryz.isAgg55 Tryz.sizeOf55 rfl rfl) ?_
              replace hr := bind_inv hr
              obtain ⟨r52, hcr52, hr⟩ := hr
              refine R.call (H1 := []) (H2 := [(o14, .map .string 3 (mapOf (fun s : Bytes => str s) evI r50)), (nx_44, .box 55 [.c (.lit (.int .i64 x46.id)), .c (.lit (.int .i64 x46.parent)), .c (.ro 1 false (x46.kids.map encI)), .c (.lit (str x46.text)), .c (.ro 6 false (x46.props.map encP))]), (o11, .box 51 [.c (.ro 5 false (s30.1.map encB)), .obj o12, .obj o13, .obj o14, .obj o15]), (o12, .map (.int .i64) 3 (mapOf (fun n : Int => Value.int .i64 n) evI s30.2.1)), (o13, .map (.int .i64) 3 (mapOf (fun n : Int => Value.int .i64 n) evI s30.2.2.1)), (o15, .map .string 3 (mapOf (fun s : Bytes => str s) evI v41)), (o42, .row 3 1 (rowOf encI r36.1))]) Gd.no Tryz.en31 rfl (ok_link_aliasesOf hcr52 nx_51) (perm_idx [0, 1, 2, 3, 4, 5, 6] rfl) (fun _ _ nx_53 hq => ?_)
              obtain ⟨rfl, rfl⟩ := hq
              refine TOps.fact (Fact.lenR (x := .tmp 86) (n := r52.length) rfl (List.length_map ..)) (fun hl54 => ?_)
              refine R.flo Gd.no (Y.lenR (m := r52.length) Tryz.underlying26 rfl rfl (List.length_map ..)) ?_
              refine R.flo Gd.no (Y.move rfl) ?_
              refine R.nil ?_
              replace hr := bind_inv hr
              obtain ⟨x63, hr, hox63⟩ := hr
              refine Tri.meet1 (α := ((List (Bytes × Int))) × Nat) (fun ⟨s64, nx_65⟩ => s64 = x63) (fun ⟨s64, nx_65⟩ => ⟨103, [(0, some (.v (.one (.c (.ro 5 false (base.map encB)))))), (5, some (.v (.one (.ptr o11 0 0)))), (61, some (.v (.one (.obj o42)))), (62, some (.v (.one (.c (.lit (.int .i64 ((r36.1.length : Int)))))))), (63, some (.v (.one (.c (.lit (.int .i64 ((v43 : Int))))))))], [(o11, .box 51 [.c (.ro 5 false (s30.1.map encB)), .obj o12, .obj o13, .obj o14, .obj o15]), (o12, .map (.int .i64) 3 (mapOf (fun n : Int => Value.int .i64 n) evI s30.2.1)), (o13, .map (.int .i64) 3 (mapOf (fun n : Int => Value.int .i64 n) evI s30.2.2.1)), (o14, .map .string 3 (mapOf (fun s : Bytes => str s) evI r50)), (o15, .map .string 3 (mapOf (fun s : Bytes => str s) evI s64)), (o42, .row 3 1 (rowOf encI r36.1))], nx_65⟩) ?_ (fun ⟨s64, nx_65⟩ hx => ?_)
              · refine Tri.block ?_
                refine Tri.loop (α := Nat × (List (Bytes × Int)) × Nat) (fun ⟨v56, v55, nx_57⟩ => v56 ≤ r52.length ∧ f_link_look_l4 x45 (r52.drop v56) v55 = some x63) (fun ⟨v56, v55, nx_57⟩ => ⟨103, [(0, some (.v (.one (.c (.ro 5 false (base.map encB)))))), (5, some (.v (.one (.ptr o11 0 0)))), (11, some (.v (.one (.c (.lit (.int .i64 x45)))))), (61, some (.v (.one (.obj o42)))), (62, some (.v (.one (.c (.lit (.int .i64 ((r36.1.length : Int)))))))), (63, some (.v (.one (.c (.lit (.int .i64 ((v43 : Int)))))))), (86, some (.v (.one (.c (.ro 1 false (r52.map encS)))))), (87, some (.v (.one (.c (.lit (.int .i64 ((r52.length : Int)))))))), (88, some (.v (.one (.c (.lit (.int .i64 ((v56 : Int))))))))], [(o11, .box 51 [.c (.ro 5 false (s30.1.map encB)), .obj o12, .obj o13, .obj o14, .obj o15]), (o12, .map (.int .i64) 3 (mapOf (fun n : Int => Value.int .i64 n) evI s30.2.1)), (o13, .map (.int .i64) 3 (mapOf (fun n : Int => Value.int .i64 n) evI s30.2.2.1)), (o14, .map .string 3 (mapOf (fun s : Bytes => str s) evI r50)), (o15, .map .string 3 (mapOf (fun s : Bytes => str s) evI v55)), (o42, .row 3 1 (rowOf encI r36.1))], nx_57⟩) (fun ⟨v56, v55, nx_57⟩ => r52.length - v56) ⟨0, v41, nx_53⟩ ?_ (Weak.to [0, 5, 11, 61, 62, 63, 86, 87, 88] [2, 3, 4, 0, 5, 6] rfl) ?_
                · exact ⟨Nat.zero_le _, hr⟩
                · rintro ⟨v56, v55, nx_57⟩ ⟨hk, hr⟩
                  refine Tri.seq ?_
                  refine Tri.region ?_
                  refine R.flo Gd.no (Y.lssI rfl rfl) ?_
                  refine R.nil ?_
                  refine Tri.seq ?_
                  refine Tri.cond rfl (fun hc => ?_) (fun hc => ?_)
                  · have hk := lt_of_dec hc
                    obtain ⟨x58, hx58⟩ := get_of_lt hk
                    rw [drop_at hx58, f_link_look_l4] at hr
                    refine Tri.skip ?_
                    refine Tri.seq ?_
                    refine Tri.block ?_
                    refine Tri.seq ?_
                    refine Tri.region ?_
                    refine R.flo Gd.no (Y.idxR v56 Tryz.underlying26 Tryz.sizeOf9 rfl rfl (map_get hx58)) ?_
                    refine R.flo Gd.no (Y.loadP1 rfl rfl Tryz.isAgg9) ?_
                    refine R.flo Gd.no (Y.assign rfl) ?_
                    refine R.nil ?_
                    refine Tri.weak (Weak.perm (perm_idx [4, 0, 1, 2, 3, 5] rfl)) ?_
                    refine Tri.draw 8 rfl rfl [(o15, .map .string 3 (mapOf (fun s : Bytes => str s) evI v55))] [(o11, .box 51 [.c (.ro 5 false (s30.1.map encB)), .obj o12, .obj o13, .obj o14, .obj o15]), (o12, .map (.int .i64) 3 (mapOf (fun n : Int => Value.int .i64 n) evI s30.2.1)), (o13, .map (.int .i64) 3 (mapOf (fun n : Int => Value.int .i64 n) evI s30.2.2.1)), (o14, .map .string 3 (mapOf (fun s : Bytes => str s) evI r50)), (o42, .row 3 1 (rowOf encI r36.1))] rfl ?_
                    refine TAny.flo 0 rfl (by decide +kernel) (by decide +kernel) (by decide +kernel) Gd.no (Y.move rfl) ?_
                    refine TAny.flo 1 rfl (by decide +kernel) (by decide +kernel) (by decide +kernel) Gd.no (Y.nilP rfl) ?_
                    refine TAny.flo 2 rfl (by decide +kernel) (by decide +kernel) (by decide +kernel) Gd.no (Y.fieldP Tryz.fo51_4 rfl) ?_
                    refine TAny.flo 3 rfl (by decide +kernel) (by decide +kernel) (by decide +kernel) Gd.no (Y.loadB1 rfl 0 rfl rfl Tryz.isAgg49) ?_
                    refine TAny.flo 4 rfl (by decide +kernel) (by decide +kernel) (by decide +kernel) Gd.no (Y.move rfl) ?_
                    refine TAny.flo 6 rfl (by decide +kernel) (by decide +kernel) (by decide +kernel) Gd.no (Y.move rfl) ?_
                    refine TAny.lists (HE' := [] ++ [(o15, .map .string 3 (mapOf (fun s : Bytes => str s) evI v55))]) (HS' := [(o11, .box 51 [.c (.ro 5 false (s30.1.map encB)), .obj o12, .obj o13, .obj o14, .obj o15]), (o12, .map (.int .i64) 3 (mapOf (fun n : Int => Value.int .i64 n) evI s30.2.1)), (o13, .map (.int .i64) 3 (mapOf (fun n : Int => Value.int .i64 n) evI s30.2.2.1)), (o14, .map .string 3 (mapOf (fun s : Bytes => str s) evI r50)), (o42, .row 3 1 (rowOf encI r36.1))]) (perm_idx [0, 1, 2, 3, 4, 5] rfl) (sub_idx [0] rfl) ?_
                    replace hr := bind_inv hr
                    obtain ⟨r59, hcr59, hr⟩ := hr
                    refine TAny.call 5 rfl (by decide +kernel) Gd.no Tryz.en9 rfl (ok_link_FoldTitle hcr59 nx_57) (fun _ _ nx_60 hq => ?_)
                    obtain ⟨rfl, rfl⟩ := hq
                    refine TAny.lists (HE' := [(o15, .map .string 3 (mapOf (fun s : Bytes => str s) evI v55))] ++ []) (HS' := [(o11, .box 51 [.c (.ro 5 false (s30.1.map encB)), .obj o12, .obj o13, .obj o14, .obj o15]), (o12, .map (.int .i64) 3 (mapOf (fun n : Int => Value.int .i64 n) evI s30.2.1)), (o13, .map (.int .i64) 3 (mapOf (fun n : Int => Value.int .i64 n) evI s30.2.2.1)), (o14, .map .string 3 (mapOf (fun s : Bytes => str s) evI r50)), (o42, .row 3 1 (rowOf encI r36.1))]) (perm_idx [0, 1, 2, 3, 4, 5] rfl) (sub_idx [0] rfl) ?_
                    replace hr := bind_inv hr
                    obtain ⟨r61, hcr61, hr⟩ := hr
                    refine TAny.call 7 rfl (by decide +kernel) Gd.no Tryz.en30 rfl (ok_link_keep_65f5 hcr61 o15 nx_60) (fun _ _ nx_62 hq => ?_)
                    obtain ⟨rfl, rfl⟩ := hq
                    refine TAny.done (by decide +kernel) ?_
                    refine Tri.region ?_
                    refine R.flo Gd.no (Y.addI rfl rfl (by omega) (by unfold maxLen at *; omega)) ?_
                    refine R.flo Gd.no (Y.move rfl) ?_
                    refine R.nil ?_
                    refine back_mk ⟨v56 + 1, r61, nx_62⟩ ⟨hk, hr⟩ (mu_dec hk) (Weak.to [0, 5, 11, 61, 62, 63, 86, 87, 88] [1, 2, 3, 4, 0, 5] rfl)
                  · rw [drop_end (nlt_of_dec hc), f_link_look_l4] at hr
                    refine Tri.exit ?_
                    have hx := Option.some.inj hr
                    subst hx
                    refine meet_mk ⟨v55, nx_57⟩ rfl (Weak.to [0, 5, 61, 62, 63] [0, 1, 2, 3, 4, 5] rfl)
              · subst hx
                have hr := hox63
                refine Tri.region ?_
                refine R.flo Gd.no (Y.addI rfl rfl (by omega) (by unfold maxLen at *; omega)) ?_
                refine R.flo Gd.no (Y.move rfl) ?_
                refine R.nil ?_
                refine back_mk ⟨v43 + 1, r50, s64, o42, nx_65⟩ ⟨hk, hr⟩ (mu_dec hk) (Weak.to [0, 5, 61, 62, 63] [0, 1, 2, 3, 4, 5] rfl)
            · rw [drop_end (nlt_of_dec hc), f_link_look_l3] at hr
              refine Tri.exit ?_
              have hx := Option.some.inj hr
              subst hx
              refine meet_mk ⟨(v40, v41), nx_44⟩ rfl (Weak.to [5] [0, 1, 2, 3, 4] rfl)
        · subst hx
          have hr := hox66
          refine Tri.seq ?_
          refine Tri.region ?_
          refine R.flo Gd.no (Y.move rfl) ?_
          refine R.flo Gd.no (Y.assign rfl) ?_
          refine R.flo Gd.no (Y.assign rfl) ?_
          refine R.nil ?_
          refine Tri.ret ?_
          have hx := Option.some.inj hr
          subst hx
          exact ⟨.inl rfl, _, .inr (.inr (.inl ⟨_, _, _, _, rfl, rfl, rfl, rfl⟩)), (sumP_r ⟨o11, o12, o13, o14, o15, rfl, rfl⟩)⟩
theorem ok_link_view_lead_5076 {v : List Block} {v2 : List (Int × Int)} {v3 : List (Int × Int)} {v4 : List (Bytes × Int)} {v5 : List (Bytes × Int)} {title : Bytes} {r : Int × (List Block) × (List (Int × Int)) × (List (Int × Int)) × (List (Bytes × Int)) × (List (Bytes × Int))} (hr : f_link_view_lead_5076 v v2 v3 v4 v5 title = some r) (o : Nat) (o2 : Nat) (o3 : Nat) (o4 : Nat) (o5 : Nat) (nx : Nat) : OkH Tryz.prog 12 [.one (.ptr o 0 0), .one (.c (.lit (str title)))] [(o, .box 51 [.c (.ro 5 false (v.map encB)), .obj o2, .obj o3, .obj o4, .obj o5]), (o2, .map (.int .i64) 3 (mapOf (fun n : Int => Value.int .i64 n) evI v2)), (o3, .map (.int .i64) 3 (mapOf (fun n : Int => Value.int .i64 n) evI v3)), (o4, .map .string 3 (mapOf (fun s : Bytes => str s) evI v4)), (o5, .map .string 3 (mapOf (fun s : Bytes => str s) evI v5))] nx fun v H' _ => v = .v (.one (.c (.lit (.int .i64 r.1)))) ∧ H' = [(o, .box 51 [.c (.ro 5 false (r.2.1.map encB)), .obj o2, .obj o3, .obj o4, .obj o5]), (o2, .map (.int .i64) 3 (mapOf (fun n : Int => Value.int .i64 n) evI r.2.2.1)), (o3, .map (.int .i64) 3 (mapOf (fun n : Int => Value.int .i64 n) evI r.2.2.2.1)), (o4, .map .string 3 (mapOf (fun s : Bytes => str s) evI r.2.2.2.2.1)), (o5, .map .string 3 (mapOf (fun s : Bytes => str s) evI r.2.2.2.2.2))] := by
  refine OkH.intro Tryz.func12 rfl Tryz.ntmps12 (by simp) ?_
  unfold f_link_view_lead_5076 at hr
  refine Tri.seq ?_
  refine Tri.region ?_
  refine R.flo Gd.no (Y.assign rfl) ?_
  refine R.nil ?_
  refine Tri.seq ?_
  refine Tri.region ?_
  refine R.flo Gd.no (Y.move rfl) ?_
  replace hr := bind_inv hr
  obtain ⟨r1, hcr1, hr⟩ := hr
  refine R.call (H1 := []) (H2 := [(o, .box 51 [.c (.ro 5 false (v.map encB)), .obj o2, .obj o3, .obj o4, .obj o5]), (o2, .map (.int .i64) 3 (mapOf (fun n : Int => Value.int .i64 n) evI v2)), (o3, .map (.int .i64) 3 (mapOf (fun n : Int => Value.int .i64 n) evI v3)), (o4, .map .string 3 (mapOf (fun s : Bytes => str s) evI v4)), (o5, .map .string 3 (mapOf (fun s : Bytes => str s) evI v5))]) Gd.no Tryz.en9 rfl (ok_link_FoldTitle hcr1 nx) (perm_idx [0, 1, 2, 3, 4] rfl) (fun _ _ nx_2 hq => ?_)
  obtain ⟨rfl, rfl⟩ := hq
  refine R.flo Gd.no (Y.assign rfl) ?_
  refine R.nil ?_
  refine Tri.seq ?_
  refine Tri.seq ?_
  refine Tri.region ?_
  refine R.flo Gd.no (Y.move rfl) ?_
  refine R.flo Gd.no (Y.nilP rfl) ?_
  refine R.flo Gd.no (Y.fieldP Tryz.fo51_3 rfl) ?_
  refine R.flo Gd.no (Y.loadB1 rfl 0 rfl rfl Tryz.isAgg49) ?_
  refine R.flo Gd.no (Y.move rfl) ?_
  refine R.flo Gd.no (Y.lookup2 3 rfl Tryz.underlying49 Tryz.underlying9 keyS rfl rfl Tryz.et3.zero zvI) ?_
  refine R.flo Gd.no (Y.move rfl) ?_
  refine R.flo Gd.no (Y.extract rfl rfl) ?_
  refine R.flo Gd.no (Y.extract rfl rfl) ?_
  refine R.flo Gd.no (Y.assign rfl) ?_
  refine R.flo Gd.no (Y.assign rfl) ?_
  refine R.nil ?_
  refine Tri.seq ?_
  refine Tri.region ?_
  refine R.flo Gd.no (Y.move rfl) ?_
  refine R.nil ?_
  refine Tri.cond rfl (fun hc3 => ?_) (fun hc3 => ?_)
  · replace hr := cond_t hc3 hr
    refine Tri.seq ?_
    refine Tri.region ?_
    refine R.flo Gd.no (Y.move rfl) ?_
    refine R.flo Gd.no (Y.assign rfl) ?_
    refine R.nil ?_
    refine Tri.ret ?_
    have hx := Option.some.inj hr
    subst hx
    exact ⟨.inl rfl, _, .inr (.inl ⟨_, _, rfl, rfl, rfl⟩), ⟨rfl, rfl⟩⟩
  · replace hr := cond_f hc3 hr
    refine Tri.skip ?_
    refine Tri.seq ?_
    refine Tri.region ?_
    refine R.flo Gd.no (Y.move rfl) ?_
    refine R.flo Gd.no (Y.nilP rfl) ?_
    refine R.flo Gd.no (Y.fieldP Tryz.fo51_4 rfl) ?_
    refine R.flo Gd.no (Y.loadB1 rfl 0 rfl rfl Tryz.isAgg49) ?_
    refine R.flo Gd.no (Y.move rfl) ?_
    refine R.flo Gd.no (Y.lookup1 4 rfl Tryz.underlying49 Tryz.underlying9 keyS rfl rfl Tryz.et3.zero zvI) ?_
    refine R.flo Gd.no (Y.assign rfl) ?_
    refine R.nil ?_
    refine Tri.ret ?_
    have hx := Option.some.inj hr
    subst hx
    exact ⟨.inl rfl, _, .inr (.inl ⟨_, _, rfl, rfl, rfl⟩), ⟨rfl, rfl⟩⟩
theorem ok_link_Page {base : List Block} {title : Bytes} {r : Int × Int} (hr : f_link_Page base title = some r) (nx : Nat) : OkH Tryz.prog 4 [.one (.c (.ro 5 false (base.map encB))), .one (.c (.lit (str title)))] [] nx fun v H' _ => v = .tup [.one (.c (.lit (.int .i64 r.1))), .one (.c (.lit (.int .i64 r.2)))] ∧ H' = [] := by
  refine OkH.intro Tryz.func4 rfl Tryz.ntmps4 (by simp) ?_
  unfold f_link_Page at hr
  refine Tri.seq ?_
  refine Tri.region ?_
  refine R.flo Gd.no (Y.assign rfl) ?_
  refine R.flo Gd.no (Y.assign rfl) ?_
  refine R.nil ?_
  refine Tri.seq ?_
  refine Tri.region ?_
  refine R.flo Gd.no (Y.move rfl) ?_
  replace hr := bind_inv hr
  obtain ⟨(r1_c0 | r1_c1), hcr1, hr⟩ := hr
  · replace hr := (sum_l hr)
    refine R.call (H1 := []) (H2 := []) Gd.no Tryz.en11 rfl (ok_link_look hcr1 nx) (perm_idx [] rfl) (fun _ _ nx_2 hq => ?_)
    obtain ⟨rfl, rfl⟩ := hq
    refine R.flo Gd.no (Y.move rfl) ?_
    refine R.flo Gd.no (Y.extract rfl rfl) ?_
    refine R.flo Gd.no (Y.extract rfl rfl) ?_
    refine R.flo Gd.no (Y.assign rfl) ?_
    refine R.flo Gd.no (Y.assign rfl) ?_
    refine R.nil ?_
    refine Tri.seq ?_
    refine Tri.seq ?_
    refine Tri.region ?_
    refine R.flo Gd.no (Y.move rfl) ?_
    refine R.flo Gd.no (Y.neqI rfl rfl) ?_
    refine R.nil ?_
    refine Tri.cond rfl (fun hc3 => ?_) (fun hc3 => ?_)
    · replace hr := cond_t hc3 hr
      refine Tri.seq ?_
      refine Tri.region ?_
      refine R.flo Gd.no (Y.move rfl) ?_
      refine R.flo Gd.no (Y.assign rfl) ?_
      refine R.flo Gd.no (Y.assign rfl) ?_
      refine R.nil ?_
      refine Tri.ret ?_
      have hx := Option.some.inj hr
      subst hx
      exact ⟨.inl rfl, _, .inr (.inr (.inl ⟨_, _, _, _, rfl, rfl, rfl, rfl⟩)), ⟨rfl, rfl⟩⟩
    · replace hr := cond_f hc3 hr
      refine Tri.skip ?_
      refine Tri.seq ?_
      refine Tri.region ?_
      refine R.flo Gd.no (Y.move rfl) ?_
      refine R.flo Gd.no (Y.move rfl) ?_
      cases hr
  · replace hr := (sum_r hr)
    refine R.call (H1 := []) (H2 := []) Gd.no Tryz.en11 rfl (ok_link_look hcr1 nx) (perm_idx [] rfl) (fun _ _ nx_9 hq => ?_)
    obtain ⟨o4, o5, o6, o7, o8, rfl, rfl⟩ := hq
    refine R.flo Gd.no (Y.move rfl) ?_
    refine R.flo Gd.no (Y.extract rfl rfl) ?_
    refine R.flo Gd.no (Y.extract rfl rfl) ?_
    refine R.flo Gd.no (Y.assign rfl) ?_
    refine R.flo Gd.no (Y.assign rfl) ?_
    refine R.nil ?_
    refine Tri.seq ?_
    refine Tri.seq ?_
    refine Tri.region ?_
    refine R.flo Gd.no (Y.move rfl) ?_
    refine R.flo Gd.no (Y.neqI rfl rfl) ?_
    refine R.nil ?_
    refine Tri.cond rfl (fun hc10 => ?_) (fun hc10 => ?_)
    · replace hr := cond_t hc10 hr
      refine Tri.seq ?_
      refine Tri.region ?_
      refine R.flo Gd.no (Y.move rfl) ?_
      refine R.flo Gd.no (Y.assign rfl) ?_
      refine R.flo Gd.no (Y.assign rfl) ?_
      refine R.nil ?_
      refine Tri.weak (Weak.to [4, 5] [] rfl) ?_
      refine Tri.ret ?_
      have hx := Option.some.inj hr
      subst hx
      exact ⟨.inl rfl, _, .inr (.inr (.inl ⟨_, _, _, _, rfl, rfl, rfl, rfl⟩)), ⟨rfl, rfl⟩⟩
    · replace hr := cond_f hc10 hr
      refine Tri.skip ?_
      refine Tri.seq ?_
      refine Tri.region ?_
      refine R.flo Gd.no (Y.move rfl) ?_
      refine R.flo Gd.no (Y.move rfl) ?_
      replace hr := bind_inv hr
      obtain ⟨r11, hcr11, hr⟩ := hr
      refine R.call (H1 := [(o4, .box 51 [.c (.ro 5 false (r1_c1.1.map encB)), .obj o5, .obj o6, .obj o7, .obj o8]), (o5, .map (.int .i64) 3 (mapOf (fun n : Int => Value.int .i64 n) evI r1_c1.2.1)), (o6, .map (.int .i64) 3 (mapOf (fun n : Int => Value.int .i64 n) evI r1_c1.2.2.1)), (o7, .map .string 3 (mapOf (fun s : Bytes => str s) evI r1_c1.2.2.2.1)), (o8, .map .string 3 (mapOf (fun s : Bytes => str s) evI r1_c1.2.2.2.2.1))]) (H2 := []) Gd.no Tryz.en12 rfl (ok_link_view_lead_5076 hcr11 o4 o5 o6 o7 o8 nx_9) (perm_idx [0, 1, 2, 3, 4] rfl) (fun _ _ nx_12 hq => ?_)
      obtain ⟨rfl, rfl⟩ := hq
      refine R.flo Gd.no (Y.assign rfl) ?_
      refine R.nil ?_
      refine Tri.seq ?_
      refine Tri.seq ?_
      refine Tri.region ?_
      refine R.flo Gd.no (Y.move rfl) ?_
      refine R.flo Gd.no (Y.eqlI rfl rfl) ?_
      refine R.nil ?_
      refine Tri.cond rfl (fun hc13 => ?_) (fun hc13 => ?_)
      · replace hr := cond_t hc13 hr
        refine Tri.seq ?_
        refine Tri.region ?_
        refine R.flo Gd.no (Y.assign rfl) ?_
        refine R.flo Gd.no (Y.assign rfl) ?_
        refine R.nil ?_
        refine Tri.weak (Weak.to [4, 5] [] rfl) ?_
        refine Tri.ret ?_
        have hx := Option.some.inj hr
        subst hx
        exact ⟨.inl rfl, _, .inr (.inr (.inl ⟨_, _, _, _, rfl, rfl, rfl, rfl⟩)), ⟨rfl, rfl⟩⟩
      · replace hr := cond_f hc13 hr
        refine Tri.skip ?_
        refine Tri.seq ?_
        refine Tri.region ?_
        refine R.flo Gd.no (Y.move rfl) ?_
        refine R.flo Gd.no (Y.assign rfl) ?_
        refine R.flo Gd.no (Y.assign rfl) ?_
        refine R.nil ?_
        refine Tri.weak (Weak.to [4, 5] [] rfl) ?_
        refine Tri.ret ?_
        have hx := Option.some.inj hr
        subst hx
        exact ⟨.inl rfl, _, .inr (.inr (.inl ⟨_, _, _, _, rfl, rfl, rfl, rfl⟩)), ⟨rfl, rfl⟩⟩
theorem ok_florref1_below {s : Bytes} {r : Bool} (hr : f_florref1_below s = some r) (nx : Nat) : OkH Tryz.prog 73 [.one (.c (.lit (str s)))] [] nx fun v H' _ => v = .v (.one (.c (.lit (.bool r)))) ∧ H' = [] := by
  refine OkH.intro Tryz.func73 rfl Tryz.ntmps73 (by simp) ?_
  unfold f_florref1_below at hr
  refine Tri.seq ?_
  refine Tri.region ?_
  refine R.flo Gd.no (Y.assign rfl) ?_
  refine R.nil ?_
  refine Tri.seq ?_
  refine Tri.seq ?_
  refine Tri.region ?_
  refine R.flo Gd.no (Y.assign rfl) ?_
  refine R.nil ?_
  replace hr := bind_inv hr
  obtain ⟨x11, hr, hox11⟩ := hr
  refine Tri.meet1 (α := Unit × Nat) (fun ⟨s12, nx_13⟩ => (.inl s12) = x11) (fun ⟨s12, nx_13⟩ => ⟨20, [], [], nx_13⟩) ?_ (fun ⟨s12, nx_13⟩ hx => ?_)
  · refine Tri.block ?_
    refine Tri.loop (α := Nat × Nat × Nat) (fun ⟨fuel16, i1, nx_2⟩ => f_florref1_below_l1 s fuel16 i1 = some x11) (fun ⟨fuel16, i1, nx_2⟩ => ⟨20, [(0, some (.v (.one (.c (.lit (str s)))))), (3, some (.v (.one (.c (.lit (.int .i64 ((i1 : Int))))))))], [], nx_2⟩) (fun ⟨fuel16, i1, nx_2⟩ => fuel16) ⟨FUEL, 0, nx⟩ ?_ (Weak.to [0, 3] [] rfl) ?_
    · exact hr
    · rintro ⟨fuel16, i1, nx_2⟩ (hr : f_florref1_below_l1 s fuel16 i1 = some x11)
      cases fuel16 with
      | zero => rw [f_florref1_below_l1] at hr; cases hr
      | succ fuel16 =>
        rw [f_florref1_below_l1] at hr
        refine Tri.seq ?_
        refine Tri.seq ?_
        refine Tri.region ?_
        refine R.flo Gd.no (Y.move rfl) ?_
        refine R.flo Gd.no (Y.move rfl) ?_
        refine R.flo Gd.no (Y.lenS Tryz.underlying9 rfl rfl) ?_
        refine R.flo Gd.no (Y.lssI rfl rfl) ?_
        refine R.nil ?_
        refine Tri.cond rfl (fun hc3 => ?_) (fun hc3 => ?_)
        · replace hr := cond_t hc3 hr
          refine Tri.skip ?_
          refine Tri.seq ?_
          refine Tri.block ?_
          replace hr := bind_inv hr
          obtain ⟨x7, hr, hox7⟩ := hr
          refine Tri.meet (α := Bool × Nat) (fun ⟨s8, nx_9⟩ => s8 = x7) (fun ⟨s8, nx_9⟩ => ⟨20, [(0, some (.v (.one (.c (.lit (str s)))))), (3, some (.v (.one (.c (.lit (.int .i64 ((i1 : Int)))))))), (19, some (.v (.one (.c (.lit (.bool s8))))))], [], nx_9⟩) ?_ (fun ⟨s8, nx_9⟩ hx => ?_)
          · refine Tri.region ?_
            refine R.flo Gd.no (Y.move rfl) ?_
            refine R.flo Gd.no (Y.move rfl) ?_
            replace hr := bind_inv hr
            obtain ⟨c4, hc4, hr⟩ := hr
            refine R.flo Gd.no (Y.idxS i1 Tryz.underlying9 rfl rfl hc4) ?_
            refine R.flo Gd.no (Y.lssI rfl rfl) ?_
            refine R.flo Gd.no (Y.move rfl) ?_
            refine TOps.part (b := decide ((c4.toNat : Int) < (32 : Int))) (fun bhb5 hb5 => ?_)
            cases bhb5
            · rw [hb5]; replace hr := cond_f hb5 hr
              refine R.flo (Gd.t 4 false 14 rfl rfl) (Y.move rfl) ?_
              refine R.flo (Gd.t 4 false 14 rfl rfl) (Y.move rfl) ?_
              replace hr := bind_inv hr
              obtain ⟨c6, hc6, hr⟩ := hr
              refine R.flo (Gd.t 4 false 14 rfl rfl) (Y.idxS i1 Tryz.underlying9 rfl rfl hc6) ?_
              refine R.flo (Gd.t 4 false 14 rfl rfl) (Y.eqlI rfl rfl) ?_
              refine R.flo Gd.no (Y.pickF rfl rfl) ?_
              refine R.nil ?_
              have hx := Option.some.inj hr
              subst hx
              refine meet_mk ⟨decide ((c6.toNat : Int) = (127 : Int)), nx_2⟩ rfl (Weak.to [0, 3, 19] [] rfl)
            · rw [hb5]; replace hr := cond_t hb5 hr
              refine R.skip (.f 4 true 14 rfl rfl) ?_
              refine R.skip (.f 4 true 14 rfl rfl) ?_
              refine R.skip (.f 4 true 14 rfl rfl) ?_
              refine R.skip (.f 4 true 14 rfl rfl) ?_
              refine R.flo Gd.no (Y.pickT rfl rfl) ?_
              refine R.nil ?_
              have hx := Option.some.inj hr
              subst hx
              refine meet_mk ⟨true, nx_2⟩ rfl (Weak.to [0, 3, 19] [] rfl)
          · subst hx
            have hr := hox7
            refine Tri.cond rfl (fun hc10 => ?_) (fun hc10 => ?_)
            · replace hr := cond_t hc10 hr
              refine Tri.seq ?_
              refine Tri.region ?_
              refine R.flo Gd.no (Y.assign rfl) ?_
              refine R.nil ?_
              have hx := Option.some.inj hr
              subst hx
              have hr := sum_r hox11
              refine Tri.ret ?_
              have hx := Option.some.inj hr
              subst hx
              exact ⟨.inl rfl, _, .inr (.inl ⟨_, _, rfl, rfl, rfl⟩), ⟨rfl, rfl⟩⟩
            · replace hr := cond_f hc10 hr
              refine Tri.skip ?_
              refine Tri.region ?_
              refine R.flo Gd.no (Y.move rfl) ?_
              replace hr := ckI_inv hr
              obtain ⟨ha, hb, hr⟩ := hr
              refine R.flo Gd.no (Y.addI rfl rfl ha hb) ?_
              refine R.flo Gd.no (Y.assign rfl) ?_
              refine R.nil ?_
              refine back_mk ⟨fuel16, i1 + 1, nx_9⟩ hr (Nat.lt_succ_self _) (Weak.to [0, 3] [] rfl)
        · replace hr := cond_f hc3 hr
          refine Tri.exit ?_
          have hx := Option.some.inj hr
          subst hx
          refine meet_mk ⟨(), nx_2⟩ rfl (Weak.to [] [] rfl)
  · subst hx
    have hr := sum_l hox11
    refine Tri.seq ?_
    refine Tri.region ?_
    refine R.flo Gd.no (Y.assign rfl) ?_
    refine R.nil ?_
    refine Tri.ret ?_
    have hx := Option.some.inj hr
    subst hx
    exact ⟨.inl rfl, _, .inr (.inl ⟨_, _, rfl, rfl, rfl⟩), ⟨rfl, rfl⟩⟩
theorem ok_florref1_TextError {s : Bytes} {r : Int} (hr : f_florref1_TextError s = some r) (nx : Nat) : OkH Tryz.prog 56 [.one (.c (.lit (str s)))] [] nx fun v H' _ => v = .v (.one (.c (.lit (.int .i64 r)))) ∧ H' = [] := by
  refine OkH.intro Tryz.func56 rfl Tryz.ntmps56 (by simp) ?_
  unfold f_florref1_TextError at hr
  refine Tri.seq ?_
  refine Tri.region ?_
  refine R.flo Gd.no (Y.assign rfl) ?_
  refine R.nil ?_
  refine Tri.seq ?_
  refine Tri.seq ?_
  refine Tri.region ?_
  refine R.flo Gd.no (Y.move rfl) ?_
  refine R.flo Gd.no (Y.lenS Tryz.underlying9 rfl rfl) ?_
  refine R.flo Gd.no (Y.gtrI rfl rfl) ?_
  refine R.nil ?_
  refine Tri.cond rfl (fun hc1 => ?_) (fun hc1 => ?_)
  · replace hr := cond_t hc1 hr
    refine Tri.seq ?_
    refine Tri.region ?_
    refine R.flo Gd.no (Y.assign rfl) ?_
    refine R.nil ?_
    refine Tri.ret ?_
    have hx := Option.some.inj hr
    subst hx
    exact ⟨.inl rfl, _, .inr (.inl ⟨_, _, rfl, rfl, rfl⟩), ⟨rfl, rfl⟩⟩
  · replace hr := cond_f hc1 hr
    refine Tri.skip ?_
    refine Tri.seq ?_
    refine Tri.seq ?_
    refine Tri.region ?_
    refine R.flo Gd.no (Y.move rfl) ?_
    replace hr := bind_inv hr
    obtain ⟨r2, hcr2, hr⟩ := hr
    refine R.call (H1 := []) (H2 := []) Gd.no Tryz.en73 rfl (ok_florref1_below hcr2 nx) (perm_idx [] rfl) (fun _ _ nx_3 hq => ?_)
    obtain ⟨rfl, rfl⟩ := hq
    refine R.nil ?_
    refine Tri.cond rfl (fun hc4 => ?_) (fun hc4 => ?_)
    · replace hr := cond_t hc4 hr
      refine Tri.seq ?_
      refine Tri.region ?_
      refine R.flo Gd.no (Y.assign rfl) ?_
      refine R.nil ?_
      refine Tri.ret ?_
      have hx := Option.some.inj hr
      subst hx
      exact ⟨.inl rfl, _, .inr (.inl ⟨_, _, rfl, rfl, rfl⟩), ⟨rfl, rfl⟩⟩
    · replace hr := cond_f hc4 hr
      refine Tri.skip ?_
      refine Tri.seq ?_
      refine Tri.region ?_
      refine R.flo Gd.no (Y.assign rfl) ?_
      refine R.nil ?_
      refine Tri.ret ?_
      have hx := Option.some.inj hr
      subst hx
      exact ⟨.inl rfl, _, .inr (.inl ⟨_, _, rfl, rfl, rfl⟩), ⟨rfl, rfl⟩⟩
theorem ok_florref1_inRange {n : Int} {low : Int} {high : Int} {r : Bool} (hr : f_florref1_inRange n low high = some r) (nx : Nat) : OkH Tryz.prog 55 [.one (.c (.lit (.int .i64 n))), .one (.c (.lit (.int .i64 low))), .one (.c (.lit (.int .i64 high)))] [] nx fun v H' _ => v = .v (.one (.c (.lit (.bool r)))) ∧ H' = [] := by
  refine OkH.intro Tryz.func55 rfl Tryz.ntmps55 (by simp) ?_
  unfold f_florref1_inRange at hr
  refine Tri.seq ?_
  refine Tri.region ?_
  refine R.flo Gd.no (Y.assign rfl) ?_
  refine R.nil ?_
  refine Tri.seq ?_
  refine Tri.region ?_
  refine R.flo Gd.no (Y.move rfl) ?_
  refine R.flo Gd.no (Y.move rfl) ?_
  refine R.flo Gd.no (Y.geqI rfl rfl) ?_
  refine R.flo Gd.no (Y.move rfl) ?_
  refine TOps.part (b := decide (low ≤ n)) (fun bhb1 hb1 => ?_)
  cases bhb1
  · rw [hb1]; replace hr := cond_f hb1 hr
    refine R.skip (.f 3 false 10 rfl rfl) ?_
    refine R.skip (.f 3 false 10 rfl rfl) ?_
    refine R.skip (.f 3 false 10 rfl rfl) ?_
    refine R.flo Gd.no (Y.pickF rfl rfl) ?_
    refine R.flo Gd.no (Y.assign rfl) ?_
    refine R.nil ?_
    refine Tri.ret ?_
    have hx := Option.some.inj hr
    subst hx
    exact ⟨.inl rfl, _, .inr (.inl ⟨_, _, rfl, rfl, rfl⟩), ⟨rfl, rfl⟩⟩
  · rw [hb1]; replace hr := cond_t hb1 hr
    refine R.flo (Gd.t 3 true 10 rfl rfl) (Y.move rfl) ?_
    refine R.flo (Gd.t 3 true 10 rfl rfl) (Y.move rfl) ?_
    refine R.flo (Gd.t 3 true 10 rfl rfl) (Y.leqI rfl rfl) ?_
    refine R.flo Gd.no (Y.pickT rfl rfl) ?_
    refine R.flo Gd.no (Y.assign rfl) ?_
    refine R.nil ?_
    refine Tri.ret ?_
    have hx := Option.some.inj hr
    subst hx
    exact ⟨.inl rfl, _, .inr (.inl ⟨_, _, rfl, rfl, rfl⟩), ⟨rfl, rfl⟩⟩
theorem ok_florref1_at {base : List Block} {id : Int} {r : Int} (hr : f_florref1_at base id = some r) (nx : Nat) : OkH Tryz.prog 58 [.one (.c (.ro 5 false (base.map encB))), .one (.c (.lit (.int .i64 id)))] [] nx fun v H' _ => v = .v (.one (.c (.lit (.int .i64 r)))) ∧ H' = [] := by
  refine OkH.intro Tryz.func58 rfl Tryz.ntmps58 (by simp) ?_
  unfold f_florref1_at at hr
  refine Tri.seq ?_
  refine Tri.region ?_
  refine R.flo Gd.no (Y.assign rfl) ?_
  refine R.nil ?_
  refine Tri.seq ?_
  refine Tri.seq ?_
  refine Tri.region ?_
  refine R.flo Gd.no (Y.move rfl) ?_
  refine TOps.fact (Fact.lenR (x := .tmp 7) (n := base.length) rfl (List.length_map ..)) (fun hl1 => ?_)
  refine R.flo Gd.no (Y.lenR (m := base.length) Tryz.underlying22 rfl rfl (List.length_map ..)) ?_
  refine R.flo Gd.no (Y.move rfl) ?_
  refine R.nil ?_
  replace hr := bind_inv hr
  obtain ⟨x6, hr, hox6⟩ := hr
  refine Tri.meet1 (α := Unit × Nat) (fun ⟨s7, nx_8⟩ => (.inl s7) = x6) (fun ⟨s7, nx_8⟩ => ⟨20, [], [], nx_8⟩) ?_ (fun ⟨s7, nx_8⟩ hx => ?_)
  · refine Tri.block ?_
    refine Tri.loop (α := Nat × Nat) (fun ⟨v2, nx_3⟩ => v2 ≤ base.length ∧ f_florref1_at_l1 id (base.drop v2) v2  = some x6) (fun ⟨v2, nx_3⟩ => ⟨20, [(1, some (.v (.one (.c (.lit (.int .i64 id)))))), (7, some (.v (.one (.c (.ro 5 false (base.map encB)))))), (8, some (.v (.one (.c (.lit (.int .i64 ((base.length : Int)))))))), (9, some (.v (.one (.c (.lit (.int .i64 ((v2 : Int))))))))], [], nx_3⟩) (fun ⟨v2, nx_3⟩ => base.length - v2) ⟨0, nx⟩ ?_ (Weak.to [1, 7, 8, 9] [] rfl) ?_
    · exact ⟨Nat.zero_le _, hr⟩
    · rintro ⟨v2, nx_3⟩ ⟨hk, hr⟩
      refine Tri.seq ?_
      refine Tri.region ?_
      refine R.flo Gd.no (Y.lssI rfl rfl) ?_
      refine R.nil ?_
      refine Tri.seq ?_
      refine Tri.cond rfl (fun hc => ?_) (fun hc => ?_)
      · have hk := lt_of_dec hc
        obtain ⟨x4, hx4⟩ := get_of_lt hk
        rw [drop_at hx4, f_florref1_at_l1] at hr
        refine Tri.skip ?_
        refine Tri.seq ?_
        refine Tri.block ?_
        refine Tri.seq ?_
        refine Tri.region ?_
        refine R.flo Gd.no (Y.move rfl) ?_
        refine R.flo Gd.no (Y.idxR v2 Tryz.underlying22 Tryz.sizeOf55 rfl rfl (map_get hx4)) ?_
        refine R.flo Gd.no (Y.loadPN rfl Tryz.isAgg55 Tryz.sizeOf55 rfl rfl) ?_
        refine R.eff Gd.no (E.alloc (cs := [.c (.lit (.int .i64 0)), .c (.lit (.int .i64 0)), .c (.lit (.slice none 0 0)), .c (.lit (str ([] : Bytes))), .c (.lit (.slice none 0 0))]) Tryz.et55.zero Tryz.et55.one (by rfl)) ?_
        refine R.flo Gd.no (Y.assign rfl) ?_
        refine R.eff Gd.no (E.storeB 0 rfl rfl rfl rfl Tryz.sizeOf55 rfl rfl rfl) ?_
        refine R.nil ?_
        refine Tri.seq ?_
        refine Tri.region ?_
        refine R.flo Gd.no (Y.fieldP Tryz.fo55_0 rfl) ?_
        refine R.flo Gd.no (Y.loadB1 rfl 0 rfl rfl Tryz.isAgg3) ?_
        refine R.flo Gd.no (Y.move rfl) ?_
        refine R.flo Gd.no (Y.eqlI rfl rfl) ?_
        refine R.nil ?_
        refine Tri.cond rfl (fun hc5 => ?_) (fun hc5 => ?_)
        · replace hr := cond_t hc5 hr
          refine Tri.seq ?_
          refine Tri.region ?_
          refine R.flo Gd.no (Y.move rfl) ?_
          refine R.flo Gd.no (Y.assign rfl) ?_
          refine R.nil ?_
          have hx := Option.some.inj hr
          subst hx
          have hr := sum_r hox6
          refine Tri.weak (Weak.to [4] [] rfl) ?_
          refine Tri.ret ?_
          have hx := Option.some.inj hr
          subst hx
          exact ⟨.inl rfl, _, .inr (.inl ⟨_, _, rfl, rfl, rfl⟩), ⟨rfl, rfl⟩⟩
        · replace hr := cond_f hc5 hr
          refine Tri.skip ?_
          refine Tri.region ?_
          refine R.flo Gd.no (Y.addI rfl rfl (by omega) (by unfold maxLen at *; omega)) ?_
          refine R.flo Gd.no (Y.move rfl) ?_
          refine R.nil ?_
          refine back_mk ⟨v2 + 1, nx_3 + 1⟩ ⟨hk, hr⟩ (mu_dec hk) (Weak.to [1, 7, 8, 9] [] rfl)
      · rw [drop_end (nlt_of_dec hc), f_florref1_at_l1] at hr
        refine Tri.exit ?_
        have hx := Option.some.inj hr
        subst hx
        refine meet_mk ⟨(), nx_3⟩ rfl (Weak.to [] [] rfl)
  · subst hx
    have hr := sum_l hox6
    refine Tri.seq ?_
    refine Tri.region ?_
    refine R.flo Gd.no (Y.assign rfl) ?_
    refine R.nil ?_
    refine Tri.ret ?_
    have hx := Option.some.inj hr
    subst hx
    exact ⟨.inl rfl, _, .inr (.inl ⟨_, _, rfl, rfl, rfl⟩), ⟨rfl, rfl⟩⟩
theorem ok_florref1_reach_2c97 : ∀ (fuelR : Nat) {base : List Block} {i : Int} {d : Int} {depth : List Int} {r : (List Int)} (_ : f_florref1_reach_2c97 fuelR base i d depth = some r) (o : Nat) (nx : Nat), OkH Tryz.prog 59 [.one (.c (.ro 5 false (base.map encB))), .one (.c (.lit (.int .i64 i))), .one (.c (.lit (.int .i64 d))), .one (.obj o)] [(o, .row 3 1 (rowOf encI depth))] nx fun v H' _ => v = .tup [] ∧ H' = [(o, .row 3 1 (rowOf encI r))] := by
  intro fuelR
  induction fuelR with
  | zero => intro base i d depth r hr o nx; rw [f_florref1_reach_2c97] at hr; cases hr
  | succ fuelR ih =>
    intro base i d depth r hr o nx
    refine OkH.intro Tryz.func59 rfl Tryz.ntmps59 (by simp) ?_
    rw [f_florref1_reach_2c97] at hr
    refine Tri.fall ?_
    refine Tri.seq ?_
    refine Tri.region ?_
    refine R.flo Gd.no (Y.move rfl) ?_
    refine R.flo Gd.no (Y.move rfl) ?_
    replace hr := atn_inv hr
    obtain ⟨x1, h2, hx1, hr⟩ := hr
    refine R.flo Gd.no (Y.idxR ((i).toNat) Tryz.underlying22 Tryz.sizeOf55 rfl (ev_tn rfl h2) (map_get hx1)) ?_
    refine R.flo Gd.no (Y.fieldR Tryz.fo55_2 rfl) ?_
    refine R.flo Gd.no (Y.loadP1 rfl rfl Tryz.isAgg52) ?_
    refine TOps.fact (Fact.lenR (x := .tmp 15) (n := x1.kids.length) rfl (List.length_map ..)) (fun hl3 => ?_)
    refine R.flo Gd.no (Y.lenR (m := x1.kids.length) Tryz.underlying52 rfl rfl (List.length_map ..)) ?_
    refine R.flo Gd.no (Y.move rfl) ?_
    refine R.nil ?_
    replace hr := bind_inv hr
    obtain ⟨x17, hr, hox17⟩ := hr
    refine Tri.meet1 (α := ((List Int)) × Nat) (fun ⟨s18, nx_19⟩ => s18 = x17) (fun ⟨s18, nx_19⟩ => ⟨41, [], [(o, .row 3 1 (rowOf encI s18))], nx_19⟩) ?_ (fun ⟨s18, nx_19⟩ hx => ?_)
    · refine Tri.block ?_
      refine Tri.loop (α := Nat × (List Int) × Nat) (fun ⟨v5, depth4, nx_6⟩ => v5 ≤ x1.kids.length ∧ f_florref1_reach_2c97_l1 (f_florref1_reach_2c97 fuelR) base d (x1.kids.drop v5) depth4 = some x17) (fun ⟨v5, depth4, nx_6⟩ => ⟨41, [(0, some (.v (.one (.c (.ro 5 false (base.map encB)))))), (2, some (.v (.one (.c (.lit (.int .i64 d)))))), (3, some (.v (.one (.obj o)))), (15, some (.v (.one (.c (.ro 1 false (x1.kids.map encI)))))), (16, some (.v (.one (.c (.lit (.int .i64 ((x1.kids.length : Int)))))))), (17, some (.v (.one (.c (.lit (.int .i64 ((v5 : Int))))))))], [(o, .row 3 1 (rowOf encI depth4))], nx_6⟩) (fun ⟨v5, depth4, nx_6⟩ => x1.kids.length - v5) ⟨0, depth, nx⟩ ?_ (Weak.to [0, 2, 3, 15, 16, 17] [0] rfl) ?_
      · exact ⟨Nat.zero_le _, hr⟩
      · rintro ⟨v5, depth4, nx_6⟩ ⟨hk, hr⟩
        refine Tri.seq ?_
        refine Tri.region ?_
        refine R.flo Gd.no (Y.lssI rfl rfl) ?_
        refine R.nil ?_
        refine Tri.seq ?_
        refine Tri.cond rfl (fun hc => ?_) (fun hc => ?_)
        · have hk := lt_of_dec hc
          obtain ⟨x7, hx7⟩ := get_of_lt hk
          rw [drop_at hx7, f_florref1_reach_2c97_l1] at hr
          refine Tri.skip ?_
          refine Tri.seq ?_
          refine Tri.block ?_
          refine Tri.seq ?_
          refine Tri.region ?_
          refine R.flo Gd.no (Y.idxR v5 Tryz.underlying52 Tryz.sizeOf3 rfl rfl (map_get hx7)) ?_
          refine R.flo Gd.no (Y.loadP1 rfl rfl Tryz.isAgg3) ?_
          refine R.flo Gd.no (Y.assign rfl) ?_
          refine R.nil ?_
          refine Tri.seq ?_
          refine Tri.region ?_
          refine R.flo Gd.no (Y.move rfl) ?_
          refine R.flo Gd.no (Y.move rfl) ?_
          replace hr := bind_inv hr
          obtain ⟨r8, hcr8, hr⟩ := hr
          refine R.call (H1 := []) (H2 := [(o, .row 3 1 (rowOf encI depth4))]) Gd.no Tryz.en58 rfl (ok_florref1_at hcr8 nx_6) (perm_idx [0] rfl) (fun _ _ nx_9 hq => ?_)
          obtain ⟨rfl, rfl⟩ := hq
          refine R.flo Gd.no (Y.assign rfl) ?_
          refine R.nil ?_
          refine Tri.seq ?_
          refine Tri.region ?_
          refine R.flo Gd.no (Y.move rfl) ?_
          refine R.flo Gd.no (Y.move rfl) ?_
          replace hr := atn_inv hr
          obtain ⟨x10, h11, hx10, hr⟩ := hr
          refine R.flo Gd.no (Y.idxO ((r8).toNat) 0 rfl Tryz.underlying52 Tryz.sizeOf3 rfl (ev_tn rfl h11) (row_get hx10)) ?_
          refine R.flo Gd.no (Y.loadR1 rfl 0 rfl (row_get hx10) rfl Tryz.isAgg3) ?_
          refine R.flo Gd.no (Y.eqlI rfl rfl) ?_
          refine R.nil ?_
          refine Tri.cond rfl (fun hc12 => ?_) (fun hc12 => ?_)
          · replace hr := cond_t hc12 hr
            refine Tri.seq ?_
            refine Tri.region ?_
            refine R.flo Gd.no (Y.move rfl) ?_
            refine R.flo Gd.no (Y.move rfl) ?_
            refine R.flo Gd.no (Y.move rfl) ?_
            replace hr := ckI_inv hr
            obtain ⟨ha, hb, hr⟩ := hr
            refine R.flo Gd.no (Y.addI rfl rfl ha hb) ?_
            replace hr := atn_inv hr
            obtain ⟨x13, h14, hx13, hr⟩ := hr
            refine R.flo Gd.no (Y.idxO ((r8).toNat) 0 rfl Tryz.underlying52 Tryz.sizeOf3 rfl (ev_tn rfl h14) (row_get hx13)) ?_
            refine R.eff Gd.no (E.storeT (d + 1) 0 rfl rfl rfl rfl Tryz.sizeOf3 rfl (row_get hx13) rfl rfl) ?_
            refine R.nil ?_
            refine Tri.region ?_
            refine R.flo Gd.no (Y.move rfl) ?_
            refine R.flo Gd.no (Y.move rfl) ?_
            refine R.flo Gd.no (Y.move rfl) ?_
            replace hr := ckI_inv hr
            obtain ⟨ha, hb, hr⟩ := hr
            refine R.flo Gd.no (Y.addI rfl rfl ha hb) ?_
            refine R.flo Gd.no (Y.move rfl) ?_
            replace hr := bind_inv hr
            obtain ⟨r15, hcr15, hr⟩ := hr
            refine R.call (H1 := [(o, .row 3 1 (rowOf encI (depth4.set ((r8).toNat) (d + 1))))]) (H2 := []) Gd.no Tryz.en59 rfl (ih hcr15 o nx_9) (perm_idx [0] rfl) (fun _ _ nx_16 hq => ?_)
            obtain ⟨rfl, rfl⟩ := hq
            refine R.nil ?_
            refine Tri.region ?_
            refine R.flo Gd.no (Y.addI rfl rfl (by omega) (by unfold maxLen at *; omega)) ?_
            refine R.flo Gd.no (Y.move rfl) ?_
            refine R.nil ?_
            refine back_mk ⟨v5 + 1, r15, nx_16⟩ ⟨hk, hr⟩ (mu_dec hk) (Weak.to [0, 2, 3, 15, 16, 17] [0] rfl)
          · replace hr := cond_f hc12 hr
            refine Tri.skip ?_
            refine Tri.region ?_
            refine R.flo Gd.no (Y.addI rfl rfl (by omega) (by unfold maxLen at *; omega)) ?_
            refine R.flo Gd.no (Y.move rfl) ?_
            refine R.nil ?_
            refine back_mk ⟨v5 + 1, depth4, nx_9⟩ ⟨hk, hr⟩ (mu_dec hk) (Weak.to [0, 2, 3, 15, 16, 17] [0] rfl)
        · rw [drop_end (nlt_of_dec hc), f_florref1_reach_2c97_l1] at hr
          refine Tri.exit ?_
          have hx := Option.some.inj hr
          subst hx
          refine meet_mk ⟨depth4, nx_6⟩ rfl (Weak.to [] [0] rfl)
    · subst hx
      have hr := hox17
      refine ⟨_, Weak.refl _, ?_⟩
      have hx := Option.some.inj hr
      subst hx
      exact ⟨.inr rfl, _, .inl ⟨rfl, rfl⟩, ⟨rfl, rfl⟩⟩
theorem ok_florref1_BaseError {base : List Block} {r : Int} (hr : f_florref1_BaseError base = some r) (nx : Nat) : OkH Tryz.prog 32 [.one (.c (.ro 5 false (base.map encB)))] [] nx fun v H' _ => v = .v (.one (.c (.lit (.int .i64 r)))) ∧ H' = [] := by
  refine OkH.intro Tryz.func32 rfl Tryz.ntmps32 (by simp) ?_
  unfold f_florref1_BaseError at hr
  refine Tri.seq ?_
  refine Tri.region ?_
  refine R.flo Gd.no (Y.assign rfl) ?_
  refine R.nil ?_
  refine Tri.seq ?_
  refine Tri.seq ?_
  refine Tri.region ?_
  refine R.flo Gd.no (Y.move rfl) ?_
  refine TOps.fact (Fact.lenR (x := .tmp 16) (n := base.length) rfl (List.length_map ..)) (fun hl1 => ?_)
  refine R.flo Gd.no (Y.lenR (m := base.length) Tryz.underlying22 rfl rfl (List.length_map ..)) ?_
  refine R.flo Gd.no (Y.eqlI rfl rfl) ?_
  refine R.nil ?_
  refine Tri.cond rfl (fun hc2 => ?_) (fun hc2 => ?_)
  · replace hr := cond_t hc2 hr
    refine Tri.seq ?_
    refine Tri.region ?_
    refine R.flo Gd.no (Y.assign rfl) ?_
    refine R.nil ?_
    refine Tri.ret ?_
    have hx := Option.some.inj hr
    subst hx
    exact ⟨.inl rfl, _, .inr (.inl ⟨_, _, rfl, rfl, rfl⟩), ⟨rfl, rfl⟩⟩
  · replace hr := cond_f hc2 hr
    refine Tri.skip ?_
    refine Tri.seq ?_
    refine Tri.seq ?_
    refine Tri.region ?_
    refine R.flo Gd.no (Y.move rfl) ?_
    refine TOps.fact (Fact.lenR (x := .tmp 19) (n := base.length) rfl (List.length_map ..)) (fun hl3 => ?_)
    refine R.flo Gd.no (Y.lenR (m := base.length) Tryz.underlying22 rfl rfl (List.length_map ..)) ?_
    refine R.flo Gd.no (Y.gtrI rfl rfl) ?_
    refine R.nil ?_
    refine Tri.cond rfl (fun hc4 => ?_) (fun hc4 => ?_)
    · replace hr := cond_t hc4 hr
      refine Tri.seq ?_
      refine Tri.region ?_
      refine R.flo Gd.no (Y.assign rfl) ?_
      refine R.nil ?_
      refine Tri.ret ?_
      have hx := Option.some.inj hr
      subst hx
      exact ⟨.inl rfl, _, .inr (.inl ⟨_, _, rfl, rfl, rfl⟩), ⟨rfl, rfl⟩⟩
    · replace hr := cond_f hc4 hr
      refine Tri.skip ?_
      refine Tri.seq ?_
      refine Tri.seq ?_
      refine Tri.region ?_
      refine R.flo Gd.no (Y.move rfl) ?_
      refine TOps.fact (Fact.lenR (x := .tmp 22) (n := base.length) rfl (List.length_map ..)) (fun hl5 => ?_)
      refine R.flo Gd.no (Y.lenR (m := base.length) Tryz.underlying22 rfl rfl (List.length_map ..)) ?_
      refine R.flo Gd.no (Y.move rfl) ?_
      refine R.nil ?_
      replace hr := bind_inv hr
      obtain ⟨x45, hr, hox45⟩ := hr
      refine Tri.meet1 (α := Unit × Nat) (fun ⟨s46, nx_47⟩ => (.inl s46) = x45) (fun ⟨s46, nx_47⟩ => ⟨164, [(0, some (.v (.one (.c (.ro 5 false (base.map encB))))))], [], nx_47⟩) ?_ (fun ⟨s46, nx_47⟩ hx => ?_)
      · refine Tri.block ?_
        refine Tri.loop (α := Nat × Nat) (fun ⟨v6, nx_7⟩ => v6 ≤ base.length ∧ f_florref1_BaseError_l1 base (base.drop v6) v6  = some x45) (fun ⟨v6, nx_7⟩ => ⟨164, [(0, some (.v (.one (.c (.ro 5 false (base.map encB)))))), (22, some (.v (.one (.c (.ro 5 false (base.map encB)))))), (23, some (.v (.one (.c (.lit (.int .i64 ((base.length : Int)))))))), (24, some (.v (.one (.c (.lit (.int .i64 ((v6 : Int))))))))], [], nx_7⟩) (fun ⟨v6, nx_7⟩ => base.length - v6) ⟨0, nx⟩ ?_ (Weak.to [0, 22, 23, 24] [] rfl) ?_
        · exact ⟨Nat.zero_le _, hr⟩
        · rintro ⟨v6, nx_7⟩ ⟨hk, hr⟩
          refine Tri.seq ?_
          refine Tri.region ?_
          refine R.flo Gd.no (Y.lssI rfl rfl) ?_
          refine R.nil ?_
          refine Tri.seq ?_
          refine Tri.cond rfl (fun hc => ?_) (fun hc => ?_)
          · have hk := lt_of_dec hc
            obtain ⟨x8, hx8⟩ := get_of_lt hk
            rw [drop_at hx8, f_florref1_BaseError_l1] at hr
            refine Tri.skip ?_
            refine Tri.seq ?_
            refine Tri.block ?_
            refine Tri.seq ?_
            refine Tri.region ?_
            refine R.flo Gd.no (Y.move rfl) ?_
            refine R.flo Gd.no (Y.idxR v6 Tryz.underlying22 Tryz.sizeOf55 rfl rfl (map_get hx8)) ?_
            refine R.flo Gd.no (Y.loadPN rfl Tryz.isAgg55 Tryz.sizeOf55 rfl rfl) ?_
            refine R.eff Gd.no (E.alloc (cs := [.c (.lit (.int .i64 0)), .c (.lit (.int .i64 0)), .c (.lit (.slice none 0 0)), .c (.lit (str ([] : Bytes))), .c (.lit (.slice none 0 0))]) Tryz.et55.zero Tryz.et55.one (by rfl)) ?_
            refine R.flo Gd.no (Y.assign rfl) ?_
            refine R.eff Gd.no (E.storeB 0 rfl rfl rfl rfl Tryz.sizeOf55 rfl rfl rfl) ?_
            refine R.nil ?_
            refine Tri.seq ?_
            replace hr := bind_inv hr
            obtain ⟨x17, hr, hox17⟩ := hr
            refine Tri.meet (α := Bool × Nat × Nat) (fun ⟨s18, o19, nx_20⟩ => s18 = x17) (fun ⟨s18, o19, nx_20⟩ => ⟨164, [(0, some (.v (.one (.c (.ro 5 false (base.map encB)))))), (3, some (.v (.one (.c (.lit (.int .i64 ((v6 : Int)))))))), (4, some (.v (.one (.ptr o19 0 0)))), (22, some (.v (.one (.c (.ro 5 false (base.map encB)))))), (23, some (.v (.one (.c (.lit (.int .i64 ((base.length : Int)))))))), (24, some (.v (.one (.c (.lit (.int .i64 ((v6 : Int)))))))), (45, some (.v (.one (.c (.lit (.bool s18))))))], [(o19, .box 55 [.c (.lit (.int .i64 x8.id)), .c (.lit (.int .i64 x8.parent)), .c (.ro 1 false (x8.kids.map encI)), .c (.lit (str x8.text)), .c (.ro 6 false (x8.props.map encP))])], nx_20⟩) ?_ (fun ⟨s18, o19, nx_20⟩ hx => ?_)
            · refine Tri.region ?_
              refine R.flo Gd.no (Y.move rfl) ?_
              refine R.flo Gd.no (Y.eqlI rfl rfl) ?_
              refine R.flo Gd.no (Y.move rfl) ?_
              refine TOps.part (b := decide ((v6 : Int) = (0 : Int))) (fun bhb9 hb9 => ?_)
              cases bhb9
              · rw [hb9]; replace hr := cond_f hb9 hr
                refine R.skip (.f 2 false 31 rfl rfl) ?_
                refine R.skip (.f 2 false 31 rfl rfl) ?_
                refine R.skip (.f 2 false 31 rfl rfl) ?_
                refine R.flo Gd.no (Y.pickF rfl rfl) ?_
                refine R.flo Gd.no (Y.move rfl) ?_
                refine R.flo (Gd.t 7 false 36 rfl rfl) (Y.move rfl) ?_
                refine R.flo (Gd.t 7 false 36 rfl rfl) (Y.gtrI rfl rfl) ?_
                refine R.flo (Gd.t 7 false 36 rfl rfl) (Y.move rfl) ?_
                refine TOps.part (b := decide ((0 : Int) < (v6 : Int))) (fun bhb14 hb14 => ?_)
                cases bhb14
                · rw [hb14]; replace hr := cond_f hb14 hr
                  refine R.skip (.f 10 false 39 rfl rfl) ?_
                  refine R.skip (.f 10 false 39 rfl rfl) ?_
                  refine R.skip (.f 10 false 39 rfl rfl) ?_
                  refine R.skip (.f 10 false 39 rfl rfl) ?_
                  refine R.flo (Gd.t 7 false 36 rfl rfl) (Y.pickF rfl rfl) ?_
                  refine R.flo Gd.no (Y.pickF rfl rfl) ?_
                  refine R.nil ?_
                  have hx := Option.some.inj hr
                  subst hx
                  refine meet_mk ⟨false, nx_7, nx_7 + 1⟩ rfl (Weak.to [0, 3, 4, 22, 23, 24, 45] [0] rfl)
                · rw [hb14]; replace hr := cond_t hb14 hr
                  refine R.flo (Gd.t 10 true 39 rfl rfl) (Y.fieldP Tryz.fo55_0 rfl) ?_
                  refine R.flo (Gd.t 10 true 39 rfl rfl) (Y.loadB1 rfl 0 rfl rfl Tryz.isAgg3) ?_
                  replace hr := bind_inv hr
                  obtain ⟨r15, hcr15, hr⟩ := hr
                  refine R.call (H1 := []) (H2 := [(nx_7, .box 55 [.c (.lit (.int .i64 x8.id)), .c (.lit (.int .i64 x8.parent)), .c (.ro 1 false (x8.kids.map encI)), .c (.lit (str x8.text)), .c (.ro 6 false (x8.props.map encP))])]) (Gd.t 10 true 39 rfl rfl) Tryz.en55 rfl (ok_florref1_inRange hcr15 (nx_7 + 1)) (perm_idx [0] rfl) (fun _ _ nx_16 hq => ?_)
                  obtain ⟨rfl, rfl⟩ := hq
                  refine R.flo (Gd.t 10 true 39 rfl rfl) (Y.not rfl) ?_
                  refine R.flo (Gd.t 7 false 36 rfl rfl) (Y.pickT rfl rfl) ?_
                  refine R.flo Gd.no (Y.pickF rfl rfl) ?_
                  refine R.nil ?_
                  have hx := Option.some.inj hr
                  subst hx
                  refine meet_mk ⟨!r15, nx_7, nx_16⟩ rfl (Weak.to [0, 3, 4, 22, 23, 24, 45] [0] rfl)
              · rw [hb9]; replace hr := cond_t hb9 hr
                refine R.flo (Gd.t 2 true 31 rfl rfl) (Y.fieldP Tryz.fo55_0 rfl) ?_
                refine R.flo (Gd.t 2 true 31 rfl rfl) (Y.loadB1 rfl 0 rfl rfl Tryz.isAgg3) ?_
                refine R.flo (Gd.t 2 true 31 rfl rfl) (Y.neqI rfl rfl) ?_
                refine R.flo Gd.no (Y.pickT rfl rfl) ?_
                refine R.flo Gd.no (Y.move rfl) ?_
                refine TOps.part (b := decide (x8.id ≠ (0 : Int))) (fun bhb10 hb10 => ?_)
                cases bhb10
                · rw [hb10]; replace hr := cond_f hb10 hr
                  refine R.flo (Gd.t 7 false 36 rfl rfl) (Y.move rfl) ?_
                  refine R.flo (Gd.t 7 false 36 rfl rfl) (Y.gtrI rfl rfl) ?_
                  refine R.flo (Gd.t 7 false 36 rfl rfl) (Y.move rfl) ?_
                  refine TOps.part (b := decide ((0 : Int) < (v6 : Int))) (fun bhb11 hb11 => ?_)
                  cases bhb11
                  · rw [hb11]; replace hr := cond_f hb11 hr
                    refine R.skip (.f 10 false 39 rfl rfl) ?_
                    refine R.skip (.f 10 false 39 rfl rfl) ?_
                    refine R.skip (.f 10 false 39 rfl rfl) ?_
                    refine R.skip (.f 10 false 39 rfl rfl) ?_
                    refine R.flo (Gd.t 7 false 36 rfl rfl) (Y.pickF rfl rfl) ?_
                    refine R.flo Gd.no (Y.pickF rfl rfl) ?_
                    refine R.nil ?_
                    have hx := Option.some.inj hr
                    subst hx
                    refine meet_mk ⟨false, nx_7, nx_7 + 1⟩ rfl (Weak.to [0, 3, 4, 22, 23, 24, 45] [0] rfl)
                  · rw [hb11]; replace hr := cond_t hb11 hr
                    refine R.flo (Gd.t 10 true 39 rfl rfl) (Y.fieldP Tryz.fo55_0 rfl) ?_
                    refine R.flo (Gd.t 10 true 39 rfl rfl) (Y.loadB1 rfl 0 rfl rfl Tryz.isAgg3) ?_
                    replace hr := bind_inv hr
                    obtain ⟨r12, hcr12, hr⟩ := hr
                    refine R.call (H1 := []) (H2 := [(nx_7, .box 55 [.c (.lit (.int .i64 x8.id)), .c (.lit (.int .i64 x8.parent)), .c (.ro 1 false (x8.kids.map encI)), .c (.lit (str x8.text)), .c (.ro 6 false (x8.props.map encP))])]) (Gd.t 10 true 39 rfl rfl) Tryz.en55 rfl (ok_florref1_inRange hcr12 (nx_7 + 1)) (perm_idx [0] rfl) (fun _ _ nx_13 hq => ?_)
                    obtain ⟨rfl, rfl⟩ := hq
                    refine R.flo (Gd.t 10 true 39 rfl rfl) (Y.not rfl) ?_
                    refine R.flo (Gd.t 7 false 36 rfl rfl) (Y.pickT rfl rfl) ?_
                    refine R.flo Gd.no (Y.pickF rfl rfl) ?_
                    refine R.nil ?_
                    have hx := Option.some.inj hr
                    subst hx
                    refine meet_mk ⟨!r12, nx_7, nx_13⟩ rfl (Weak.to [0, 3, 4, 22, 23, 24, 45] [0] rfl)
                · rw [hb10]; replace hr := cond_t hb10 hr
                  refine R.skip (.f 7 true 36 rfl rfl) ?_
                  refine R.skip (.f 7 true 36 rfl rfl) ?_
                  refine R.skip (.f 7 true 36 rfl rfl) ?_
                  refine R.skip (.u 10 true 39 rfl rfl) ?_
                  refine R.skip (.u 10 true 39 rfl rfl) ?_
                  refine R.skip (.u 10 true 39 rfl rfl) ?_
                  refine R.skip (.u 10 true 39 rfl rfl) ?_
                  refine R.skip (.f 7 true 36 rfl rfl) ?_
                  refine R.flo Gd.no (Y.pickT rfl rfl) ?_
                  refine R.nil ?_
                  have hx := Option.some.inj hr
                  subst hx
                  refine meet_mk ⟨true, nx_7, nx_7 + 1⟩ rfl (Weak.to [0, 3, 4, 22, 23, 24, 45] [0] rfl)
            · subst hx
              have hr := hox17
              refine Tri.cond rfl (fun hc21 => ?_) (fun hc21 => ?_)
              · replace hr := cond_t hc21 hr
                refine Tri.seq ?_
                refine Tri.region ?_
                refine R.flo Gd.no (Y.assign rfl) ?_
                refine R.nil ?_
                have hx := Option.some.inj hr
                subst hx
                have hr := sum_r hox45
                refine Tri.weak (Weak.to [2] [] rfl) ?_
                refine Tri.ret ?_
                have hx := Option.some.inj hr
                subst hx
                exact ⟨.inl rfl, _, .inr (.inl ⟨_, _, rfl, rfl, rfl⟩), ⟨rfl, rfl⟩⟩
              · replace hr := cond_f hc21 hr
                refine Tri.skip ?_
                refine Tri.seq ?_
                replace hr := bind_inv hr
                obtain ⟨x25, hr, hox25⟩ := hr
                refine Tri.meet (α := Bool × Nat) (fun ⟨s26, nx_27⟩ => s26 = x25) (fun ⟨s26, nx_27⟩ => ⟨164, [(0, some (.v (.one (.c (.ro 5 false (base.map encB)))))), (3, some (.v (.one (.c (.lit (.int .i64 ((v6 : Int)))))))), (4, some (.v (.one (.ptr o19 0 0)))), (22, some (.v (.one (.c (.ro 5 false (base.map encB)))))), (23, some (.v (.one (.c (.lit (.int .i64 ((base.length : Int)))))))), (24, some (.v (.one (.c (.lit (.int .i64 ((v6 : Int)))))))), (58, some (.v (.one (.c (.lit (.bool s26))))))], [(o19, .box 55 [.c (.lit (.int .i64 x8.id)), .c (.lit (.int .i64 x8.parent)), .c (.ro 1 false (x8.kids.map encI)), .c (.lit (str x8.text)), .c (.ro 6 false (x8.props.map encP))])], nx_27⟩) ?_ (fun ⟨s26, nx_27⟩ hx => ?_)
                · refine Tri.draw 13 rfl rfl [] [(o19, .box 55 [.c (.lit (.int .i64 x8.id)), .c (.lit (.int .i64 x8.parent)), .c (.ro 1 false (x8.kids.map encI)), .c (.lit (str x8.text)), .c (.ro 6 false (x8.props.map encP))])] rfl ?_
                  refine TAny.flo 0 rfl (by decide +kernel) (by decide +kernel) (by decide +kernel) Gd.no (Y.move rfl) ?_
                  refine TAny.flo 1 rfl (by decide +kernel) (by decide +kernel) (by decide +kernel) Gd.no (Y.gtrI rfl rfl) ?_
                  refine TAny.flo 2 rfl (by decide +kernel) (by decide +kernel) (by decide +kernel) Gd.no (Y.move rfl) ?_
                  refine TAny.part (b := decide ((0 : Int) < (v6 : Int))) (fun bhb22 hb22 => ?_)
                  cases bhb22
                  · rw [hb22]; replace hr := cond_f hb22 hr
                    refine TAny.skip 3 rfl (by decide +kernel) (by decide +kernel) (by decide +kernel) (.f 2 false 48 rfl rfl) ?_
                    refine TAny.skip 4 rfl (by decide +kernel) (by decide +kernel) (by decide +kernel) (.f 2 false 48 rfl rfl) ?_
                    refine TAny.skip 5 rfl (by decide +kernel) (by decide +kernel) (by decide +kernel) (.f 2 false 48 rfl rfl) ?_
                    refine TAny.skip 6 rfl (by decide +kernel) (by decide +kernel) (by decide +kernel) (.f 2 false 48 rfl rfl) ?_
                    refine TAny.skip 7 rfl (by decide +kernel) (by decide +kernel) (by decide +kernel) (.f 2 false 48 rfl rfl) ?_
                    refine TAny.skip 8 rfl (by decide +kernel) (by decide +kernel) (by decide +kernel) (.f 2 false 48 rfl rfl) ?_
                    refine TAny.skip 9 rfl (by decide +kernel) (by decide +kernel) (by decide +kernel) (.f 2 false 48 rfl rfl) ?_
                    refine TAny.skip 10 rfl (by decide +kernel) (by decide +kernel) (by decide +kernel) (.f 2 false 48 rfl rfl) ?_
                    refine TAny.skip 11 rfl (by decide +kernel) (by decide +kernel) (by decide +kernel) (.f 2 false 48 rfl rfl) ?_
                    refine TAny.flo 12 rfl (by decide +kernel) (by decide +kernel) (by decide +kernel) Gd.no (Y.pickF rfl rfl) ?_
                    refine TAny.done (by decide +kernel) ?_
                    have hx := Option.some.inj hr
                    subst hx
                    refine meet_mk ⟨false, nx_20⟩ rfl (Weak.to [0, 3, 4, 22, 23, 24, 58] [0] rfl)
                  · rw [hb22]; replace hr := cond_t hb22 hr
                    refine TAny.flo 3 rfl (by decide +kernel) (by decide +kernel) (by decide +kernel) (Gd.t 2 true 48 rfl rfl) (Y.fieldP Tryz.fo55_0 rfl) ?_
                    refine TAny.flo 4 rfl (by decide +kernel) (by decide +kernel) (by decide +kernel) (Gd.t 2 true 48 rfl rfl) (Y.loadB1 rfl 0 rfl rfl Tryz.isAgg3) ?_
                    refine TAny.flo 5 rfl (by decide +kernel) (by decide +kernel) (by decide +kernel) (Gd.t 2 true 48 rfl rfl) (Y.move rfl) ?_
                    refine TAny.flo 6 rfl (by decide +kernel) (by decide +kernel) (by decide +kernel) (Gd.t 2 true 48 rfl rfl) (Y.move rfl) ?_
                    replace hr := ckI_inv hr
                    obtain ⟨ha, hb, hr⟩ := hr
                    refine TAny.flo 7 rfl (by decide +kernel) (by decide +kernel) (by decide +kernel) (Gd.t 2 true 48 rfl rfl) (Y.subI rfl rfl ha hb) ?_
                    replace hr := atn_inv hr
                    obtain ⟨x23, h24, hx23, hr⟩ := hr
                    refine TAny.flo 8 rfl (by decide +kernel) (by decide +kernel) (by decide +kernel) (Gd.t 2 true 48 rfl rfl) (Y.idxR ((((v6 : Int)) - 1).toNat) Tryz.underlying22 Tryz.sizeOf55 rfl (ev_tn rfl h24) (map_get hx23)) ?_
                    refine TAny.flo 9 rfl (by decide +kernel) (by decide +kernel) (by decide +kernel) (Gd.t 2 true 48 rfl rfl) (Y.fieldR Tryz.fo55_0 rfl) ?_
                    refine TAny.flo 10 rfl (by decide +kernel) (by decide +kernel) (by decide +kernel) (Gd.t 2 true 48 rfl rfl) (Y.loadP1 rfl rfl Tryz.isAgg3) ?_
                    refine TAny.flo 11 rfl (by decide +kernel) (by decide +kernel) (by decide +kernel) (Gd.t 2 true 48 rfl rfl) (Y.leqI rfl rfl) ?_
                    refine TAny.flo 12 rfl (by decide +kernel) (by decide +kernel) (by decide +kernel) Gd.no (Y.pickT rfl rfl) ?_
                    refine TAny.done (by decide +kernel) ?_
                    have hx := Option.some.inj hr
                    subst hx
                    refine meet_mk ⟨decide (x8.id ≤ x23.id), nx_20⟩ rfl (Weak.to [0, 3, 4, 22, 23, 24, 58] [0] rfl)
                · subst hx
                  have hr := hox25
                  refine Tri.cond rfl (fun hc28 => ?_) (fun hc28 => ?_)
                  · replace hr := cond_t hc28 hr
                    refine Tri.seq ?_
                    refine Tri.region ?_
                    refine R.flo Gd.no (Y.assign rfl) ?_
                    refine R.nil ?_
                    have hx := Option.some.inj hr
                    subst hx
                    have hr := sum_r hox45
                    refine Tri.weak (Weak.to [2] [] rfl) ?_
                    refine Tri.ret ?_
                    have hx := Option.some.inj hr
                    subst hx
                    exact ⟨.inl rfl, _, .inr (.inl ⟨_, _, rfl, rfl, rfl⟩), ⟨rfl, rfl⟩⟩
                  · replace hr := cond_f hc28 hr
                    refine Tri.skip ?_
                    refine Tri.seq ?_
                    replace hr := bind_inv hr
                    obtain ⟨x33, hr, hox33⟩ := hr
                    refine Tri.meet (α := Bool × Nat) (fun ⟨s34, nx_35⟩ => s34 = x33) (fun ⟨s34, nx_35⟩ => ⟨164, [(0, some (.v (.one (.c (.ro 5 false (base.map encB)))))), (4, some (.v (.one (.ptr o19 0 0)))), (22, some (.v (.one (.c (.ro 5 false (base.map encB)))))), (23, some (.v (.one (.c (.lit (.int .i64 ((base.length : Int)))))))), (24, some (.v (.one (.c (.lit (.int .i64 ((v6 : Int)))))))), (76, some (.v (.one (.c (.lit (.bool s34))))))], [(o19, .box 55 [.c (.lit (.int .i64 x8.id)), .c (.lit (.int .i64 x8.parent)), .c (.ro 1 false (x8.kids.map encI)), .c (.lit (str x8.text)), .c (.ro 6 false (x8.props.map encP))])], nx_35⟩) ?_ (fun ⟨s34, nx_35⟩ hx => ?_)
                    · refine Tri.region ?_
                      refine R.flo Gd.no (Y.move rfl) ?_
                      refine R.flo Gd.no (Y.eqlI rfl rfl) ?_
                      refine R.flo Gd.no (Y.move rfl) ?_
                      refine TOps.part (b := decide ((v6 : Int) = (0 : Int))) (fun bhb29 hb29 => ?_)
                      cases bhb29
                      · rw [hb29]; replace hr := cond_f hb29 hr
                        refine R.skip (.f 2 false 61 rfl rfl) ?_
                        refine R.skip (.f 2 false 61 rfl rfl) ?_
                        refine R.skip (.f 2 false 61 rfl rfl) ?_
                        refine R.skip (.f 2 false 61 rfl rfl) ?_
                        refine R.skip (.u 6 false 65 rfl rfl) ?_
                        refine R.skip (.u 6 false 65 rfl rfl) ?_
                        refine R.skip (.u 6 false 65 rfl rfl) ?_
                        refine R.skip (.u 6 false 65 rfl rfl) ?_
                        refine R.skip (.f 2 false 61 rfl rfl) ?_
                        refine R.skip (.f 2 false 61 rfl rfl) ?_
                        refine R.skip (.u 12 false 71 rfl rfl) ?_
                        refine R.skip (.u 12 false 71 rfl rfl) ?_
                        refine R.skip (.u 12 false 71 rfl rfl) ?_
                        refine R.skip (.f 2 false 61 rfl rfl) ?_
                        refine R.flo Gd.no (Y.pickF rfl rfl) ?_
                        refine R.nil ?_
                        have hx := Option.some.inj hr
                        subst hx
                        refine meet_mk ⟨false, nx_27⟩ rfl (Weak.to [0, 4, 22, 23, 24, 76] [0] rfl)
                      · rw [hb29]; replace hr := cond_t hb29 hr
                        refine R.flo (Gd.t 2 true 61 rfl rfl) (Y.fieldP Tryz.fo55_3 rfl) ?_
                        refine R.flo (Gd.t 2 true 61 rfl rfl) (Y.loadB1 rfl 0 rfl rfl Tryz.isAgg9) ?_
                        refine R.flo (Gd.t 2 true 61 rfl rfl) (Y.neqS rfl rfl) ?_
                        refine R.flo (Gd.t 2 true 61 rfl rfl) (Y.move rfl) ?_
                        refine TOps.part (b := decide (x8.text ≠ ([] : Bytes))) (fun bhb30 hb30 => ?_)
                        cases bhb30
                        · rw [hb30]; replace hr := cond_f hb30 hr
                          refine R.flo (Gd.t 6 false 65 rfl rfl) (Y.fieldP Tryz.fo55_4 rfl) ?_
                          refine R.flo (Gd.t 6 false 65 rfl rfl) (Y.loadB1 rfl 0 rfl rfl Tryz.isAgg53) ?_
                          refine TOps.fact (Fact.lenR (x := .tmp 67) (n := x8.props.length) rfl (List.length_map ..)) (fun hl31 => ?_)
                          refine R.flo (Gd.t 6 false 65 rfl rfl) (Y.lenR (m := x8.props.length) Tryz.underlying53 rfl rfl (List.length_map ..)) ?_
                          refine R.flo (Gd.t 6 false 65 rfl rfl) (Y.gtrI rfl rfl) ?_
                          refine R.flo (Gd.t 2 true 61 rfl rfl) (Y.pickF rfl rfl) ?_
                          refine R.flo (Gd.t 2 true 61 rfl rfl) (Y.move rfl) ?_
                          refine TOps.part (b := decide ((0 : Int) < (x8.props.length : Int))) (fun bhb32 hb32 => ?_)
                          cases bhb32
                          · rw [hb32]; replace hr := cond_f hb32 hr
                            refine R.flo (Gd.t 12 false 71 rfl rfl) (Y.fieldP Tryz.fo55_1 rfl) ?_
                            refine R.flo (Gd.t 12 false 71 rfl rfl) (Y.loadB1 rfl 0 rfl rfl Tryz.isAgg3) ?_
                            refine R.flo (Gd.t 12 false 71 rfl rfl) (Y.neqI rfl rfl) ?_
                            refine R.flo (Gd.t 2 true 61 rfl rfl) (Y.pickF rfl rfl) ?_
                            refine R.flo Gd.no (Y.pickT rfl rfl) ?_
                            refine R.nil ?_
                            have hx := Option.some.inj hr
                            subst hx
                            refine meet_mk ⟨decide (x8.parent ≠ (0 : Int)), nx_27⟩ rfl (Weak.to [0, 4, 22, 23, 24, 76] [0] rfl)
                          · rw [hb32]; replace hr := cond_t hb32 hr
                            refine R.skip (.f 12 true 71 rfl rfl) ?_
                            refine R.skip (.f 12 true 71 rfl rfl) ?_
                            refine R.skip (.f 12 true 71 rfl rfl) ?_
                            refine R.flo (Gd.t 2 true 61 rfl rfl) (Y.pickT rfl rfl) ?_
                            refine R.flo Gd.no (Y.pickT rfl rfl) ?_
                            refine R.nil ?_
                            have hx := Option.some.inj hr
                            subst hx
                            refine meet_mk ⟨true, nx_27⟩ rfl (Weak.to [0, 4, 22, 23, 24, 76] [0] rfl)
                        · rw [hb30]; replace hr := cond_t hb30 hr
                          refine R.skip (.f 6 true 65 rfl rfl) ?_
                          refine R.skip (.f 6 true 65 rfl rfl) ?_
                          refine R.skip (.f 6 true 65 rfl rfl) ?_
                          refine R.skip (.f 6 true 65 rfl rfl) ?_
                          refine R.flo (Gd.t 2 true 61 rfl rfl) (Y.pickT rfl rfl) ?_
                          refine R.flo (Gd.t 2 true 61 rfl rfl) (Y.move rfl) ?_
                          refine R.skip (.f 12 true 71 rfl rfl) ?_
                          refine R.skip (.f 12 true 71 rfl rfl) ?_
                          refine R.skip (.f 12 true 71 rfl rfl) ?_
                          refine R.flo (Gd.t 2 true 61 rfl rfl) (Y.pickT rfl rfl) ?_
                          refine R.flo Gd.no (Y.pickT rfl rfl) ?_
                          refine R.nil ?_
                          have hx := Option.some.inj hr
                          subst hx
                          refine meet_mk ⟨true, nx_27⟩ rfl (Weak.to [0, 4, 22, 23, 24, 76] [0] rfl)
                    · subst hx
                      have hr := hox33
                      refine Tri.cond rfl (fun hc36 => ?_) (fun hc36 => ?_)
                      · replace hr := cond_t hc36 hr
                        refine Tri.seq ?_
                        refine Tri.region ?_
                        refine R.flo Gd.no (Y.assign rfl) ?_
                        refine R.nil ?_
                        have hx := Option.some.inj hr
                        subst hx
                        have hr := sum_r hox45
                        refine Tri.weak (Weak.to [2] [] rfl) ?_
                        refine Tri.ret ?_
                        have hx := Option.some.inj hr
                        subst hx
                        exact ⟨.inl rfl, _, .inr (.inl ⟨_, _, rfl, rfl, rfl⟩), ⟨rfl, rfl⟩⟩
                      · replace hr := cond_f hc36 hr
                        refine Tri.skip ?_
                        refine Tri.seq ?_
                        refine Tri.seq ?_
                        refine Tri.region ?_
                        refine R.flo Gd.no (Y.fieldP Tryz.fo55_3 rfl) ?_
                        refine R.flo Gd.no (Y.loadB1 rfl 0 rfl rfl Tryz.isAgg9) ?_
                        replace hr := bind_inv hr
                        obtain ⟨r37, hcr37, hr⟩ := hr
                        refine R.call (H1 := []) (H2 := [(o19, .box 55 [.c (.lit (.int .i64 x8.id)), .c (.lit (.int .i64 x8.parent)), .c (.ro 1 false (x8.kids.map encI)), .c (.lit (str x8.text)), .c (.ro 6 false (x8.props.map encP))])]) Gd.no Tryz.en56 rfl (ok_florref1_TextError hcr37 nx_35) (perm_idx [0] rfl) (fun _ _ nx_38 hq => ?_)
                        obtain ⟨rfl, rfl⟩ := hq
                        refine R.flo Gd.no (Y.assign rfl) ?_
                        refine R.nil ?_
                        refine Tri.seq ?_
                        refine Tri.region ?_
                        refine R.flo Gd.no (Y.move rfl) ?_
                        refine R.flo Gd.no (Y.neqI rfl rfl) ?_
                        refine R.nil ?_
                        refine Tri.cond rfl (fun hc39 => ?_) (fun hc39 => ?_)
                        · replace hr := cond_t hc39 hr
                          refine Tri.seq ?_
                          refine Tri.region ?_
                          refine R.flo Gd.no (Y.move rfl) ?_
                          refine R.flo Gd.no (Y.assign rfl) ?_
                          refine R.nil ?_
                          have hx := Option.some.inj hr
                          subst hx
                          have hr := sum_r hox45
                          refine Tri.weak (Weak.to [2] [] rfl) ?_
                          refine Tri.ret ?_
                          have hx := Option.some.inj hr
                          subst hx
                          exact ⟨.inl rfl, _, .inr (.inl ⟨_, _, rfl, rfl, rfl⟩), ⟨rfl, rfl⟩⟩
                        · replace hr := cond_f hc39 hr
                          refine Tri.skip ?_
                          refine Tri.seq ?_
                          refine Tri.seq ?_
                          refine Tri.region ?_
                          refine R.flo Gd.no (Y.fieldP Tryz.fo55_2 rfl) ?_
                          refine R.flo Gd.no (Y.loadB1 rfl 0 rfl rfl Tryz.isAgg52) ?_
                          refine TOps.fact (Fact.lenR (x := .tmp 84) (n := x8.kids.length) rfl (List.length_map ..)) (fun hl40 => ?_)
                          refine R.flo Gd.no (Y.lenR (m := x8.kids.length) Tryz.underlying52 rfl rfl (List.length_map ..)) ?_
                          refine R.flo Gd.no (Y.gtrI rfl rfl) ?_
                          refine R.nil ?_
                          refine Tri.cond rfl (fun hc41 => ?_) (fun hc41 => ?_)
                          · replace hr := cond_t hc41 hr
                            refine Tri.seq ?_
                            refine Tri.region ?_
                            refine R.flo Gd.no (Y.assign rfl) ?_
                            refine R.nil ?_
                            have hx := Option.some.inj hr
                            subst hx
                            have hr := sum_r hox45
                            refine Tri.weak (Weak.to [2] [] rfl) ?_
                            refine Tri.ret ?_
                            have hx := Option.some.inj hr
                            subst hx
                            exact ⟨.inl rfl, _, .inr (.inl ⟨_, _, rfl, rfl, rfl⟩), ⟨rfl, rfl⟩⟩
                          · replace hr := cond_f hc41 hr
                            refine Tri.skip ?_
                            refine Tri.seq ?_
                            refine Tri.region ?_
                            refine R.flo Gd.no (Y.fieldP Tryz.fo55_4 rfl) ?_
                            refine R.flo Gd.no (Y.loadB1 rfl 0 rfl rfl Tryz.isAgg53) ?_
                            replace hr := bind_inv hr
                            obtain ⟨r42, hcr42, hr⟩ := hr
                            refine R.call (H1 := []) (H2 := [(o19, .box 55 [.c (.lit (.int .i64 x8.id)), .c (.lit (.int .i64 x8.parent)), .c (.ro 1 false (x8.kids.map encI)), .c (.lit (str x8.text)), .c (.ro 6 false (x8.props.map encP))])]) Gd.no Tryz.en57 rfl (ok_prop_CheckProps hcr42 nx_38) (perm_idx [0] rfl) (fun _ _ nx_43 hq => ?_)
                            obtain ⟨rfl, rfl⟩ := hq
                            refine R.flo Gd.no (Y.assign rfl) ?_
                            refine R.nil ?_
                            refine Tri.seq ?_
                            refine Tri.region ?_
                            refine R.flo Gd.no (Y.move rfl) ?_
                            refine R.flo Gd.no (Y.neqI rfl rfl) ?_
                            refine R.nil ?_
                            refine Tri.cond rfl (fun hc44 => ?_) (fun hc44 => ?_)
                            · replace hr := cond_t hc44 hr
                              refine Tri.seq ?_
                              refine Tri.region ?_
                              refine R.flo Gd.no (Y.move rfl) ?_
                              refine R.flo Gd.no (Y.assign rfl) ?_
                              refine R.nil ?_
                              have hx := Option.some.inj hr
                              subst hx
                              have hr := sum_r hox45
                              refine Tri.weak (Weak.to [2] [] rfl) ?_
                              refine Tri.ret ?_
                              have hx := Option.some.inj hr
                              subst hx
                              exact ⟨.inl rfl, _, .inr (.inl ⟨_, _, rfl, rfl, rfl⟩), ⟨rfl, rfl⟩⟩
                            · replace hr := cond_f hc44 hr
                              refine Tri.skip ?_
                              refine Tri.region ?_
                              refine R.flo Gd.no (Y.addI rfl rfl (by omega) (by unfold maxLen at *; omega)) ?_
                              refine R.flo Gd.no (Y.move rfl) ?_
                              refine R.nil ?_
                              refine back_mk ⟨v6 + 1, nx_43⟩ ⟨hk, hr⟩ (mu_dec hk) (Weak.to [0, 22, 23, 24] [] rfl)
          · rw [drop_end (nlt_of_dec hc), f_florref1_BaseError_l1] at hr
            refine Tri.exit ?_
            have hx := Option.some.inj hr
            subst hx
            refine meet_mk ⟨(), nx_7⟩ rfl (Weak.to [0] [] rfl)
      · subst hx
        have hr := sum_l hox45
        refine Tri.seq ?_
        refine Tri.seq ?_
        refine Tri.region ?_
        refine R.flo Gd.no (Y.move rfl) ?_
        refine TOps.fact (Fact.lenR (x := .tmp 94) (n := base.length) rfl (List.length_map ..)) (fun hl50 => ?_)
        refine R.flo Gd.no (Y.lenR (m := base.length) Tryz.underlying22 rfl rfl (List.length_map ..)) ?_
        refine R.flo Gd.no (Y.move rfl) ?_
        refine R.nil ?_
        replace hr := bind_inv hr
        obtain ⟨x87, hr, hox87⟩ := hr
        refine Tri.meet1 (α := Unit × Nat) (fun ⟨s88, nx_89⟩ => (.inl s88) = x87) (fun ⟨s88, nx_89⟩ => ⟨164, [(0, some (.v (.one (.c (.ro 5 false (base.map encB))))))], [], nx_89⟩) ?_ (fun ⟨s88, nx_89⟩ hx => ?_)
        · refine Tri.block ?_
          refine Tri.loop (α := Nat × Nat) (fun ⟨v51, nx_52⟩ => v51 ≤ base.length ∧ f_florref1_BaseError_l2 base (base.drop v51)  = some x87) (fun ⟨v51, nx_52⟩ => ⟨164, [(0, some (.v (.one (.c (.ro 5 false (base.map encB)))))), (94, some (.v (.one (.c (.ro 5 false (base.map encB)))))), (95, some (.v (.one (.c (.lit (.int .i64 ((base.length : Int)))))))), (96, some (.v (.one (.c (.lit (.int .i64 ((v51 : Int))))))))], [], nx_52⟩) (fun ⟨v51, nx_52⟩ => base.length - v51) ⟨0, nx_47⟩ ?_ (Weak.to [0, 94, 95, 96] [] rfl) ?_
          · exact ⟨Nat.zero_le _, hr⟩
          · rintro ⟨v51, nx_52⟩ ⟨hk, hr⟩
            refine Tri.seq ?_
            refine Tri.region ?_
            refine R.flo Gd.no (Y.lssI rfl rfl) ?_
            refine R.nil ?_
            refine Tri.seq ?_
            refine Tri.cond rfl (fun hc => ?_) (fun hc => ?_)
            · have hk := lt_of_dec hc
              obtain ⟨x53, hx53⟩ := get_of_lt hk
              rw [drop_at hx53, f_florref1_BaseError_l2] at hr
              refine Tri.skip ?_
              refine Tri.seq ?_
              refine Tri.block ?_
              refine Tri.seq ?_
              refine Tri.region ?_
              refine R.flo Gd.no (Y.idxR v51 Tryz.underlying22 Tryz.sizeOf55 rfl rfl (map_get hx53)) ?_
              refine R.flo Gd.no (Y.loadPN rfl Tryz.isAgg55 Tryz.sizeOf55 rfl rfl) ?_
              refine R.eff Gd.no (E.alloc (cs := [.c (.lit (.int .i64 0)), .c (.lit (.int .i64 0)), .c (.lit (.slice none 0 0)), .c (.lit (str ([] : Bytes))), .c (.lit (.slice none 0 0))]) Tryz.et55.zero Tryz.et55.one (by rfl)) ?_
              refine R.eff Gd.no (E.storeB 0 rfl rfl rfl rfl Tryz.sizeOf55 rfl rfl rfl) ?_
              refine R.nil ?_
              refine Tri.seq ?_
              refine Tri.region ?_
              refine R.flo Gd.no (Y.fieldP Tryz.fo55_2 rfl) ?_
              refine R.flo Gd.no (Y.loadB1 rfl 0 rfl rfl Tryz.isAgg52) ?_
              refine TOps.fact (Fact.lenR (x := .tmp 101) (n := x53.kids.length) rfl (List.length_map ..)) (fun hl54 => ?_)
              refine R.flo Gd.no (Y.lenR (m := x53.kids.length) Tryz.underlying52 rfl rfl (List.length_map ..)) ?_
              refine R.flo Gd.no (Y.move rfl) ?_
              refine R.nil ?_
              replace hr := bind_inv hr
              obtain ⟨x82, hr, hox82⟩ := hr
              refine Tri.meet1 (α := Unit × Nat) (fun ⟨s83, nx_84⟩ => (.inl s83) = x82) (fun ⟨s83, nx_84⟩ => ⟨164, [(0, some (.v (.one (.c (.ro 5 false (base.map encB)))))), (94, some (.v (.one (.c (.ro 5 false (base.map encB)))))), (95, some (.v (.one (.c (.lit (.int .i64 ((base.length : Int)))))))), (96, some (.v (.one (.c (.lit (.int .i64 ((v51 : Int))))))))], [], nx_84⟩) ?_ (fun ⟨s83, nx_84⟩ hx => ?_)
              · refine Tri.block ?_
                refine Tri.loop (α := Nat × Nat × Nat) (fun ⟨v56, o55, nx_57⟩ => v56 ≤ x53.kids.length ∧ f_florref1_BaseError_l3 base x53 (x53.kids.drop v56) v56  = some x82) (fun ⟨v56, o55, nx_57⟩ => ⟨164, [(0, some (.v (.one (.c (.ro 5 false (base.map encB)))))), (8, some (.v (.one (.ptr o55 0 0)))), (94, some (.v (.one (.c (.ro 5 false (base.map encB)))))), (95, some (.v (.one (.c (.lit (.int .i64 ((base.length : Int)))))))), (96, some (.v (.one (.c (.lit (.int .i64 ((v51 : Int)))))))), (101, some (.v (.one (.c (.ro 1 false (x53.kids.map encI)))))), (102, some (.v (.one (.c (.lit (.int .i64 ((x53.kids.length : Int)))))))), (103, some (.v (.one (.c (.lit (.int .i64 ((v56 : Int))))))))], [(o55, .box 55 [.c (.lit (.int .i64 x53.id)), .c (.lit (.int .i64 x53.parent)), .c (.ro 1 false (x53.kids.map encI)), .c (.lit (str x53.text)), .c (.ro 6 false (x53.props.map encP))])], nx_57⟩) (fun ⟨v56, o55, nx_57⟩ => x53.kids.length - v56) ⟨0, nx_52, nx_52 + 1⟩ ?_ (Weak.to [0, 8, 94, 95, 96, 101, 102, 103] [0] rfl) ?_
                · exact ⟨Nat.zero_le _, hr⟩
                · rintro ⟨v56, o55, nx_57⟩ ⟨hk, hr⟩
                  refine Tri.seq ?_
                  refine Tri.region ?_
                  refine R.flo Gd.no (Y.lssI rfl rfl) ?_
                  refine R.nil ?_
                  refine Tri.seq ?_
                  refine Tri.cond rfl (fun hc => ?_) (fun hc => ?_)
                  · have hk := lt_of_dec hc
                    obtain ⟨x58, hx58⟩ := get_of_lt hk
                    rw [drop_at hx58, f_florref1_BaseError_l3] at hr
                    refine Tri.skip ?_
                    refine Tri.seq ?_
                    refine Tri.block ?_
                    refine Tri.seq ?_
                    refine Tri.region ?_
                    refine R.flo Gd.no (Y.move rfl) ?_
                    refine R.flo Gd.no (Y.idxR v56 Tryz.underlying52 Tryz.sizeOf3 rfl rfl (map_get hx58)) ?_
                    refine R.flo Gd.no (Y.loadP1 rfl rfl Tryz.isAgg3) ?_
                    refine R.flo Gd.no (Y.assign rfl) ?_
                    refine R.flo Gd.no (Y.assign rfl) ?_
                    refine R.nil ?_
                    refine Tri.seq ?_
                    refine Tri.region ?_
                    refine R.flo Gd.no (Y.move rfl) ?_
                    refine R.flo Gd.no (Y.move rfl) ?_
                    replace hr := bind_inv hr
                    obtain ⟨r59, hcr59, hr⟩ := hr
                    refine R.call (H1 := []) (H2 := [(o55, .box 55 [.c (.lit (.int .i64 x53.id)), .c (.lit (.int .i64 x53.parent)), .c (.ro 1 false (x53.kids.map encI)), .c (.lit (str x53.text)), .c (.ro 6 false (x53.props.map encP))])]) Gd.no Tryz.en58 rfl (ok_florref1_at hcr59 nx_57) (perm_idx [0] rfl) (fun _ _ nx_60 hq => ?_)
                    obtain ⟨rfl, rfl⟩ := hq
                    refine R.flo Gd.no (Y.assign rfl) ?_
                    refine R.nil ?_
                    refine Tri.seq ?_
                    refine Tri.seq ?_
                    refine Tri.region ?_
                    refine R.flo Gd.no (Y.move rfl) ?_
                    refine R.flo Gd.no (Y.lssI rfl rfl) ?_
                    refine R.nil ?_
                    refine Tri.cond rfl (fun hc61 => ?_) (fun hc61 => ?_)
                    · replace hr := cond_t hc61 hr
                      refine Tri.seq ?_
                      refine Tri.region ?_
                      refine R.flo Gd.no (Y.assign rfl) ?_
                      refine R.nil ?_
                      have hx := Option.some.inj hr
                      subst hx
                      have hr := sum_r hox82
                      have hx := Option.some.inj hr
                      subst hx
                      have hr := sum_r hox87
                      refine Tri.weak (Weak.to [2] [] rfl) ?_
                      refine Tri.ret ?_
                      have hx := Option.some.inj hr
                      subst hx
                      exact ⟨.inl rfl, _, .inr (.inl ⟨_, _, rfl, rfl, rfl⟩), ⟨rfl, rfl⟩⟩
                    · replace hr := cond_f hc61 hr
                      refine Tri.skip ?_
                      refine Tri.seq ?_
                      replace hr := bind_inv hr
                      obtain ⟨x65, hr, hox65⟩ := hr
                      refine Tri.meet (α := Bool × Nat) (fun ⟨s66, nx_67⟩ => s66 = x65) (fun ⟨s66, nx_67⟩ => ⟨164, [(0, some (.v (.one (.c (.ro 5 false (base.map encB)))))), (8, some (.v (.one (.ptr o55 0 0)))), (9, some (.v (.one (.c (.lit (.int .i64 ((v56 : Int)))))))), (10, some (.v (.one (.c (.lit (.int .i64 x58)))))), (94, some (.v (.one (.c (.ro 5 false (base.map encB)))))), (95, some (.v (.one (.c (.lit (.int .i64 ((base.length : Int)))))))), (96, some (.v (.one (.c (.lit (.int .i64 ((v51 : Int)))))))), (101, some (.v (.one (.c (.ro 1 false (x53.kids.map encI)))))), (102, some (.v (.one (.c (.lit (.int .i64 ((x53.kids.length : Int)))))))), (103, some (.v (.one (.c (.lit (.int .i64 ((v56 : Int)))))))), (124, some (.v (.one (.c (.lit (.bool s66))))))], [(o55, .box 55 [.c (.lit (.int .i64 x53.id)), .c (.lit (.int .i64 x53.parent)), .c (.ro 1 false (x53.kids.map encI)), .c (.lit (str x53.text)), .c (.ro 6 false (x53.props.map encP))])], nx_67⟩) ?_ (fun ⟨s66, nx_67⟩ hx => ?_)
                      · refine Tri.draw 12 rfl rfl [] [(o55, .box 55 [.c (.lit (.int .i64 x53.id)), .c (.lit (.int .i64 x53.parent)), .c (.ro 1 false (x53.kids.map encI)), .c (.lit (str x53.text)), .c (.ro 6 false (x53.props.map encP))])] rfl ?_
                        refine TAny.flo 0 rfl (by decide +kernel) (by decide +kernel) (by decide +kernel) Gd.no (Y.move rfl) ?_
                        refine TAny.flo 1 rfl (by decide +kernel) (by decide +kernel) (by decide +kernel) Gd.no (Y.move rfl) ?_
                        replace hr := atn_inv hr
                        obtain ⟨x62, h63, hx62, hr⟩ := hr
                        refine TAny.flo 2 rfl (by decide +kernel) (by decide +kernel) (by decide +kernel) Gd.no (Y.idxR ((r59).toNat) Tryz.underlying22 Tryz.sizeOf55 rfl (ev_tn rfl h63) (map_get hx62)) ?_
                        refine TAny.flo 3 rfl (by decide +kernel) (by decide +kernel) (by decide +kernel) Gd.no (Y.fieldR Tryz.fo55_1 rfl) ?_
                        refine TAny.flo 4 rfl (by decide +kernel) (by decide +kernel) (by decide +kernel) Gd.no (Y.loadP1 rfl rfl Tryz.isAgg3) ?_
                        refine TAny.flo 5 rfl (by decide +kernel) (by decide +kernel) (by decide +kernel) Gd.no (Y.fieldP Tryz.fo55_0 rfl) ?_
                        refine TAny.flo 6 rfl (by decide +kernel) (by decide +kernel) (by decide +kernel) Gd.no (Y.loadB1 rfl 0 rfl rfl Tryz.isAgg3) ?_
                        refine TAny.flo 7 rfl (by decide +kernel) (by decide +kernel) (by decide +kernel) Gd.no (Y.neqI rfl rfl) ?_
                        refine TAny.flo 8 rfl (by decide +kernel) (by decide +kernel) (by decide +kernel) Gd.no (Y.move rfl) ?_
                        refine TAny.part (b := decide (x62.parent ≠ x53.id)) (fun bhb64 hb64 => ?_)
                        cases bhb64
                        · rw [hb64]; replace hr := cond_f hb64 hr
                          refine TAny.flo 9 rfl (by decide +kernel) (by decide +kernel) (by decide +kernel) (Gd.t 8 false 121 rfl rfl) (Y.move rfl) ?_
                          refine TAny.flo 10 rfl (by decide +kernel) (by decide +kernel) (by decide +kernel) (Gd.t 8 false 121 rfl rfl) (Y.eqlI rfl rfl) ?_
                          refine TAny.flo 11 rfl (by decide +kernel) (by decide +kernel) (by decide +kernel) Gd.no (Y.pickF rfl rfl) ?_
                          refine TAny.done (by decide +kernel) ?_
                          have hx := Option.some.inj hr
                          subst hx
                          refine meet_mk ⟨decide (r59 = (0 : Int)), nx_60⟩ rfl (Weak.to [0, 8, 9, 10, 94, 95, 96, 101, 102, 103, 124] [0] rfl)
                        · rw [hb64]; replace hr := cond_t hb64 hr
                          refine TAny.skip 9 rfl (by decide +kernel) (by decide +kernel) (by decide +kernel) (.f 8 true 121 rfl rfl) ?_
                          refine TAny.skip 10 rfl (by decide +kernel) (by decide +kernel) (by decide +kernel) (.f 8 true 121 rfl rfl) ?_
                          refine TAny.flo 11 rfl (by decide +kernel) (by decide +kernel) (by decide +kernel) Gd.no (Y.pickT rfl rfl) ?_
                          refine TAny.done (by decide +kernel) ?_
                          have hx := Option.some.inj hr
                          subst hx
                          refine meet_mk ⟨true, nx_60⟩ rfl (Weak.to [0, 8, 9, 10, 94, 95, 96, 101, 102, 103, 124] [0] rfl)
                      · subst hx
                        have hr := hox65
                        refine Tri.cond rfl (fun hc68 => ?_) (fun hc68 => ?_)
                        · replace hr := cond_t hc68 hr
                          refine Tri.seq ?_
                          refine Tri.region ?_
                          refine R.flo Gd.no (Y.assign rfl) ?_
                          refine R.nil ?_
                          have hx := Option.some.inj hr
                          subst hx
                          have hr := sum_r hox82
                          have hx := Option.some.inj hr
                          subst hx
                          have hr := sum_r hox87
                          refine Tri.weak (Weak.to [2] [] rfl) ?_
                          refine Tri.ret ?_
                          have hx := Option.some.inj hr
                          subst hx
                          exact ⟨.inl rfl, _, .inr (.inl ⟨_, _, rfl, rfl, rfl⟩), ⟨rfl, rfl⟩⟩
                        · replace hr := cond_f hc68 hr
                          refine Tri.skip ?_
                          refine Tri.seq ?_
                          refine Tri.region ?_
                          refine R.flo Gd.no (Y.fieldP Tryz.fo55_2 rfl) ?_
                          refine R.flo Gd.no (Y.loadB1 rfl 0 rfl rfl Tryz.isAgg52) ?_
                          refine R.flo Gd.no (Y.move rfl) ?_
                          replace hr := cut_inv hr
                          obtain ⟨y69, m70, n71, e1, e2, h1, h2, h3, hr⟩ := hr
                          refine R.flo Gd.no (Y.sliceR Tryz.underlying52 Tryz.sizeOf3 rfl (bnd_z e1) (bnd_int rfl e2) h1 (by rw [List.length_map]; exact h2) (cut_map h3)) ?_
                          refine TOps.fact (Fact.lenR (x := .tmp 128) (n := y69.length) rfl (List.length_map ..)) (fun hl72 => ?_)
                          refine R.flo Gd.no (Y.lenR (m := y69.length) Tryz.underlying52 rfl rfl (List.length_map ..)) ?_
                          refine R.flo Gd.no (Y.move rfl) ?_
                          refine R.nil ?_
                          replace hr := bind_inv hr
                          obtain ⟨x77, hr, hox77⟩ := hr
                          refine Tri.meet1 (α := Unit × Nat) (fun ⟨s78, nx_79⟩ => (.inl s78) = x77) (fun ⟨s78, nx_79⟩ => ⟨164, [(0, some (.v (.one (.c (.ro 5 false (base.map encB)))))), (8, some (.v (.one (.ptr o55 0 0)))), (94, some (.v (.one (.c (.ro 5 false (base.map encB)))))), (95, some (.v (.one (.c (.lit (.int .i64 ((base.length : Int)))))))), (96, some (.v (.one (.c (.lit (.int .i64 ((v51 : Int)))))))), (101, some (.v (.one (.c (.ro 1 false (x53.kids.map encI)))))), (102, some (.v (.one (.c (.lit (.int .i64 ((x53.kids.length : Int)))))))), (103, some (.v (.one (.c (.lit (.int .i64 ((v56 : Int))))))))], [(o55, .box 55 [.c (.lit (.int .i64 x53.id)), .c (.lit (.int .i64 x53.parent)), .c (.ro 1 false (x53.kids.map encI)), .c (.lit (str x53.text)), .c (.ro 6 false (x53.props.map encP))])], nx_79⟩) ?_ (fun ⟨s78, nx_79⟩ hx => ?_)
                          · refine Tri.block ?_
                            refine Tri.loop (α := Nat × Nat) (fun ⟨v73, nx_74⟩ => v73 ≤ y69.length ∧ f_florref1_BaseError_l4 x58 (y69.drop v73)  = some x77) (fun ⟨v73, nx_74⟩ => ⟨164, [(0, some (.v (.one (.c (.ro 5 false (base.map encB)))))), (8, some (.v (.one (.ptr o55 0 0)))), (10, some (.v (.one (.c (.lit (.int .i64 x58)))))), (94, some (.v (.one (.c (.ro 5 false (base.map encB)))))), (95, some (.v (.one (.c (.lit (.int .i64 ((base.length : Int)))))))), (96, some (.v (.one (.c (.lit (.int .i64 ((v51 : Int)))))))), (101, some (.v (.one (.c (.ro 1 false (x53.kids.map encI)))))), (102, some (.v (.one (.c (.lit (.int .i64 ((x53.kids.length : Int)))))))), (103, some (.v (.one (.c (.lit (.int .i64 ((v56 : Int)))))))), (128, some (.v (.one (.c (.ro 1 false (y69.map encI)))))), (129, some (.v (.one (.c (.lit (.int .i64 ((y69.length : Int)))))))), (130, some (.v (.one (.c (.lit (.int .i64 ((v73 : Int))))))))], [(o55, .box 55 [.c (.lit (.int .i64 x53.id)), .c (.lit (.int .i64 x53.parent)), .c (.ro 1 false (x53.kids.map encI)), .c (.lit (str x53.text)), .c (.ro 6 false (x53.props.map encP))])], nx_74⟩) (fun ⟨v73, nx_74⟩ => y69.length - v73) ⟨0, nx_67⟩ ?_ (Weak.to [0, 8, 10, 94, 95, 96, 101, 102, 103, 128, 129, 130] [0] rfl) ?_
                            · exact ⟨Nat.zero_le _, hr⟩
                            · rintro ⟨v73, nx_74⟩ ⟨hk, hr⟩
                              refine Tri.seq ?_
                              refine Tri.region ?_
                              refine R.flo Gd.no (Y.lssI rfl rfl) ?_
                              refine R.nil ?_
                              refine Tri.seq ?_
                              refine Tri.cond rfl (fun hc => ?_) (fun hc => ?_)
                              · have hk := lt_of_dec hc
                                obtain ⟨x75, hx75⟩ := get_of_lt hk
                                rw [drop_at hx75, f_florref1_BaseError_l4] at hr
                                refine Tri.skip ?_
                                refine Tri.seq ?_
                                refine Tri.block ?_
                                refine Tri.seq ?_
                                refine Tri.region ?_
                                refine R.flo Gd.no (Y.idxR v73 Tryz.underlying52 Tryz.sizeOf3 rfl rfl (map_get hx75)) ?_
                                refine R.flo Gd.no (Y.loadP1 rfl rfl Tryz.isAgg3) ?_
                                refine R.flo Gd.no (Y.assign rfl) ?_
                                refine R.nil ?_
                                refine Tri.seq ?_
                                refine Tri.region ?_
                                refine R.flo Gd.no (Y.move rfl) ?_
                                refine R.flo Gd.no (Y.move rfl) ?_
                                refine R.flo Gd.no (Y.eqlI rfl rfl) ?_
                                refine R.nil ?_
                                refine Tri.cond rfl (fun hc76 => ?_) (fun hc76 => ?_)
                                · replace hr := cond_t hc76 hr
                                  refine Tri.seq ?_
                                  refine Tri.region ?_
                                  refine R.flo Gd.no (Y.assign rfl) ?_
                                  refine R.nil ?_
                                  have hx := Option.some.inj hr
                                  subst hx
                                  have hr := sum_r hox77
                                  have hx := Option.some.inj hr
                                  subst hx
                                  have hr := sum_r hox82
                                  have hx := Option.some.inj hr
                                  subst hx
                                  have hr := sum_r hox87
                                  refine Tri.weak (Weak.to [2] [] rfl) ?_
                                  refine Tri.ret ?_
                                  have hx := Option.some.inj hr
                                  subst hx
                                  exact ⟨.inl rfl, _, .inr (.inl ⟨_, _, rfl, rfl, rfl⟩), ⟨rfl, rfl⟩⟩
                                · replace hr := cond_f hc76 hr
                                  refine Tri.skip ?_
                                  refine Tri.region ?_
                                  refine R.flo Gd.no (Y.addI rfl rfl (by omega) (by unfold maxLen at *; omega)) ?_
                                  refine R.flo Gd.no (Y.move rfl) ?_
                                  refine R.nil ?_
                                  refine back_mk ⟨v73 + 1, nx_74⟩ ⟨hk, hr⟩ (mu_dec hk) (Weak.to [0, 8, 10, 94, 95, 96, 101, 102, 103, 128, 129, 130] [0] rfl)
                              · rw [drop_end (nlt_of_dec hc), f_florref1_BaseError_l4] at hr
                                refine Tri.exit ?_
                                have hx := Option.some.inj hr
                                subst hx
                                refine meet_mk ⟨(), nx_74⟩ rfl (Weak.to [0, 8, 94, 95, 96, 101, 102, 103] [0] rfl)
                          · subst hx
                            have hr := sum_l hox77
                            refine Tri.region ?_
                            refine R.flo Gd.no (Y.addI rfl rfl (by omega) (by unfold maxLen at *; omega)) ?_
                            refine R.flo Gd.no (Y.move rfl) ?_
                            refine R.nil ?_
                            refine back_mk ⟨v56 + 1, o55, nx_79⟩ ⟨hk, hr⟩ (mu_dec hk) (Weak.to [0, 8, 94, 95, 96, 101, 102, 103] [0] rfl)
                  · rw [drop_end (nlt_of_dec hc), f_florref1_BaseError_l3] at hr
                    refine Tri.exit ?_
                    have hx := Option.some.inj hr
                    subst hx
                    refine meet_mk ⟨(), nx_57⟩ rfl (Weak.to [0, 94, 95, 96] [] rfl)
              · subst hx
                have hr := sum_l hox82
                refine Tri.region ?_
                refine R.flo Gd.no (Y.addI rfl rfl (by omega) (by unfold maxLen at *; omega)) ?_
                refine R.flo Gd.no (Y.move rfl) ?_
                refine R.nil ?_
                refine back_mk ⟨v51 + 1, nx_84⟩ ⟨hk, hr⟩ (mu_dec hk) (Weak.to [0, 94, 95, 96] [] rfl)
            · rw [drop_end (nlt_of_dec hc), f_florref1_BaseError_l2] at hr
              refine Tri.exit ?_
              have hx := Option.some.inj hr
              subst hx
              refine meet_mk ⟨(), nx_52⟩ rfl (Weak.to [0] [] rfl)
        · subst hx
          have hr := sum_l hox87
          refine Tri.seq ?_
          refine Tri.region ?_
          refine R.flo Gd.no (Y.move rfl) ?_
          refine TOps.fact (Fact.lenR (x := .tmp 140) (n := base.length) rfl (List.length_map ..)) (fun hl92 => ?_)
          refine R.flo Gd.no (Y.lenR (m := base.length) Tryz.underlying22 rfl rfl (List.length_map ..)) ?_
          replace hr := ckN_inv hr
          obtain ⟨ha, hr⟩ := hr
          refine R.eff Gd.no (E.makeSlice base.length Tryz.underlying52 Tryz.et3 rfl rfl (fits_len48 ha rfl) ha (make_row (f := encI) (x := (0 : Int)) rfl)) ?_
          refine R.flo Gd.no (Y.assign rfl) ?_
          refine R.nil ?_
          refine Tri.seq ?_
          refine Tri.region ?_
          refine R.flo Gd.no (Y.move rfl) ?_
          refine R.flo Gd.no (Y.move rfl) ?_
          replace hr := bind_inv hr
          obtain ⟨r93, hcr93, hr⟩ := hr
          refine R.call (H1 := [(nx_89, .row 3 1 (rowOf encI (List.replicate base.length ((0 : Int)))))]) (H2 := []) Gd.no Tryz.en59 rfl (ok_florref1_reach_2c97 FUEL hcr93 nx_89 (nx_89 + 1)) (perm_idx [0] rfl) (fun _ _ nx_94 hq => ?_)
          obtain ⟨rfl, rfl⟩ := hq
          refine R.nil ?_
          refine Tri.seq ?_
          refine Tri.seq ?_
          refine Tri.region ?_
          refine R.flo Gd.no (Y.move rfl) ?_
          refine TOps.fact (Fact.lenR (x := .tmp 146) (n := base.length) rfl (List.length_map ..)) (fun hl95 => ?_)
          refine R.flo Gd.no (Y.lenR (m := base.length) Tryz.underlying22 rfl rfl (List.length_map ..)) ?_
          refine R.flo Gd.no (Y.move rfl) ?_
          refine R.nil ?_
          replace hr := bind_inv hr
          obtain ⟨x104, hr, hox104⟩ := hr
          refine Tri.meet1 (α := Unit × Nat) (fun ⟨s105, nx_106⟩ => (.inl s105) = x104) (fun ⟨s105, nx_106⟩ => ⟨164, [], [], nx_106⟩) ?_ (fun ⟨s105, nx_106⟩ hx => ?_)
          · refine Tri.block ?_
            refine Tri.loop (α := Nat × Nat × Nat) (fun ⟨fuel109, v96, nx_97⟩ => f_florref1_BaseError_l5 base r93 fuel109 v96 = some x104) (fun ⟨fuel109, v96, nx_97⟩ => ⟨164, [(14, some (.v (.one (.obj nx_89)))), (147, some (.v (.one (.c (.lit (.int .i64 ((base.length : Int)))))))), (148, some (.v (.one (.c (.lit (.int .i64 ((v96 : Int))))))))], [(nx_89, .row 3 1 (rowOf encI r93))], nx_97⟩) (fun ⟨fuel109, v96, nx_97⟩ => fuel109) ⟨FUEL, 0, nx_94⟩ ?_ (Weak.to [14, 147, 148] [0] rfl) ?_
            · exact hr
            · rintro ⟨fuel109, v96, nx_97⟩ (hr : f_florref1_BaseError_l5 base r93 fuel109 v96 = some x104)
              cases fuel109 with
              | zero => rw [f_florref1_BaseError_l5] at hr; cases hr
              | succ fuel109 =>
                rw [f_florref1_BaseError_l5] at hr
                refine Tri.seq ?_
                refine Tri.region ?_
                refine R.flo Gd.no (Y.lssI rfl rfl) ?_
                refine R.nil ?_
                refine Tri.seq ?_
                refine Tri.cond rfl (fun hc98 => ?_) (fun hc98 => ?_)
                · replace hr := cond_t hc98 hr
                  refine Tri.skip ?_
                  refine Tri.seq ?_
                  refine Tri.block ?_
                  refine Tri.seq ?_
                  refine Tri.region ?_
                  refine R.flo Gd.no (Y.move rfl) ?_
                  refine R.flo Gd.no (Y.assign rfl) ?_
                  refine R.nil ?_
                  refine Tri.seq ?_
                  refine Tri.seq ?_
                  refine Tri.region ?_
                  refine R.flo Gd.no (Y.move rfl) ?_
                  refine R.flo Gd.no (Y.eqlI rfl rfl) ?_
                  refine R.nil ?_
                  refine Tri.cond rfl (fun hc99 => ?_) (fun hc99 => ?_)
                  · replace hr := cond_t hc99 hr
                    refine Tri.exit ?_
                    refine Tri.region ?_
                    replace hr := ckI_inv hr
                    obtain ⟨ha, hb, hr⟩ := hr
                    refine R.flo Gd.no (Y.addI rfl rfl ha hb) ?_
                    refine R.flo Gd.no (Y.move rfl) ?_
                    refine R.nil ?_
                    refine back_mk ⟨fuel109, v96 + 1, nx_97⟩ hr (Nat.lt_succ_self _) (Weak.to [14, 147, 148] [0] rfl)
                  · replace hr := cond_f hc99 hr
                    refine Tri.skip ?_
                    refine Tri.seq ?_
                    refine Tri.seq ?_
                    refine Tri.region ?_
                    refine R.flo Gd.no (Y.move rfl) ?_
                    refine R.flo Gd.no (Y.move rfl) ?_
                    replace hr := bind_inv hr
                    obtain ⟨x100, hx100, hr⟩ := hr
                    refine R.flo Gd.no (Y.idxO v96 0 rfl Tryz.underlying52 Tryz.sizeOf3 rfl rfl (row_get hx100)) ?_
                    refine R.flo Gd.no (Y.loadR1 rfl 0 rfl (row_get hx100) rfl Tryz.isAgg3) ?_
                    refine R.flo Gd.no (Y.eqlI rfl rfl) ?_
                    refine R.nil ?_
                    refine Tri.cond rfl (fun hc101 => ?_) (fun hc101 => ?_)
                    · replace hr := cond_t hc101 hr
                      refine Tri.seq ?_
                      refine Tri.region ?_
                      refine R.flo Gd.no (Y.assign rfl) ?_
                      refine R.nil ?_
                      have hx := Option.some.inj hr
                      subst hx
                      have hr := sum_r hox104
                      refine Tri.weak (Weak.to [2] [] rfl) ?_
                      refine Tri.ret ?_
                      have hx := Option.some.inj hr
                      subst hx
                      exact ⟨.inl rfl, _, .inr (.inl ⟨_, _, rfl, rfl, rfl⟩), ⟨rfl, rfl⟩⟩
                    · replace hr := cond_f hc101 hr
                      refine Tri.skip ?_
                      refine Tri.seq ?_
                      refine Tri.region ?_
                      refine R.flo Gd.no (Y.move rfl) ?_
                      refine R.flo Gd.no (Y.move rfl) ?_
                      replace hr := bind_inv hr
                      obtain ⟨x102, hx102, hr⟩ := hr
                      refine R.flo Gd.no (Y.idxO v96 0 rfl Tryz.underlying52 Tryz.sizeOf3 rfl rfl (row_get hx102)) ?_
                      refine R.flo Gd.no (Y.loadR1 rfl 0 rfl (row_get hx102) rfl Tryz.isAgg3) ?_
                      refine R.flo Gd.no (Y.gtrI rfl rfl) ?_
                      refine R.nil ?_
                      refine Tri.cond rfl (fun hc103 => ?_) (fun hc103 => ?_)
                      · replace hr := cond_t hc103 hr
                        refine Tri.seq ?_
                        refine Tri.region ?_
                        refine R.flo Gd.no (Y.assign rfl) ?_
                        refine R.nil ?_
                        have hx := Option.some.inj hr
                        subst hx
                        have hr := sum_r hox104
                        refine Tri.weak (Weak.to [2] [] rfl) ?_
                        refine Tri.ret ?_
                        have hx := Option.some.inj hr
                        subst hx
                        exact ⟨.inl rfl, _, .inr (.inl ⟨_, _, rfl, rfl, rfl⟩), ⟨rfl, rfl⟩⟩
                      · replace hr := cond_f hc103 hr
                        refine Tri.skip ?_
                        refine Tri.region ?_
                        replace hr := ckI_inv hr
                        obtain ⟨ha, hb, hr⟩ := hr
                        refine R.flo Gd.no (Y.addI rfl rfl ha hb) ?_
                        refine R.flo Gd.no (Y.move rfl) ?_
                        refine R.nil ?_
                        refine back_mk ⟨fuel109, v96 + 1, nx_97⟩ hr (Nat.lt_succ_self _) (Weak.to [14, 147, 148] [0] rfl)
                · replace hr := cond_f hc98 hr
                  refine Tri.exit ?_
                  have hx := Option.some.inj hr
                  subst hx
                  refine meet_mk ⟨(), nx_97⟩ rfl (Weak.to [] [] rfl)
          · subst hx
            have hr := sum_l hox104
            refine Tri.seq ?_
            refine Tri.region ?_
            refine R.flo Gd.no (Y.assign rfl) ?_
            refine R.nil ?_
            refine Tri.ret ?_
            have hx := Option.some.inj hr
            subst hx
            exact ⟨.inl rfl, _, .inr (.inl ⟨_, _, rfl, rfl, rfl⟩), ⟨rfl, rfl⟩⟩
theorem ok_florref2_open {base : List Block} {r : T_florref2_book × Int} (hr : f_florref2_open base = some r) (nx : Nat) : OkH Tryz.prog 13 [.one (.c (.ro 5 false (base.map encB)))] [] nx fun v H' _ => v = .tup [.agg [.c (.ro 5 false (r.1.base.map encB))], .one (.c (.lit (.int .i64 r.2)))] ∧ H' = [] := by
  refine OkH.sub ?_
  refine OkH.intro Tryz.func13 rfl Tryz.ntmps13 (by simp) ?_
  unfold f_florref2_open at hr
  refine Tri.seq ?_
  refine Tri.region ?_
  refine R.eff Gd.no (E.alloc (cs := [.c (.lit (.slice none 0 0))]) Tryz.et37.zero Tryz.et37.one (by rfl)) ?_
  refine R.flo Gd.no (Y.assign rfl) ?_
  refine R.nil ?_
  refine Tri.seq ?_
  refine Tri.region ?_
  refine R.flo Gd.no (Y.move rfl) ?_
  refine R.flo Gd.no (Y.build Tryz.pl37 rfl rfl rfl) ?_
  refine R.flo Gd.no (Y.move rfl) ?_
  replace hr := bind_inv hr
  obtain ⟨r1, hcr1, hr⟩ := hr
  refine R.call (H1 := []) (H2 := [(nx, .box 37 [.c (.lit (.slice none 0 0))])]) Gd.no Tryz.en32 rfl (ok_florref1_BaseError hcr1 (nx + 1)) (perm_idx [0] rfl) (fun _ _ nx_2 hq => ?_)
  obtain ⟨rfl, rfl⟩ := hq
  refine R.eff Gd.no (E.storeB 0 rfl rfl rfl rfl Tryz.sizeOf37 rfl rfl rfl) ?_
  refine R.flo Gd.no (Y.assign rfl) ?_
  refine R.nil ?_
  refine Tri.ret ?_
  have hx := Option.some.inj hr
  subst hx
  exact ⟨.inl rfl, _, .inr (.inr (.inl ⟨_, _, _, _, rfl, ⟨_, _, rfl, (Leads.box 0 rfl), .inr ⟨_, Tryz.isAgg37, Tryz.sizeOf37, Nat.le_of_ble_eq_true rfl, rfl⟩⟩, rfl, rfl⟩)), ⟨_, List.take_sublist 0 _, ⟨rfl, rfl⟩⟩⟩
theorem ok_florref2_FoldOfTitle_1 {w : Bytes} {r : Bool} (hr : f_florref2_FoldOfTitle_1 w = some r) (nx : Nat) : OkH Tryz.prog 25 [.one (.c (.lit (str w)))] [] nx fun v H' _ => v = .v (.one (.c (.lit (.bool r)))) ∧ H' = [] := by
  refine OkH.intro Tryz.func25 rfl Tryz.ntmps25 (by simp) ?_
  unfold f_florref2_FoldOfTitle_1 at hr
  refine Tri.seq ?_
  refine Tri.region ?_
  refine R.flo Gd.no (Y.assign rfl) ?_
  refine R.nil ?_
  refine Tri.seq ?_
  refine Tri.region ?_
  refine R.flo Gd.no (Y.move rfl) ?_
  refine R.flo Gd.no (Y.eqlS rfl rfl) ?_
  refine R.flo Gd.no (Y.assign rfl) ?_
  refine R.nil ?_
  refine Tri.ret ?_
  have hx := Option.some.inj hr
  subst hx
  exact ⟨.inl rfl, _, .inr (.inl ⟨_, _, rfl, rfl, rfl⟩), ⟨rfl, rfl⟩⟩
theorem ok_slices_IndexFunc_string_string_582f {s : List Bytes} {r : Int × (List Bytes)} (hr : f_slices_IndexFunc_string_string_582f s = some r) (o : Nat) (nx : Nat) : OkH Tryz.prog 44 [.one (.obj o), .one (.fn 25 [])] [(o, .row 9 1 (rowOf encS s))] nx fun v H' _ => v = .v (.one (.c (.lit (.int .i64 r.1)))) ∧ H' = [(o, .row 9 1 (rowOf encS r.2))] := by
  refine OkH.intro Tryz.func44 rfl Tryz.ntmps44 (by simp) ?_
  unfold f_slices_IndexFunc_string_string_582f at hr
  refine Tri.seq ?_
  refine Tri.region ?_
  refine R.flo Gd.no (Y.assign rfl) ?_
  refine R.nil ?_
  refine Tri.seq ?_
  refine Tri.seq ?_
  refine Tri.region ?_
  refine R.flo Gd.no (Y.move rfl) ?_
  refine TOps.fact (Fact.lenO (x := .tmp 6) (n := s.length) 0 rfl rfl rowOf_length) (fun hl1 => ?_)
  refine R.flo Gd.no (Y.lenO (m := s.length) 0 rfl Tryz.underlying26 rfl rfl rowOf_length) ?_
  refine R.flo Gd.no (Y.move rfl) ?_
  refine R.nil ?_
  replace hr := bind_inv hr
  obtain ⟨x9, hr, hox9⟩ := hr
  refine Tri.meet1 (α := Unit × Nat) (fun ⟨s10, nx_11⟩ => (.inl s10) = x9) (fun ⟨s10, nx_11⟩ => ⟨19, [], [(o, .row 9 1 (rowOf encS s))], nx_11⟩) ?_ (fun ⟨s10, nx_11⟩ hx => ?_)
  · refine Tri.block ?_
    refine Tri.loop (α := Nat × Nat × Nat) (fun ⟨fuel14, v2, nx_3⟩ => f_slices_IndexFunc_string_string_582f_l1 s fuel14 v2 = some x9) (fun ⟨fuel14, v2, nx_3⟩ => ⟨19, [(0, some (.v (.one (.obj o)))), (1, some (.v (.one (.fn 25 [])))), (7, some (.v (.one (.c (.lit (.int .i64 ((s.length : Int)))))))), (8, some (.v (.one (.c (.lit (.int .i64 ((v2 : Int))))))))], [(o, .row 9 1 (rowOf encS s))], nx_3⟩) (fun ⟨fuel14, v2, nx_3⟩ => fuel14) ⟨FUEL, 0, nx⟩ ?_ (Weak.to [0, 1, 7, 8] [0] rfl) ?_
    · exact hr
    · rintro ⟨fuel14, v2, nx_3⟩ (hr : f_slices_IndexFunc_string_string_582f_l1 s fuel14 v2 = some x9)
      cases fuel14 with
      | zero => rw [f_slices_IndexFunc_string_string_582f_l1] at hr; cases hr
      | succ fuel14 =>
        rw [f_slices_IndexFunc_string_string_582f_l1] at hr
        refine Tri.seq ?_
        refine Tri.region ?_
        refine R.flo Gd.no (Y.lssI rfl rfl) ?_
        refine R.nil ?_
        refine Tri.seq ?_
        refine Tri.cond rfl (fun hc4 => ?_) (fun hc4 => ?_)
        · replace hr := cond_t hc4 hr
          refine Tri.skip ?_
          refine Tri.seq ?_
          refine Tri.block ?_
          refine Tri.seq ?_
          refine Tri.region ?_
          refine R.flo Gd.no (Y.move rfl) ?_
          refine R.flo Gd.no (Y.assign rfl) ?_
          refine R.nil ?_
          refine Tri.seq ?_
          refine Tri.region ?_
          refine R.flo Gd.no (Y.move rfl) ?_
          refine R.flo Gd.no (Y.move rfl) ?_
          refine R.flo Gd.no (Y.move rfl) ?_
          replace hr := bind_inv hr
          obtain ⟨x5, hx5, hr⟩ := hr
          refine R.flo Gd.no (Y.idxO v2 0 rfl Tryz.underlying26 Tryz.sizeOf9 rfl rfl (row_get hx5)) ?_
          refine R.flo Gd.no (Y.loadR1 rfl 0 rfl (row_get hx5) rfl Tryz.isAgg9) ?_
          replace hr := bind_inv hr
          obtain ⟨r6, hcr6, hr⟩ := hr
          refine R.callV (H1 := []) (H2 := [(o, .row 9 1 (rowOf encS s))]) Gd.no Tryz.en25 rfl rfl (ok_florref2_FoldOfTitle_1 hcr6 nx_3) (perm_idx [0] rfl) (fun _ _ nx_7 hq => ?_)
          obtain ⟨rfl, rfl⟩ := hq
          refine R.nil ?_
          refine Tri.cond rfl (fun hc8 => ?_) (fun hc8 => ?_)
          · replace hr := cond_t hc8 hr
            refine Tri.seq ?_
            refine Tri.region ?_
            refine R.flo Gd.no (Y.move rfl) ?_
            refine R.flo Gd.no (Y.assign rfl) ?_
            refine R.nil ?_
            have hx := Option.some.inj hr
            subst hx
            have hr := sum_r hox9
            refine Tri.ret ?_
            have hx := Option.some.inj hr
            subst hx
            exact ⟨.inl rfl, _, .inr (.inl ⟨_, _, rfl, rfl, rfl⟩), ⟨rfl, rfl⟩⟩
          · replace hr := cond_f hc8 hr
            refine Tri.skip ?_
            refine Tri.region ?_
            replace hr := ckI_inv hr
            obtain ⟨ha, hb, hr⟩ := hr
            refine R.flo Gd.no (Y.addI rfl rfl ha hb) ?_
            refine R.flo Gd.no (Y.move rfl) ?_
            refine R.nil ?_
            refine back_mk ⟨fuel14, v2 + 1, nx_7⟩ hr (Nat.lt_succ_self _) (Weak.to [0, 1, 7, 8] [0] rfl)
        · replace hr := cond_f hc4 hr
          refine Tri.exit ?_
          have hx := Option.some.inj hr
          subst hx
          refine meet_mk ⟨(), nx_3⟩ rfl (Weak.to [] [0] rfl)
  · subst hx
    have hr := sum_l hox9
    refine Tri.seq ?_
    refine Tri.region ?_
    refine R.flo Gd.no (Y.assign rfl) ?_
    refine R.nil ?_
    refine Tri.ret ?_
    have hx := Option.some.inj hr
    subst hx
    exact ⟨.inl rfl, _, .inr (.inl ⟨_, _, rfl, rfl, rfl⟩), ⟨rfl, rfl⟩⟩
theorem ok_slices_DeleteFunc_string_string_582f {s : List Bytes} {r : Sum ((List Bytes)) ((List Bytes))} (hr : f_slices_DeleteFunc_string_string_582f s = some r) (o : Nat) (nx : Nat) : OkH Tryz.prog 21 [.one (.obj o), .one (.fn 25 [])] [(o, .row 9 1 (rowOf encS s))] nx fun v H' _ => sumP r (fun rl0 => v = .v (.one (.obj o)) ∧ H' = [(o, .row 9 1 (rowOf encS rl0))]) (fun rr0 => ∃ q0, v = .v (.one (.obj q0)) ∧ H' = [(q0, .row 9 1 (rowOf encS rr0))]) := by
  refine OkH.intro Tryz.func21 rfl Tryz.ntmps21 (by simp) ?_
  unfold f_slices_DeleteFunc_string_string_582f at hr
  refine Tri.seq ?_
  refine Tri.region ?_
  refine R.flo Gd.no (Y.assign rfl) ?_
  refine R.nil ?_
  refine Tri.seq ?_
  refine Tri.region ?_
  refine R.flo Gd.no (Y.move rfl) ?_
  refine R.flo Gd.no (Y.move rfl) ?_
  replace hr := bind_inv hr
  obtain ⟨r1, hcr1, hr⟩ := hr
  refine R.call (H1 := [(o, .row 9 1 (rowOf encS s))]) (H2 := []) Gd.no Tryz.en44 rfl (ok_slices_IndexFunc_string_string_582f hcr1 o nx) (perm_idx [0] rfl) (fun _ _ nx_2 hq => ?_)
  obtain ⟨rfl, rfl⟩ := hq
  refine R.flo Gd.no (Y.assign rfl) ?_
  refine R.nil ?_
  refine Tri.seq ?_
  refine Tri.seq ?_
  refine Tri.region ?_
  refine R.flo Gd.no (Y.move rfl) ?_
  refine R.flo Gd.no (Y.eqlI rfl rfl) ?_
  refine R.nil ?_
  refine Tri.cond rfl (fun hc3 => ?_) (fun hc3 => ?_)
  · replace hr := cond_t hc3 hr
    refine Tri.seq ?_
    refine Tri.region ?_
    refine R.flo Gd.no (Y.move rfl) ?_
    refine R.flo Gd.no (Y.assign rfl) ?_
    refine R.nil ?_
    refine Tri.ret ?_
    have hx := Option.some.inj hr
    subst hx
    exact ⟨.inl rfl, _, .inr (.inl ⟨_, _, rfl, rfl, rfl⟩), (sumP_l ⟨rfl, rfl⟩)⟩
  · replace hr := cond_f hc3 hr
    refine Tri.skip ?_
    refine Tri.seq ?_
    refine Tri.seq ?_
    refine Tri.region ?_
    refine R.flo Gd.no (Y.move rfl) ?_
    replace hr := ckI_inv hr
    obtain ⟨ha, hb, hr⟩ := hr
    refine R.flo Gd.no (Y.addI rfl rfl ha hb) ?_
    refine R.flo Gd.no (Y.assign rfl) ?_
    refine R.nil ?_
    replace hr := bind_inv hr
    obtain ⟨x20, hr, hox20⟩ := hr
    refine Tri.meet1 (α := ((List Bytes) × Int) × Nat) (fun ⟨s21, nx_22⟩ => s21 = x20) (fun ⟨s21, nx_22⟩ => ⟨42, [(0, some (.v (.one (.obj o)))), (5, some (.v (.one (.c (.lit (.int .i64 s21.2))))))], [(o, .row 9 1 (rowOf encS s21.1))], nx_22⟩) ?_ (fun ⟨s21, nx_22⟩ hx => ?_)
    · refine Tri.block ?_
      refine Tri.loop (α := Nat × (List Bytes) × Int × Int × Nat) (fun ⟨fuel23, s4, i5, j6, nx_7⟩ => f_slices_DeleteFunc_string_string_582f_l1 fuel23 s4 i5 j6 = some x20) (fun ⟨fuel23, s4, i5, j6, nx_7⟩ => ⟨42, [(0, some (.v (.one (.obj o)))), (1, some (.v (.one (.fn 25 [])))), (5, some (.v (.one (.c (.lit (.int .i64 i5)))))), (6, some (.v (.one (.c (.lit (.int .i64 j6))))))], [(o, .row 9 1 (rowOf encS s4))], nx_7⟩) (fun ⟨fuel23, s4, i5, j6, nx_7⟩ => fuel23) ⟨FUEL, r1.2, r1.1, r1.1 + 1, nx_2⟩ ?_ (Weak.to [0, 1, 5, 6] [0] rfl) ?_
      · exact hr
      · rintro ⟨fuel23, s4, i5, j6, nx_7⟩ (hr : f_slices_DeleteFunc_string_string_582f_l1 fuel23 s4 i5 j6 = some x20)
        cases fuel23 with
        | zero => rw [f_slices_DeleteFunc_string_string_582f_l1] at hr; cases hr
        | succ fuel23 =>
          rw [f_slices_DeleteFunc_string_string_582f_l1] at hr
          refine Tri.seq ?_
          refine Tri.seq ?_
          refine Tri.region ?_
          refine R.flo Gd.no (Y.move rfl) ?_
          refine R.flo Gd.no (Y.move rfl) ?_
          refine TOps.fact (Fact.lenO (x := .tmp 17) (n := s4.length) 0 rfl rfl rowOf_length) (fun hl8 => ?_)
          refine R.flo Gd.no (Y.lenO (m := s4.length) 0 rfl Tryz.underlying26 rfl rfl rowOf_length) ?_
          refine R.flo Gd.no (Y.lssI rfl rfl) ?_
          refine R.nil ?_
          refine Tri.cond rfl (fun hc9 => ?_) (fun hc9 => ?_)
          · replace hr := cond_t hc9 hr
            refine Tri.skip ?_
            replace hr := bind_inv hr
            obtain ⟨x17, hr, hox17⟩ := hr
            refine Tri.meet (α := ((List Bytes) × Int) × Nat) (fun ⟨s18, nx_19⟩ => s18 = x17) (fun ⟨s18, nx_19⟩ => ⟨42, [(0, some (.v (.one (.obj o)))), (1, some (.v (.one (.fn 25 [])))), (5, some (.v (.one (.c (.lit (.int .i64 s18.2)))))), (6, some (.v (.one (.c (.lit (.int .i64 j6))))))], [(o, .row 9 1 (rowOf encS s18.1))], nx_19⟩) ?_ (fun ⟨s18, nx_19⟩ hx => ?_)
            · refine Tri.block ?_
              refine Tri.seq ?_
              refine Tri.region ?_
              refine R.flo Gd.no (Y.move rfl) ?_
              refine R.flo Gd.no (Y.move rfl) ?_
              replace hr := atn_inv hr
              obtain ⟨x10, h11, hx10, hr⟩ := hr
              refine R.flo Gd.no (Y.idxO ((j6).toNat) 0 rfl Tryz.underlying26 Tryz.sizeOf9 rfl (ev_tn rfl h11) (row_get hx10)) ?_
              refine R.flo Gd.no (Y.loadR1 rfl 0 rfl (row_get hx10) rfl Tryz.isAgg9) ?_
              refine R.flo Gd.no (Y.assign rfl) ?_
              refine R.nil ?_
              refine Tri.seq ?_
              refine Tri.region ?_
              refine R.flo Gd.no (Y.move rfl) ?_
              refine R.flo Gd.no (Y.move rfl) ?_
              replace hr := bind_inv hr
              obtain ⟨r12, hcr12, hr⟩ := hr
              refine R.callV (H1 := []) (H2 := [(o, .row 9 1 (rowOf encS s4))]) Gd.no Tryz.en25 rfl rfl (ok_florref2_FoldOfTitle_1 hcr12 nx_7) (perm_idx [0] rfl) (fun _ _ nx_13 hq => ?_)
              obtain ⟨rfl, rfl⟩ := hq
              refine R.flo Gd.no (Y.not rfl) ?_
              refine R.nil ?_
              refine Tri.cond rfl (fun hc14 => ?_) (fun hc14 => ?_)
              · replace hr := cond_t hc14 hr
                refine Tri.seq ?_
                refine Tri.region ?_
                refine R.flo Gd.no (Y.move rfl) ?_
                refine R.flo Gd.no (Y.move rfl) ?_
                refine R.flo Gd.no (Y.move rfl) ?_
                replace hr := atn_inv hr
                obtain ⟨x15, h16, hx15, hr⟩ := hr
                refine R.flo Gd.no (Y.idxO ((i5).toNat) 0 rfl Tryz.underlying26 Tryz.sizeOf9 rfl (ev_tn rfl h16) (row_get hx15)) ?_
                refine R.eff Gd.no (E.storeT x10 0 rfl rfl rfl rfl Tryz.sizeOf9 rfl (row_get hx15) rfl rfl) ?_
                refine R.nil ?_
                refine Tri.region ?_
                refine R.flo Gd.no (Y.move rfl) ?_
                replace hr := ckI_inv hr
                obtain ⟨ha, hb, hr⟩ := hr
                refine R.flo Gd.no (Y.addI rfl rfl ha hb) ?_
                refine R.flo Gd.no (Y.assign rfl) ?_
                refine R.nil ?_
                have hx := Option.some.inj hr
                subst hx
                refine meet_mk ⟨(s4.set ((i5).toNat) x10, i5 + 1), nx_13⟩ rfl (Weak.to [0, 1, 5, 6] [0] rfl)
              · replace hr := cond_f hc14 hr
                refine Tri.skip ?_
                have hx := Option.some.inj hr
                subst hx
                refine meet_mk ⟨(s4, i5), nx_13⟩ rfl (Weak.to [0, 1, 5, 6] [0] rfl)
            · subst hx
              have hr := hox17
              refine Tri.region ?_
              refine R.flo Gd.no (Y.move rfl) ?_
              replace hr := ckI_inv hr
              obtain ⟨ha, hb, hr⟩ := hr
              refine R.flo Gd.no (Y.addI rfl rfl ha hb) ?_
              refine R.flo Gd.no (Y.assign rfl) ?_
              refine R.nil ?_
              refine back_mk ⟨fuel23, s18.1, s18.2, j6 + 1, nx_19⟩ hr (Nat.lt_succ_self _) (Weak.to [0, 1, 5, 6] [0] rfl)
          · replace hr := cond_f hc9 hr
            refine Tri.exit ?_
            have hx := Option.some.inj hr
            subst hx
            refine meet_mk ⟨(s4, i5), nx_7⟩ rfl (Weak.to [0, 5] [0] rfl)
    · subst hx
      have hr := hox20
      refine Tri.seq ?_
      refine Tri.region ?_
      refine R.flo Gd.no (Y.move rfl) ?_
      refine R.flo Gd.no (Y.move rfl) ?_
      replace hr := ckP_inv hr
      obtain ⟨⟨h0, h1⟩, hr⟩ := hr
      refine R.flo Gd.no (Y.subO 0 rfl Tryz.underlying26 Tryz.sizeOf9 rfl (bnd_tn rfl h0) rfl (by rw [rowOf_length]; omega) (Nat.le_refl _) (by rw [rowOf_length])) ?_
      replace hr := ckP_inv hr
      obtain ⟨h0, hr⟩ := hr
      refine R.eff Gd.no (E.clearSub 0 rfl Tryz.underlying26 Tryz.et9 rfl (by rw [rowOf_length]; exact h0) rfl (clear_row (f := encS) (x := ([] : Bytes)) rfl)) ?_
      refine R.nil ?_
      refine Tri.seq ?_
      refine Tri.region ?_
      refine R.flo Gd.no (Y.move rfl) ?_
      refine R.flo Gd.no (Y.move rfl) ?_
      replace hr := cut_inv hr
      obtain ⟨y24, m25, n26, e1, e2, h1, h2, h3, hr⟩ := hr
      refine R.eff Gd.no (E.cutO 0 rfl Tryz.underlying26 Tryz.sizeOf9 rfl (bnd_z e1) (bnd_int rfl e2) (.inl rfl) h1 (by rw [rowOf_length]; exact h2) (row_cut h3)) ?_
      refine R.flo Gd.no (Y.assign rfl) ?_
      refine R.nil ?_
      refine Tri.ret ?_
      have hx := Option.some.inj hr
      subst hx
      exact ⟨.inl rfl, _, .inr (.inl ⟨_, _, rfl, rfl, rfl⟩), (sumP_r ⟨nx_22, rfl, rfl⟩)⟩
theorem ok_florref2_bytesSmall {s : Bytes} {r : Bytes} (hr : f_florref2_bytesSmall s = some r) (nx : Nat) : OkH Tryz.prog 48 [.one (.c (.lit (str s)))] [] nx fun v H' _ => v = .v (.one (.c (.lit (str r)))) ∧ H' = [] := by
  refine OkH.intro Tryz.func48 rfl Tryz.ntmps48 (by simp) ?_
  unfold f_florref2_bytesSmall at hr
  refine Tri.seq ?_
  refine Tri.region ?_
  refine R.flo Gd.no (Y.assign rfl) ?_
  refine R.nil ?_
  refine Tri.seq ?_
  refine Tri.region ?_
  refine R.flo Gd.no (Y.move rfl) ?_
  replace hr := ckN_inv hr
  obtain ⟨ha, hr⟩ := hr
  refine R.eff Gd.no (E.strBytes Tryz.underlying9 Tryz.underlying73 Tryz.underlying5 rfl ha) ?_
  refine R.flo Gd.no (Y.assign rfl) ?_
  refine R.nil ?_
  refine Tri.seq ?_
  refine Tri.seq ?_
  refine Tri.region ?_
  refine R.flo Gd.no (Y.move rfl) ?_
  refine TOps.fact (Fact.lenO (x := .tmp 8) (n := (nums s).length) 0 rfl rfl rowOf_length) (fun hl1 => ?_)
  refine R.flo Gd.no (Y.lenO (m := (nums s).length) 0 rfl Tryz.underlying73 rfl rfl rowOf_length) ?_
  refine R.flo Gd.no (Y.move rfl) ?_
  refine R.nil ?_
  replace hr := bind_inv hr
  obtain ⟨x13, hr, hox13⟩ := hr
  refine Tri.meet1 (α := ((List Int)) × Nat) (fun ⟨s14, nx_15⟩ => s14 = x13) (fun ⟨s14, nx_15⟩ => ⟨29, [(3, some (.v (.one (.obj nx))))], [(nx, .row 5 1 (rowOf (encK .u8) s14))], nx_15⟩) ?_ (fun ⟨s14, nx_15⟩ hx => ?_)
  · refine Tri.block ?_
    refine Tri.loop (α := Nat × (List Int) × Nat) (fun ⟨v3, b2, nx_4⟩ => v3 ≤ (nums s).length ∧ f_florref2_bytesSmall_l1 ((nums s).drop v3) v3 b2 = some x13) (fun ⟨v3, b2, nx_4⟩ => ⟨29, [(3, some (.v (.one (.obj nx)))), (8, some (.v (.one (.obj nx)))), (9, some (.v (.one (.c (.lit (.int .i64 (((nums s).length : Int)))))))), (10, some (.v (.one (.c (.lit (.int .i64 ((v3 : Int))))))))], [(nx, .row 5 1 (rowOf (encK .u8) b2))], nx_4⟩) (fun ⟨v3, b2, nx_4⟩ => (nums s).length - v3) ⟨0, nums s, nx + 1⟩ ?_ (Weak.to [3, 8, 9, 10] [0] rfl) ?_
    · exact ⟨Nat.zero_le _, hr⟩
    · rintro ⟨v3, b2, nx_4⟩ ⟨hk, hr⟩
      refine Tri.seq ?_
      refine Tri.region ?_
      refine R.flo Gd.no (Y.lssI rfl rfl) ?_
      refine R.nil ?_
      refine Tri.seq ?_
      refine Tri.cond rfl (fun hc => ?_) (fun hc => ?_)
      · have hk := lt_of_dec hc
        obtain ⟨x5, hx5⟩ := get_of_lt hk
        rw [drop_at hx5, f_florref2_bytesSmall_l1] at hr
        refine Tri.skip ?_
        refine Tri.seq ?_
        refine Tri.block ?_
        refine Tri.seq ?_
        refine Tri.region ?_
        refine R.flo Gd.no (Y.move rfl) ?_
        replace hr := bind_inv hr
        obtain ⟨x6, hx6, hr⟩ := hr
        refine R.flo Gd.no (Y.idxO v3 0 rfl Tryz.underlying73 Tryz.sizeOf5 rfl rfl (row_get hx6)) ?_
        refine R.flo Gd.no (Y.loadR1 rfl 0 rfl (row_get hx6) rfl Tryz.isAgg5) ?_
        refine R.flo Gd.no (Y.assign rfl) ?_
        refine R.flo Gd.no (Y.assign rfl) ?_
        refine R.nil ?_
        replace hr := bind_inv hr
        obtain ⟨x8, hr, hox8⟩ := hr
        refine Tri.meet (α := Bool × Nat) (fun ⟨s9, nx_10⟩ => s9 = x8) (fun ⟨s9, nx_10⟩ => ⟨29, [(3, some (.v (.one (.obj nx)))), (4, some (.v (.one (.c (.lit (.int .i64 ((v3 : Int)))))))), (5, some (.v (.one (.c (.lit (.int .u8 x6)))))), (8, some (.v (.one (.obj nx)))), (9, some (.v (.one (.c (.lit (.int .i64 (((nums s).length : Int)))))))), (10, some (.v (.one (.c (.lit (.int .i64 ((v3 : Int)))))))), (20, some (.v (.one (.c (.lit (.bool s9))))))], [(nx, .row 5 1 (rowOf (encK .u8) b2))], nx_10⟩) ?_ (fun ⟨s9, nx_10⟩ hx => ?_)
        · refine Tri.region ?_
          refine R.flo Gd.no (Y.move rfl) ?_
          refine R.flo Gd.no (Y.geqI rfl rfl) ?_
          refine R.flo Gd.no (Y.move rfl) ?_
          refine TOps.part (b := decide ((65 : Int) ≤ x6)) (fun bhb7 hb7 => ?_)
          cases bhb7
          · rw [hb7]; replace hr := cond_f hb7 hr
            refine R.skip (.f 2 false 17 rfl rfl) ?_
            refine R.skip (.f 2 false 17 rfl rfl) ?_
            refine R.flo Gd.no (Y.pickF rfl rfl) ?_
            refine R.nil ?_
            have hx := Option.some.inj hr
            subst hx
            refine meet_mk ⟨false, nx_4⟩ rfl (Weak.to [3, 4, 5, 8, 9, 10, 20] [0] rfl)
          · rw [hb7]; replace hr := cond_t hb7 hr
            refine R.flo (Gd.t 2 true 17 rfl rfl) (Y.move rfl) ?_
            refine R.flo (Gd.t 2 true 17 rfl rfl) (Y.leqI rfl rfl) ?_
            refine R.flo Gd.no (Y.pickT rfl rfl) ?_
            refine R.nil ?_
            have hx := Option.some.inj hr
            subst hx
            refine meet_mk ⟨decide (x6 ≤ (90 : Int)), nx_4⟩ rfl (Weak.to [3, 4, 5, 8, 9, 10, 20] [0] rfl)
        · subst hx
          have hr := hox8
          refine Tri.cond rfl (fun hc11 => ?_) (fun hc11 => ?_)
          · replace hr := cond_t hc11 hr
            refine Tri.region ?_
            refine R.flo Gd.no (Y.move rfl) ?_
            refine R.flo Gd.no (Y.move rfl) ?_
            refine R.flo Gd.no (Y.move rfl) ?_
            refine R.flo Gd.no (Y.addK rfl rfl) ?_
            replace hr := bind_inv hr
            obtain ⟨x12, hx12, hr⟩ := hr
            refine R.flo Gd.no (Y.idxO v3 0 rfl Tryz.underlying73 Tryz.sizeOf5 rfl rfl (row_get hx12)) ?_
            refine R.eff Gd.no (E.storeT (IntKind.u8.wrap (x6 + 32)) 0 rfl rfl rfl rfl Tryz.sizeOf5 rfl (row_get hx12) rfl rfl) ?_
            refine R.nil ?_
            refine Tri.region ?_
            refine R.flo Gd.no (Y.addI rfl rfl (by omega) (by unfold maxLen at *; omega)) ?_
            refine R.flo Gd.no (Y.move rfl) ?_
            refine R.nil ?_
            refine back_mk ⟨v3 + 1, b2.set v3 (IntKind.u8.wrap (x6 + 32)), nx_10⟩ ⟨hk, hr⟩ (mu_dec hk) (Weak.to [3, 8, 9, 10] [0] rfl)
          · replace hr := cond_f hc11 hr
            refine Tri.skip ?_
            refine Tri.region ?_
            refine R.flo Gd.no (Y.addI rfl rfl (by omega) (by unfold maxLen at *; omega)) ?_
            refine R.flo Gd.no (Y.move rfl) ?_
            refine R.nil ?_
            refine back_mk ⟨v3 + 1, b2, nx_10⟩ ⟨hk, hr⟩ (mu_dec hk) (Weak.to [3, 8, 9, 10] [0] rfl)
      · rw [drop_end (nlt_of_dec hc), f_florref2_bytesSmall_l1] at hr
        refine Tri.exit ?_
        have hx := Option.some.inj hr
        subst hx
        refine meet_mk ⟨b2, nx_4⟩ rfl (Weak.to [3] [0] rfl)
  · subst hx
    have hr := hox13
    refine Tri.seq ?_
    refine Tri.region ?_
    refine R.flo Gd.no (Y.move rfl) ?_
    refine R.flo Gd.no (Y.bytesStr 0 rfl Tryz.underlying73 Tryz.underlying9 Tryz.underlying5 rfl) ?_
    refine R.flo Gd.no (Y.assign rfl) ?_
    refine R.nil ?_
    refine Tri.weak (Weak.to [2] [] rfl) ?_
    refine Tri.ret ?_
    have hx := Option.some.inj hr
    subst hx
    exact ⟨.inl rfl, _, .inr (.inl ⟨_, _, rfl, rfl, rfl⟩), ⟨rfl, rfl⟩⟩
end Go.Fl
