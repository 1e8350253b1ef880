/- The walks: each function of the program answers as its plain program does. -/
import Derived.Test.YtlaommikkfojfaaGreatDoorFlFacts
import Derived.Test.YtlaommikkfojfaaGreatDoorFlTypes
import Derived.Test.YtlaommikkfojfaaGreatDoorFlRounds
import Derived.Test.YtlaommikkfojfaaGreatDoorFlPrims
import Derived.Test.YtlaommikkfojfaaGreatDoorFlLays
import Derived.Test.YtlaommikkfojfaaGreatDoorFlP1
import Derived.Test.YtlaommikkfojfaaGreatDoorFlG2
namespace Go.Fl
open Go Go.Proofs
set_option maxRecDepth 100000
set_option linter.unusedVariables false
set_option linter.unusedSimpArgs false
theorem ok_florref2_small {s : Bytes} {r : Bytes} (hr : f_florref2_small s = some r) (nx : Nat) : OkH Tryz.prog 24 [.one (.c (.lit (str s)))] [] nx fun v H' _ => v = .v (.one (.c (.lit (str r)))) ∧ H' = [] := by
  refine OkH.intro Tryz.func24 rfl Tryz.ntmps24 (by simp) ?_
  unfold f_florref2_small at hr
  refine Tri.seq ?_
  refine Tri.region ?_
  refine R.flo Gd.no (Y.assign rfl) ?_
  refine R.nil ?_
  refine Tri.seq ?_
  refine Tri.region ?_
  refine R.flo Gd.no (Y.move rfl) ?_
  replace hr := bind_inv hr
  obtain ⟨r1, hcr1, hr⟩ := hr
  refine R.call (H1 := []) (H2 := []) Gd.no Tryz.en48 rfl (ok_florref2_bytesSmall hcr1 nx) (perm_idx [] rfl) (fun _ _ nx_2 hq => ?_)
  obtain ⟨rfl, rfl⟩ := hq
  refine R.flo Gd.no (Y.assign rfl) ?_
  refine R.nil ?_
  refine Tri.ret ?_
  have hx := Option.some.inj hr
  subst hx
  exact ⟨.inl rfl, _, .inr (.inl ⟨_, _, rfl, rfl, rfl⟩), ⟨rfl, rfl⟩⟩
theorem ok_florref2_FoldOfTitle {s : Bytes} {r : Bytes} (hr : f_florref2_FoldOfTitle s = some r) (nx : Nat) : OkH Tryz.prog 10 [.one (.c (.lit (str s)))] [] nx fun v H' _ => v = .v (.one (.c (.lit (str r)))) ∧ H' = [] := by
  refine OkH.intro Tryz.func10 rfl Tryz.ntmps10 (by simp) ?_
  unfold f_florref2_FoldOfTitle at hr
  refine Tri.seq ?_
  refine Tri.region ?_
  refine R.flo Gd.no (Y.assign rfl) ?_
  refine R.nil ?_
  refine Tri.seq ?_
  refine Tri.region ?_
  refine R.flo Gd.no (Y.move rfl) ?_
  replace hr := bind_inv hr
  obtain ⟨r1, hcr1, hr⟩ := hr
  refine R.call (H1 := []) (H2 := []) Gd.no Tryz.en19 rfl (ok_strings_Split_8e1a hcr1 nx) (perm_idx [] rfl) (fun _ _ nx_3 hq => ?_)
  obtain ⟨o2, rfl, rfl⟩ := hq
  replace hr := bind_inv hr
  obtain ⟨(r4_c0 | r4_c1), hcr4, hr⟩ := hr
  · replace hr := (sum_l hr)
    refine R.call (H1 := [(o2, .row 9 1 (rowOf encS r1))]) (H2 := []) Gd.no Tryz.en21 rfl (ok_slices_DeleteFunc_string_string_582f hcr4 o2 nx_3) (perm_idx [0] rfl) (fun _ _ nx_5 hq => ?_)
    obtain ⟨rfl, rfl⟩ := hq
    replace hr := bind_inv hr
    obtain ⟨r6, hcr6, hr⟩ := hr
    refine R.call (H1 := [(o2, .row 9 1 (rowOf encS r4_c0))]) (H2 := []) Gd.no Tryz.en23 rfl (Prim.join_own Tryz.lays156 Tryz.Builder_Extra_156 hcr6 o2 nx_5) (perm_idx [0] rfl) (fun _ _ nx_7 hq => ?_)
    obtain ⟨rfl, rfl⟩ := hq
    replace hr := bind_inv hr
    obtain ⟨r8, hcr8, hr⟩ := hr
    refine R.call (H1 := []) (H2 := [(o2, .row 9 1 (rowOf encS r4_c0))]) Gd.no Tryz.en24 rfl (ok_florref2_small hcr8 nx_7) (perm_idx [0] rfl) (fun _ _ nx_9 hq => ?_)
    obtain ⟨rfl, rfl⟩ := hq
    refine R.flo Gd.no (Y.assign rfl) ?_
    refine R.nil ?_
    refine Tri.weak (Weak.to [2] [] rfl) ?_
    refine Tri.ret ?_
    have hx := Option.some.inj hr
    subst hx
    exact ⟨.inl rfl, _, .inr (.inl ⟨_, _, rfl, rfl, rfl⟩), ⟨rfl, rfl⟩⟩
  · replace hr := (sum_r hr)
    refine R.call (H1 := [(o2, .row 9 1 (rowOf encS r1))]) (H2 := []) Gd.no Tryz.en21 rfl (ok_slices_DeleteFunc_string_string_582f hcr4 o2 nx_3) (perm_idx [0] rfl) (fun _ _ nx_11 hq => ?_)
    obtain ⟨o10, rfl, rfl⟩ := hq
    replace hr := bind_inv hr
    obtain ⟨r12, hcr12, hr⟩ := hr
    refine R.call (H1 := [(o10, .row 9 1 (rowOf encS r4_c1))]) (H2 := []) Gd.no Tryz.en23 rfl (Prim.join_own Tryz.lays156 Tryz.Builder_Extra_156 hcr12 o10 nx_11) (perm_idx [0] rfl) (fun _ _ nx_13 hq => ?_)
    obtain ⟨rfl, rfl⟩ := hq
    replace hr := bind_inv hr
    obtain ⟨r14, hcr14, hr⟩ := hr
    refine R.call (H1 := []) (H2 := [(o10, .row 9 1 (rowOf encS r4_c1))]) Gd.no Tryz.en24 rfl (ok_florref2_small hcr14 nx_13) (perm_idx [0] rfl) (fun _ _ nx_15 hq => ?_)
    obtain ⟨rfl, rfl⟩ := hq
    refine R.flo Gd.no (Y.assign rfl) ?_
    refine R.nil ?_
    refine Tri.weak (Weak.to [2] [] rfl) ?_
    refine Tri.ret ?_
    have hx := Option.some.inj hr
    subst hx
    exact ⟨.inl rfl, _, .inr (.inl ⟨_, _, rfl, rfl, rfl⟩), ⟨rfl, rfl⟩⟩
theorem ok_florref2_book_pages {b : T_florref2_book} {r : (List Int)} (hr : f_florref2_book_pages b = some r) (nx : Nat) : OkH Tryz.prog 42 [.agg [.c (.ro 5 false (b.base.map encB))]] [] nx fun v H' _ => v = .v (.one (.c (.ro 1 false (r.map encI)))) ∧ H' = [] := by
  refine OkH.intro Tryz.func42 rfl Tryz.ntmps42 (by simp) ?_
  unfold f_florref2_book_pages at hr
  refine Tri.seq ?_
  refine Tri.region ?_
  refine R.eff Gd.no (E.box (cs := [.c (.ro 5 false (b.base.map encB))]) rfl rfl rfl) ?_
  refine R.flo Gd.no (Y.assign rfl) ?_
  refine R.nil ?_
  refine Tri.seq ?_
  refine Tri.region ?_
  refine R.flo Gd.no (Y.fieldP Tryz.fo37_0 rfl) ?_
  refine R.flo Gd.no (Y.loadB1 rfl 0 rfl rfl Tryz.isAgg22) ?_
  replace hr := bind_inv hr
  obtain ⟨x1, hx1, hr⟩ := hr
  refine R.flo Gd.no (Y.idxR 0 Tryz.underlying22 Tryz.sizeOf55 rfl rfl (map_get hx1)) ?_
  refine R.flo Gd.no (Y.fieldR Tryz.fo55_2 rfl) ?_
  refine R.flo Gd.no (Y.loadP1 rfl rfl Tryz.isAgg52) ?_
  refine R.flo Gd.no (Y.assign rfl) ?_
  refine R.nil ?_
  refine Tri.weak (Weak.to [2] [] rfl) ?_
  refine Tri.ret ?_
  have hx := Option.some.inj hr
  subst hx
  exact ⟨.inl rfl, _, .inr (.inl ⟨_, _, rfl, rfl, rfl⟩), ⟨rfl, rfl⟩⟩
theorem ok_slices_Clone_int_int {s : List Int} {r : (List Int)} (hr : f_slices_Clone_int_int s = some r) (nx : Nat) : OkH Tryz.prog 60 [.one (.c (.ro 1 false (s.map encI)))] [] nx fun v H' _ => ∃ q0, v = .v (.one (.obj q0)) ∧ H' = [(q0, .row 3 1 (rowOf encI r))] := by
  refine OkH.intro Tryz.func60 rfl Tryz.ntmps60 (by simp) ?_
  unfold f_slices_Clone_int_int at hr
  refine Tri.seq ?_
  refine Tri.region ?_
  refine R.flo Gd.no (Y.assign rfl) ?_
  refine R.nil ?_
  refine Tri.seq ?_
  refine Tri.seq ?_
  refine Tri.region ?_
  refine R.flo Gd.no (Y.move rfl) ?_
  refine R.nilS rfl Tryz.underlying52 rfl rfl (fun bhnil1 hnil1 => ?_)
  refine R.nil ?_
  refine Tri.cond rfl (fun hc => ?_) (fun hc => ?_)
  · have hl := List.map_eq_nil_iff.1 (hnil1 hc)
    subst hl
    replace hr : (some (([] : List Int))) = some _ := hr
    refine Tri.seq ?_
    refine Tri.region ?_
    refine R.flo Gd.no (Y.assign rfl) ?_
    refine R.nil ?_
    refine Tri.weak (Weak.virt (t := 2) 3 1 rfl) ?_
    refine Tri.ret ?_
    have hx := Option.some.inj hr
    subst hx
    exact ⟨.inl rfl, _, .inr (.inl ⟨_, _, rfl, rfl, rfl⟩), ⟨nx, rfl, rfl⟩⟩
  · refine Tri.skip ?_
    refine Tri.seq ?_
    refine Tri.region ?_
    refine R.eff Gd.no (E.buildSlice0 Tryz.underlying52 Tryz.sizeOf3) ?_
    refine R.flo Gd.no (Y.move rfl) ?_
    replace hr := ckN_inv hr
    obtain ⟨ha, hr⟩ := hr
    refine R.eff Gd.no (E.append (es := rowOf encI (([] : List Int))) (es' := rowOf encI ((([] : List Int)) ++ s)) 0 rfl Tryz.underlying52 Tryz.et3 rfl rfl Holds.ro (fits_len ha (app_len rowOf_length (by rw [clos_length, List.length_map])) rfl) (fits_max ha (app_len rowOf_length (by rw [clos_length, List.length_map]))) rfl (rowOf_app ..)) ?_
    refine R.flo Gd.no (Y.assign rfl) ?_
    refine R.nil ?_
    refine Tri.ret ?_
    have hx := Option.some.inj hr
    subst hx
    exact ⟨.inl rfl, _, .inr (.inl ⟨_, _, rfl, rfl, rfl⟩), ⟨nx + 1, rfl, rfl⟩⟩
theorem ok_florref2_book_sorted {b : T_florref2_book} {r : (List Int)} (hr : f_florref2_book_sorted b = some r) (nx : Nat) : OkH Tryz.prog 33 [.agg [.c (.ro 5 false (b.base.map encB))]] [] nx fun v H' _ => v = .v (.one (.c (.ro 1 false (r.map encI)))) ∧ H' = [] := by
  refine OkH.intro Tryz.func33 rfl Tryz.ntmps33 (by simp) ?_
  unfold f_florref2_book_sorted at hr
  refine Tri.seq ?_
  refine Tri.region ?_
  refine R.eff Gd.no (E.box (cs := [.c (.ro 5 false (b.base.map encB))]) rfl rfl rfl) ?_
  refine R.flo Gd.no (Y.assign rfl) ?_
  refine R.nil ?_
  refine Tri.seq ?_
  refine Tri.region ?_
  refine R.flo Gd.no (Y.loadBN rfl 0 rfl Tryz.isAgg37 Tryz.sizeOf37 rfl rfl) ?_
  replace hr := bind_inv hr
  obtain ⟨r1, hcr1, hr⟩ := hr
  refine R.call (H1 := []) (H2 := [(nx, .box 37 [.c (.ro 5 false (b.base.map encB))])]) Gd.no Tryz.en42 rfl (ok_florref2_book_pages hcr1 (nx + 1)) (perm_idx [0] rfl) (fun _ _ nx_2 hq => ?_)
  obtain ⟨rfl, rfl⟩ := hq
  replace hr := bind_inv hr
  obtain ⟨r3, hcr3, hr⟩ := hr
  refine R.call (H1 := []) (H2 := [(nx, .box 37 [.c (.ro 5 false (b.base.map encB))])]) Gd.no Tryz.en60 rfl (ok_slices_Clone_int_int hcr3 nx_2) (perm_idx [0] rfl) (fun _ _ nx_5 hq => ?_)
  obtain ⟨o4, rfl, rfl⟩ := hq
  refine R.flo Gd.no (Y.assign rfl) ?_
  refine R.nil ?_
  refine Tri.seq ?_
  refine Tri.region ?_
  refine R.flo Gd.no (Y.move rfl) ?_
  replace hr := bind_inv hr
  obtain ⟨r6, hcr6, hr⟩ := hr
  refine R.call (H1 := [(o4, .row 3 1 (rowOf encI r3))]) (H2 := [(nx, .box 37 [.c (.ro 5 false (b.base.map encB))])]) Gd.no Tryz.en53 rfl (Prim.sortI Tryz.lays189 hcr6 o4 nx_5) (perm_idx [0, 1] rfl) (fun _ _ nx_7 hq => ?_)
  obtain ⟨rfl, rfl⟩ := hq
  refine R.nil ?_
  refine Tri.seq ?_
  refine Tri.region ?_
  refine R.flo Gd.no (Y.move rfl) ?_
  refine R.flo Gd.no (Y.assign rfl) ?_
  refine R.nil ?_
  refine Tri.weak (Weak.sealS (l := r6) (f := encI) 0 2 rfl rfl) ?_
  refine Tri.weak (Weak.to [2] [] rfl) ?_
  refine Tri.ret ?_
  have hx := Option.some.inj hr
  subst hx
  exact ⟨.inl rfl, _, .inr (.inl ⟨_, _, rfl, rfl, rfl⟩), ⟨rfl, rfl⟩⟩
theorem ok_florref2_book_block {b : T_florref2_book} {id : Int} {r : Sum Unit (Int × Int × (List Int) × Bytes × (List PProp))} (hr : f_florref2_book_block b id = some r) (nx : Nat) : OkH Tryz.prog 34 [.agg [.c (.ro 5 false (b.base.map encB))], .one (.c (.lit (.int .i64 id)))] [] nx fun v H' _ => sumP r (fun rl0 => v = .v (.one (.c (.lit (.pointer none)))) ∧ H' = []) (fun rr0 => v = .v (.one (.c (.rp [.lit (.int .i64 rr0.1), .lit (.int .i64 rr0.2.1), .ro 1 false (rr0.2.2.1.map encI), .lit (str rr0.2.2.2.1), .ro 6 false (rr0.2.2.2.2.map encP)]))) ∧ H' = []) := by
  refine OkH.intro Tryz.func34 rfl Tryz.ntmps34 (by simp) ?_
  unfold f_florref2_book_block at hr
  refine Tri.seq ?_
  refine Tri.region ?_
  refine R.eff Gd.no (E.box (cs := [.c (.ro 5 false (b.base.map encB))]) rfl rfl rfl) ?_
  refine R.flo Gd.no (Y.assign rfl) ?_
  refine R.nil ?_
  refine Tri.seq ?_
  refine Tri.seq ?_
  refine Tri.region ?_
  refine R.flo Gd.no (Y.fieldP Tryz.fo37_0 rfl) ?_
  refine R.flo Gd.no (Y.loadB1 rfl 0 rfl rfl Tryz.isAgg22) ?_
  refine TOps.fact (Fact.lenR (x := .tmp 7) (n := b.base.length) rfl (List.length_map ..)) (fun hl1 => ?_)
  refine R.flo Gd.no (Y.lenR (m := b.base.length) Tryz.underlying22 rfl rfl (List.length_map ..)) ?_
  refine R.flo Gd.no (Y.move rfl) ?_
  refine R.nil ?_
  replace hr := bind_inv hr
  obtain ⟨x8, hr, hox8⟩ := hr
  refine Tri.meet1 (α := Unit × Nat) (fun ⟨s9, nx_10⟩ => (.inl s9) = x8) (fun ⟨s9, nx_10⟩ => ⟨25, [], [], nx_10⟩) ?_ (fun ⟨s9, nx_10⟩ hx => ?_)
  · refine Tri.block ?_
    refine Tri.loop (α := Nat × Nat × Nat) (fun ⟨fuel13, v2, nx_3⟩ => f_florref2_book_block_l1 id b fuel13 v2 = some x8) (fun ⟨fuel13, v2, nx_3⟩ => ⟨25, [(1, some (.v (.one (.c (.lit (.int .i64 id)))))), (2, some (.v (.one (.ptr nx 0 0)))), (8, some (.v (.one (.c (.lit (.int .i64 ((b.base.length : Int)))))))), (9, some (.v (.one (.c (.lit (.int .i64 ((v2 : Int))))))))], [(nx, .box 37 [.c (.ro 5 false (b.base.map encB))])], nx_3⟩) (fun ⟨fuel13, v2, nx_3⟩ => fuel13) ⟨FUEL, 0, nx + 1⟩ ?_ (Weak.to [1, 2, 8, 9] [0] rfl) ?_
    · exact hr
    · rintro ⟨fuel13, v2, nx_3⟩ (hr : f_florref2_book_block_l1 id b fuel13 v2 = some x8)
      cases fuel13 with
      | zero => rw [f_florref2_book_block_l1] at hr; cases hr
      | succ fuel13 =>
        rw [f_florref2_book_block_l1] at hr
        refine Tri.seq ?_
        refine Tri.region ?_
        refine R.flo Gd.no (Y.lssI rfl rfl) ?_
        refine R.nil ?_
        refine Tri.seq ?_
        refine Tri.cond rfl (fun hc4 => ?_) (fun hc4 => ?_)
        · replace hr := cond_t hc4 hr
          refine Tri.skip ?_
          refine Tri.seq ?_
          refine Tri.block ?_
          refine Tri.seq ?_
          refine Tri.region ?_
          refine R.flo Gd.no (Y.move rfl) ?_
          refine R.flo Gd.no (Y.assign rfl) ?_
          refine R.nil ?_
          refine Tri.seq ?_
          refine Tri.region ?_
          refine R.flo Gd.no (Y.fieldP Tryz.fo37_0 rfl) ?_
          refine R.flo Gd.no (Y.loadB1 rfl 0 rfl rfl Tryz.isAgg22) ?_
          refine R.flo Gd.no (Y.move rfl) ?_
          replace hr := bind_inv hr
          obtain ⟨x5, hx5, hr⟩ := hr
          refine R.flo Gd.no (Y.idxR v2 Tryz.underlying22 Tryz.sizeOf55 rfl rfl (map_get hx5)) ?_
          refine R.flo Gd.no (Y.fieldR Tryz.fo55_0 rfl) ?_
          refine R.flo Gd.no (Y.loadP1 rfl rfl Tryz.isAgg3) ?_
          refine R.flo Gd.no (Y.move rfl) ?_
          refine R.flo Gd.no (Y.eqlI rfl rfl) ?_
          refine R.nil ?_
          refine Tri.cond rfl (fun hc6 => ?_) (fun hc6 => ?_)
          · replace hr := cond_t hc6 hr
            refine Tri.seq ?_
            refine Tri.region ?_
            refine R.flo Gd.no (Y.fieldP Tryz.fo37_0 rfl) ?_
            refine R.flo Gd.no (Y.loadB1 rfl 0 rfl rfl Tryz.isAgg22) ?_
            refine R.flo Gd.no (Y.move rfl) ?_
            replace hr := bind_inv hr
            obtain ⟨x7, hx7, hr⟩ := hr
            refine R.flo Gd.no (Y.idxR v2 Tryz.underlying22 Tryz.sizeOf55 rfl rfl (map_get hx7)) ?_
            refine R.flo Gd.no (Y.assign rfl) ?_
            refine R.nil ?_
            have hx := Option.some.inj hr
            subst hx
            have hr := sum_r hox8
            refine Tri.weak (Weak.to [4] [] rfl) ?_
            refine Tri.ret ?_
            have hx := Option.some.inj hr
            subst hx
            exact ⟨.inl rfl, _, .inr (.inl ⟨_, _, rfl, rfl, rfl⟩), (sumP_r ⟨rfl, rfl⟩)⟩
          · replace hr := cond_f hc6 hr
            refine Tri.skip ?_
            refine Tri.region ?_
            replace hr := ckI_inv hr
            obtain ⟨ha, hb, hr⟩ := hr
            refine R.flo Gd.no (Y.addI rfl rfl ha hb) ?_
            refine R.flo Gd.no (Y.move rfl) ?_
            refine R.nil ?_
            refine back_mk ⟨fuel13, v2 + 1, nx_3⟩ hr (Nat.lt_succ_self _) (Weak.to [1, 2, 8, 9] [0] rfl)
        · replace hr := cond_f hc4 hr
          refine Tri.exit ?_
          have hx := Option.some.inj hr
          subst hx
          refine meet_mk ⟨(), nx_3⟩ rfl (Weak.to [] [] rfl)
  · subst hx
    have hr := sum_l hox8
    refine Tri.seq ?_
    refine Tri.region ?_
    refine R.flo Gd.no (Y.assign rfl) ?_
    refine R.nil ?_
    refine Tri.ret ?_
    have hx := Option.some.inj hr
    subst hx
    exact ⟨.inl rfl, _, .inr (.inl ⟨_, _, rfl, rfl, rfl⟩), (sumP_l ⟨rfl, rfl⟩)⟩
theorem ok_florref2_GetOf {l : List PProp} {name : Bytes} {r : Sum (Int × Int × Int × Bytes × Bool) (PVal × Bool)} (hr : f_florref2_GetOf l name = some r) (nx : Nat) : OkH Tryz.prog 61 [.one (.c (.ro 6 false (l.map encP))), .one (.c (.lit (str name)))] [] nx fun v H' _ => sumP r (fun rl0 => v = .tup [.agg [.c (.lit (.int .i64 rl0.1)), .c (.lit (.int .i64 rl0.2.1)), .c (.lit (.int .i64 rl0.2.2.1)), .c (.lit (str rl0.2.2.2.1)), .c (.lit (.slice none 0 0))], .one (.c (.lit (.bool rl0.2.2.2.2)))] ∧ H' = []) (fun rr0 => v = .tup [.agg [.c (.lit (.int .i64 rr0.1.kind)), .c (.lit (.int .i64 rr0.1.int)), .c (.lit (.int .i64 rr0.1.to)), .c (.lit (str rr0.1.text)), .c (.ro 5 false (encItems rr0.1))], .one (.c (.lit (.bool rr0.2)))] ∧ H' = []) := by
  refine OkH.sub ?_
  refine OkH.intro Tryz.func61 rfl Tryz.ntmps61 (by simp) ?_
  unfold f_florref2_GetOf at hr
  refine Tri.seq ?_
  refine Tri.region ?_
  refine R.eff Gd.no (E.alloc (cs := [.c (.lit (.int .i64 0)), .c (.lit (.int .i64 0)), .c (.lit (.int .i64 0)), .c (.lit (str ([] : Bytes))), .c (.lit (.slice none 0 0))]) Tryz.et89.zero Tryz.et89.one (by rfl)) ?_
  refine R.flo Gd.no (Y.assign rfl) ?_
  refine R.nil ?_
  refine Tri.seq ?_
  refine Tri.seq ?_
  refine Tri.region ?_
  refine R.flo Gd.no (Y.move rfl) ?_
  refine TOps.fact (Fact.lenR (x := .tmp 8) (n := l.length) rfl (List.length_map ..)) (fun hl1 => ?_)
  refine R.flo Gd.no (Y.lenR (m := l.length) Tryz.underlying53 rfl rfl (List.length_map ..)) ?_
  refine R.flo Gd.no (Y.move rfl) ?_
  refine R.nil ?_
  replace hr := bind_inv hr
  obtain ⟨x6, hr, hox6⟩ := hr
  refine Tri.meet1 (α := Unit × Nat) (fun ⟨s7, nx_8⟩ => (.inl s7) = x6) (fun ⟨s7, nx_8⟩ => ⟨22, [(4, some (.v (.one (.ptr nx 0 0))))], [(nx, .box 89 [.c (.lit (.int .i64 0)), .c (.lit (.int .i64 0)), .c (.lit (.int .i64 0)), .c (.lit (str ([] : Bytes))), .c (.lit (.slice none 0 0))])], nx_8⟩) ?_ (fun ⟨s7, nx_8⟩ hx => ?_)
  · refine Tri.block ?_
    refine Tri.loop (α := Nat × Nat) (fun ⟨v2, nx_3⟩ => v2 ≤ l.length ∧ f_florref2_GetOf_l1 name (l.drop v2)  = some x6) (fun ⟨v2, nx_3⟩ => ⟨22, [(1, some (.v (.one (.c (.lit (str name)))))), (4, some (.v (.one (.ptr nx 0 0)))), (8, some (.v (.one (.c (.ro 6 false (l.map encP)))))), (9, some (.v (.one (.c (.lit (.int .i64 ((l.length : Int)))))))), (10, some (.v (.one (.c (.lit (.int .i64 ((v2 : Int))))))))], [(nx, .box 89 [.c (.lit (.int .i64 0)), .c (.lit (.int .i64 0)), .c (.lit (.int .i64 0)), .c (.lit (str ([] : Bytes))), .c (.lit (.slice none 0 0))])], nx_3⟩) (fun ⟨v2, nx_3⟩ => l.length - v2) ⟨0, nx + 1⟩ ?_ (Weak.to [1, 4, 8, 9, 10] [0] rfl) ?_
    · exact ⟨Nat.zero_le _, hr⟩
    · rintro ⟨v2, nx_3⟩ ⟨hk, hr⟩
      refine Tri.seq ?_
      refine Tri.region ?_
      refine R.flo Gd.no (Y.lssI rfl rfl) ?_
      refine R.nil ?_
      refine Tri.seq ?_
      refine Tri.cond rfl (fun hc => ?_) (fun hc => ?_)
      · have hk := lt_of_dec hc
        obtain ⟨x4, hx4⟩ := get_of_lt hk
        rw [drop_at hx4, f_florref2_GetOf_l1] at hr
        refine Tri.skip ?_
        refine Tri.seq ?_
        refine Tri.block ?_
        refine Tri.seq ?_
        refine Tri.region ?_
        refine R.flo Gd.no (Y.idxR v2 Tryz.underlying53 Tryz.sizeOf91 rfl rfl (map_get hx4)) ?_
        refine R.flo Gd.no (Y.loadPN rfl Tryz.isAgg91 Tryz.sizeOf91 rfl rfl) ?_
        refine R.eff Gd.no (E.alloc (cs := [.c (.lit (str ([] : Bytes))), .c (.lit (.int .i64 0)), .c (.lit (.int .i64 0)), .c (.lit (.int .i64 0)), .c (.lit (str ([] : Bytes))), .c (.lit (.slice none 0 0))]) Tryz.et91.zero Tryz.et91.one (by rfl)) ?_
        refine R.eff Gd.no (E.storeB 0 rfl rfl rfl rfl Tryz.sizeOf91 rfl rfl rfl) ?_
        refine R.nil ?_
        refine Tri.seq ?_
        refine Tri.region ?_
        refine R.flo Gd.no (Y.fieldP Tryz.fo91_0 rfl) ?_
        refine R.flo Gd.no (Y.loadB1 rfl 0 rfl rfl Tryz.isAgg9) ?_
        refine R.flo Gd.no (Y.move rfl) ?_
        refine R.flo Gd.no (Y.eqlS rfl rfl) ?_
        refine R.nil ?_
        refine Tri.cond rfl (fun hc5 => ?_) (fun hc5 => ?_)
        · replace hr := cond_t hc5 hr
          refine Tri.seq ?_
          refine Tri.region ?_
          refine R.flo Gd.no (Y.fieldP Tryz.fo91_1 rfl) ?_
          refine R.flo Gd.no (Y.loadBN rfl 0 rfl Tryz.isAgg89 Tryz.sizeOf89 rfl rfl) ?_
          refine R.eff Gd.no (E.storeB 1 rfl rfl rfl rfl Tryz.sizeOf89 rfl rfl rfl) ?_
          refine R.flo Gd.no (Y.assign rfl) ?_
          refine R.nil ?_
          have hx := Option.some.inj hr
          subst hx
          have hr := sum_r hox6
          refine Tri.weak (Weak.to [4, 5] [1] rfl) ?_
          refine Tri.ret ?_
          have hx := Option.some.inj hr
          subst hx
          exact ⟨.inl rfl, _, .inr (.inr (.inl ⟨_, _, _, _, rfl, ⟨_, _, rfl, (Leads.box 0 rfl), .inr ⟨_, Tryz.isAgg89, Tryz.sizeOf89, Nat.le_of_ble_eq_true rfl, rfl⟩⟩, rfl, rfl⟩)), ⟨_, List.take_sublist 0 _, (sumP_r ⟨rfl, rfl⟩)⟩⟩
        · replace hr := cond_f hc5 hr
          refine Tri.skip ?_
          refine Tri.region ?_
          refine R.flo Gd.no (Y.addI rfl rfl (by omega) (by unfold maxLen at *; omega)) ?_
          refine R.flo Gd.no (Y.move rfl) ?_
          refine R.nil ?_
          refine back_mk ⟨v2 + 1, nx_3 + 1⟩ ⟨hk, hr⟩ (mu_dec hk) (Weak.to [1, 4, 8, 9, 10] [1] rfl)
      · rw [drop_end (nlt_of_dec hc), f_florref2_GetOf_l1] at hr
        refine Tri.exit ?_
        have hx := Option.some.inj hr
        subst hx
        refine meet_mk ⟨(), nx_3⟩ rfl (Weak.to [4] [0] rfl)
  · subst hx
    have hr := sum_l hox6
    refine Tri.seq ?_
    refine Tri.region ?_
    refine R.flo Gd.no (Y.build Tryz.pl89 rfl rfl rfl) ?_
    refine R.eff Gd.no (E.storeB 0 rfl rfl rfl rfl Tryz.sizeOf89 rfl rfl rfl) ?_
    refine R.flo Gd.no (Y.assign rfl) ?_
    refine R.nil ?_
    refine Tri.ret ?_
    have hx := Option.some.inj hr
    subst hx
    exact ⟨.inl rfl, _, .inr (.inr (.inl ⟨_, _, _, _, rfl, ⟨_, _, rfl, (Leads.box 0 rfl), .inr ⟨_, Tryz.isAgg89, Tryz.sizeOf89, Nat.le_of_ble_eq_true rfl, rfl⟩⟩, rfl, rfl⟩)), ⟨_, List.take_sublist 0 _, (sumP_l ⟨rfl, rfl⟩)⟩⟩
theorem ok_florref2_book_aliases {b : T_florref2_book} {page : Int} {r : (List Bytes)} (hr : f_florref2_book_aliases b page = some r) (nx : Nat) : OkH Tryz.prog 36 [.agg [.c (.ro 5 false (b.base.map encB))], .one (.c (.lit (.int .i64 page)))] [] nx fun v H' _ => v = .v (.one (.c (.ro 1 false (r.map encS)))) ∧ H' = [] := by
  refine OkH.intro Tryz.func36 rfl Tryz.ntmps36 (by simp) ?_
  unfold f_florref2_book_aliases at hr
  refine Tri.seq ?_
  refine Tri.region ?_
  refine R.eff Gd.no (E.box (cs := [.c (.ro 5 false (b.base.map encB))]) rfl rfl rfl) ?_
  refine R.flo Gd.no (Y.assign rfl) ?_
  refine R.nil ?_
  refine Tri.seq ?_
  refine Tri.region ?_
  refine R.flo Gd.no (Y.loadBN rfl 0 rfl Tryz.isAgg37 Tryz.sizeOf37 rfl rfl) ?_
  refine R.flo Gd.no (Y.move rfl) ?_
  replace hr := bind_inv hr
  obtain ⟨(r1_c0 | r1_c1), hcr1, hr⟩ := hr
  · replace hr := (sum_l hr)
    refine R.call (H1 := []) (H2 := [(nx, .box 37 [.c (.ro 5 false (b.base.map encB))])]) Gd.no Tryz.en34 rfl (ok_florref2_book_block hcr1 (nx + 1)) (perm_idx [0] rfl) (fun _ _ nx_2 hq => ?_)
    obtain ⟨rfl, rfl⟩ := hq
    cases hr
  · replace hr := (sum_r hr)
    refine R.call (H1 := []) (H2 := [(nx, .box 37 [.c (.ro 5 false (b.base.map encB))])]) Gd.no Tryz.en34 rfl (ok_florref2_book_block hcr1 (nx + 1)) (perm_idx [0] rfl) (fun _ _ nx_3 hq => ?_)
    obtain ⟨rfl, rfl⟩ := hq
    refine R.flo Gd.no (Y.nilR rfl) ?_
    refine R.flo Gd.no (Y.fieldR Tryz.fo55_4 rfl) ?_
    refine R.flo Gd.no (Y.loadP1 rfl rfl Tryz.isAgg53) ?_
    replace hr := bind_inv hr
    obtain ⟨(r4_c0 | r4_c1), hcr4, hr⟩ := hr
    · replace hr := (sum_l hr)
      refine R.call (H1 := []) (H2 := [(nx, .box 37 [.c (.ro 5 false (b.base.map encB))])]) Gd.no Tryz.en61 rfl (ok_florref2_GetOf hcr4 nx_3) (perm_idx [0] rfl) (fun _ _ nx_5 hq => ?_)
      obtain ⟨rfl, rfl⟩ := hq
      refine R.flo Gd.no (Y.move rfl) ?_
      refine R.flo Gd.no (Y.extract rfl rfl) ?_
      refine R.flo Gd.no (Y.extract rfl rfl) ?_
      refine R.eff Gd.no (E.alloc (cs := [.c (.lit (.int .i64 0)), .c (.lit (.int .i64 0)), .c (.lit (.int .i64 0)), .c (.lit (str ([] : Bytes))), .c (.lit (.slice none 0 0))]) Tryz.et89.zero Tryz.et89.one (by rfl)) ?_
      refine R.eff Gd.no (E.storeB 0 rfl rfl rfl rfl Tryz.sizeOf89 rfl rfl rfl) ?_
      refine R.flo Gd.no (Y.assign rfl) ?_
      refine R.nil ?_
      refine Tri.seq ?_
      refine Tri.region ?_
      refine R.flo Gd.no (Y.fieldP Tryz.fo89_4 rfl) ?_
      refine R.flo Gd.no (Y.loadB1 rfl 0 rfl rfl Tryz.isAgg87) ?_
      refine R.flo Gd.no (Y.assign rfl) ?_
      refine R.nil ?_
      refine Tri.seq ?_
      refine Tri.seq ?_
      refine Tri.region ?_
      refine R.flo Gd.no (Y.fieldP Tryz.fo89_0 rfl) ?_
      refine R.flo Gd.no (Y.loadB1 rfl 0 rfl rfl Tryz.isAgg3) ?_
      refine R.flo Gd.no (Y.eqlI rfl rfl) ?_
      refine R.nil ?_
      refine Tri.cond rfl (fun hc6 => ?_) (fun hc6 => ?_)
      · replace hr := cond_t hc6 hr
        refine Tri.region ?_
        refine R.flo Gd.no (Y.loadBN rfl 0 rfl Tryz.isAgg89 Tryz.sizeOf89 rfl rfl) ?_
        cases hr
      · replace hr := cond_f hc6 hr
        refine Tri.skip ?_
        refine Tri.seq ?_
        refine Tri.region ?_
        refine R.flo Gd.no (Y.assign rfl) ?_
        refine R.nil ?_
        refine Tri.seq ?_
        refine Tri.seq ?_
        refine Tri.region ?_
        refine R.flo Gd.no (Y.move rfl) ?_
        refine R.flo Gd.no (Y.lenN Tryz.underlying87 rfl rfl) ?_
        refine R.flo Gd.no (Y.move rfl) ?_
        refine R.nil ?_
        replace hr := bind_inv hr
        obtain ⟨x9, hr, hox9⟩ := hr
        refine Tri.meet1 (α := Unit × Nat) (fun ⟨s10, nx_11⟩ => s10 = x9) (fun ⟨s10, nx_11⟩ => ⟨44, [(8, some (.v (.one (.c (.lit (.slice none 0 0))))))], [], nx_11⟩) ?_ (fun ⟨s10, nx_11⟩ hx => ?_)
        · refine Tri.block ?_
          refine Tri.loop (α := Nat × Nat) (fun ⟨fuel12, nx_8⟩ => f_florref2_book_aliases_l1 fuel12  = some x9) (fun ⟨fuel12, nx_8⟩ => ⟨44, [(8, some (.v (.one (.c (.lit (.slice none 0 0)))))), (28, some (.v (.one (.c (.lit (.slice none 0 0)))))), (29, some (.v (.one (.c (.lit (.int .i64 0)))))), (30, some (.v (.one (.c (.lit (.int .i64 0))))))], [], nx_8⟩) (fun ⟨fuel12, nx_8⟩ => fuel12) ⟨FUEL, nx_5 + 1⟩ ?_ (Weak.to [8, 28, 29, 30] [] rfl) ?_
          · exact hr
          · rintro ⟨fuel12, nx_8⟩ (hr : f_florref2_book_aliases_l1 fuel12  = some x9)
            cases fuel12 with
            | zero => rw [f_florref2_book_aliases_l1] at hr; cases hr
            | succ fuel12 =>
              rw [f_florref2_book_aliases_l1] at hr
              refine Tri.seq ?_
              refine Tri.region ?_
              refine R.flo Gd.no (Y.lssI rfl rfl) ?_
              refine R.nil ?_
              refine Tri.seq ?_
              refine Tri.condF rfl ?_
              refine Tri.exit ?_
              have hx := Option.some.inj hr
              subst hx
              refine meet_mk ⟨(), nx_8⟩ rfl (Weak.to [8] [] rfl)
        · subst hx
          have hr := hox9
          refine Tri.seq ?_
          refine Tri.region ?_
          refine R.flo Gd.no (Y.move rfl) ?_
          refine R.flo Gd.no (Y.assign rfl) ?_
          refine R.nil ?_
          refine Tri.weak (Weak.nilR 4 1 rfl) ?_
          refine Tri.ret ?_
          have hx := Option.some.inj hr
          subst hx
          exact ⟨.inl rfl, _, .inr (.inl ⟨_, _, rfl, rfl, rfl⟩), ⟨rfl, rfl⟩⟩
    · replace hr := (sum_r hr)
      refine R.call (H1 := []) (H2 := [(nx, .box 37 [.c (.ro 5 false (b.base.map encB))])]) Gd.no Tryz.en61 rfl (ok_florref2_GetOf hcr4 nx_3) (perm_idx [0] rfl) (fun _ _ nx_13 hq => ?_)
      obtain ⟨rfl, rfl⟩ := hq
      refine R.flo Gd.no (Y.move rfl) ?_
      refine R.flo Gd.no (Y.extract rfl rfl) ?_
      refine R.flo Gd.no (Y.extract rfl rfl) ?_
      refine R.eff Gd.no (E.alloc (cs := [.c (.lit (.int .i64 0)), .c (.lit (.int .i64 0)), .c (.lit (.int .i64 0)), .c (.lit (str ([] : Bytes))), .c (.lit (.slice none 0 0))]) Tryz.et89.zero Tryz.et89.one (by rfl)) ?_
      refine R.eff Gd.no (E.storeB 0 rfl rfl rfl rfl Tryz.sizeOf89 rfl rfl rfl) ?_
      refine R.flo Gd.no (Y.assign rfl) ?_
      refine R.nil ?_
      refine Tri.seq ?_
      refine Tri.region ?_
      refine R.flo Gd.no (Y.fieldP Tryz.fo89_4 rfl) ?_
      refine R.flo Gd.no (Y.loadB1 rfl 0 rfl rfl Tryz.isAgg87) ?_
      refine R.flo Gd.no (Y.assign rfl) ?_
      refine R.nil ?_
      replace hr := bind_inv hr
      obtain ⟨x15, hr, hox15⟩ := hr
      refine Tri.meet (α := ((List PVal)) × Nat) (fun ⟨s16, nx_17⟩ => s16 = x15) (fun ⟨s16, nx_17⟩ => ⟨44, [(7, some (.v (.one (.c (.ro 5 false (s16.map encV))))))], [], nx_17⟩) ?_ (fun ⟨s16, nx_17⟩ hx => ?_)
      · refine Tri.seq ?_
        refine Tri.region ?_
        refine R.flo Gd.no (Y.fieldP Tryz.fo89_0 rfl) ?_
        refine R.flo Gd.no (Y.loadB1 rfl 0 rfl rfl Tryz.isAgg3) ?_
        refine R.flo Gd.no (Y.eqlI rfl rfl) ?_
        refine R.nil ?_
        refine Tri.cond rfl (fun hc14 => ?_) (fun hc14 => ?_)
        · replace hr := cond_t hc14 hr
          refine Tri.region ?_
          refine R.flo Gd.no (Y.loadBN rfl 0 rfl Tryz.isAgg89 Tryz.sizeOf89 rfl rfl) ?_
          refine R.eff Gd.no (E.buildSlice (es := rowOf encV ([r4_c1.1])) [.agg [.c (.lit (.int .i64 r4_c1.1.kind)), .c (.lit (.int .i64 r4_c1.1.int)), .c (.lit (.int .i64 r4_c1.1.to)), .c (.lit (str r4_c1.1.text)), .c (.ro 5 false (encItems r4_c1.1))]] Tryz.underlying87 Tryz.et89 rfl rfl rfl rfl (by decide) (by decide) rfl) ?_
          refine R.flo Gd.no (Y.assign rfl) ?_
          refine R.nil ?_
          have hx := Option.some.inj hr
          subst hx
          refine meet_mk ⟨[r4_c1.1], nx_13 + 2⟩ rfl (Weak.trans (Weak.sealS (l := [r4_c1.1]) (f := encV) 0 7 rfl rfl) (Weak.to [7] [] rfl))
        · replace hr := cond_f hc14 hr
          refine Tri.skip ?_
          have hx := Option.some.inj hr
          subst hx
          refine meet_mk ⟨r4_c1.1.items, nx_13 + 1⟩ rfl (Weak.trans (Weak.itemsS 7 rfl) (Weak.to [7] [] rfl))
      · subst hx
        have hr := hox15
        refine Tri.seq ?_
        refine Tri.region ?_
        refine R.flo Gd.no (Y.assign rfl) ?_
        refine R.nil ?_
        refine Tri.seq ?_
        refine Tri.seq ?_
        refine Tri.region ?_
        refine R.flo Gd.no (Y.move rfl) ?_
        refine TOps.fact (Fact.lenR (x := .tmp 28) (n := s16.length) rfl (List.length_map ..)) (fun hl18 => ?_)
        refine R.flo Gd.no (Y.lenR (m := s16.length) Tryz.underlying87 rfl rfl (List.length_map ..)) ?_
        refine R.flo Gd.no (Y.move rfl) ?_
        refine R.nil ?_
        refine Tri.weak (Weak.virt (t := 8) 9 1 rfl) ?_
        replace hr := bind_inv hr
        obtain ⟨x25, hr, hox25⟩ := hr
        refine Tri.meet1 (α := ((List Bytes)) × Nat × Nat) (fun ⟨s26, o27, nx_28⟩ => s26 = x25) (fun ⟨s26, o27, nx_28⟩ => ⟨44, [(8, some (.v (.one (.obj o27))))], [(o27, .row 9 1 (rowOf encS s26))], nx_28⟩) ?_ (fun ⟨s26, o27, nx_28⟩ hx => ?_)
        · refine Tri.block ?_
          refine Tri.loop (α := Nat × (List Bytes) × Nat × Nat) (fun ⟨v21, out20, o19, nx_22⟩ => v21 ≤ s16.length ∧ f_florref2_book_aliases_l2 (s16.drop v21) out20 = some x25) (fun ⟨v21, out20, o19, nx_22⟩ => ⟨44, [(8, some (.v (.one (.obj o19)))), (28, some (.v (.one (.c (.ro 5 false (s16.map encV)))))), (29, some (.v (.one (.c (.lit (.int .i64 ((s16.length : Int)))))))), (30, some (.v (.one (.c (.lit (.int .i64 ((v21 : Int))))))))], [(o19, .row 9 1 (rowOf encS out20))], nx_22⟩) (fun ⟨v21, out20, o19, nx_22⟩ => s16.length - v21) ⟨0, ([] : List Bytes), nx_17, nx_17 + 1⟩ ?_ (Weak.to [8, 28, 29, 30] [0] rfl) ?_
          · exact ⟨Nat.zero_le _, hr⟩
          · rintro ⟨v21, out20, o19, nx_22⟩ ⟨hk, hr⟩
            refine Tri.seq ?_
            refine Tri.region ?_
            refine R.flo Gd.no (Y.lssI rfl rfl) ?_
            refine R.nil ?_
            refine Tri.seq ?_
            refine Tri.cond rfl (fun hc => ?_) (fun hc => ?_)
            · have hk := lt_of_dec hc
              obtain ⟨x23, hx23⟩ := get_of_lt hk
              rw [drop_at hx23, f_florref2_book_aliases_l2] at hr
              refine Tri.skip ?_
              refine Tri.seq ?_
              refine Tri.block ?_
              refine Tri.seq ?_
              refine Tri.region ?_
              refine R.flo Gd.no (Y.idxR v21 Tryz.underlying87 Tryz.sizeOf89 rfl rfl (map_get hx23)) ?_
              refine R.flo Gd.no (Y.loadPN rfl Tryz.isAgg89 Tryz.sizeOf89 rfl rfl) ?_
              refine R.eff Gd.no (E.alloc (cs := [.c (.lit (.int .i64 0)), .c (.lit (.int .i64 0)), .c (.lit (.int .i64 0)), .c (.lit (str ([] : Bytes))), .c (.lit (.slice none 0 0))]) Tryz.et89.zero Tryz.et89.one (by rfl)) ?_
              refine R.eff Gd.no (E.storeB 0 rfl rfl rfl rfl Tryz.sizeOf89 rfl rfl rfl) ?_
              refine R.nil ?_
              refine Tri.seq ?_
              refine Tri.region ?_
              refine R.flo Gd.no (Y.fieldP Tryz.fo89_0 rfl) ?_
              refine R.flo Gd.no (Y.loadB1 rfl 0 rfl rfl Tryz.isAgg3) ?_
              refine R.flo Gd.no (Y.eqlI rfl rfl) ?_
              refine R.nil ?_
              refine Tri.cond rfl (fun hc24 => ?_) (fun hc24 => ?_)
              · replace hr := cond_t hc24 hr
                refine Tri.region ?_
                refine R.flo Gd.no (Y.move rfl) ?_
                refine R.flo Gd.no (Y.fieldP Tryz.fo89_3 rfl) ?_
                refine R.flo Gd.no (Y.loadB1 rfl 0 rfl rfl Tryz.isAgg9) ?_
                refine R.eff Gd.no (E.buildSlice (es := rowOf encS ([x23.text])) [.one (.c (.lit (str x23.text)))] Tryz.underlying26 Tryz.et9 rfl rfl rfl rfl (by decide) (by decide) rfl) ?_
                replace hr := ckN_inv hr
                obtain ⟨ha, hr⟩ := hr
                refine R.eff Gd.no (E.append (es := rowOf encS out20) (es' := rowOf encS (out20 ++ ([x23.text]))) 2 rfl Tryz.underlying26 Tryz.et9 rfl rfl (Holds.obj 0 rfl) (fits_len ha (app_len rowOf_length rowOf_length) rfl) (fits_max ha (app_len rowOf_length rowOf_length)) rfl rowOf_append.symm) ?_
                refine R.flo Gd.no (Y.assign rfl) ?_
                refine R.nil ?_
                refine Tri.region ?_
                refine R.flo Gd.no (Y.addI rfl rfl (by omega) (by unfold maxLen at *; omega)) ?_
                refine R.flo Gd.no (Y.move rfl) ?_
                refine R.nil ?_
                refine back_mk ⟨v21 + 1, out20 ++ ([x23.text]), nx_22 + 2, nx_22 + 3⟩ ⟨hk, hr⟩ (mu_dec hk) (Weak.to [8, 28, 29, 30] [0] rfl)
              · replace hr := cond_f hc24 hr
                refine Tri.skip ?_
                refine Tri.region ?_
                refine R.flo Gd.no (Y.addI rfl rfl (by omega) (by unfold maxLen at *; omega)) ?_
                refine R.flo Gd.no (Y.move rfl) ?_
                refine R.nil ?_
                refine back_mk ⟨v21 + 1, out20, o19, nx_22 + 1⟩ ⟨hk, hr⟩ (mu_dec hk) (Weak.to [8, 28, 29, 30] [1] rfl)
            · rw [drop_end (nlt_of_dec hc), f_florref2_book_aliases_l2] at hr
              refine Tri.exit ?_
              have hx := Option.some.inj hr
              subst hx
              refine meet_mk ⟨out20, o19, nx_22⟩ rfl (Weak.to [8] [0] rfl)
        · subst hx
          have hr := hox25
          refine Tri.seq ?_
          refine Tri.region ?_
          refine R.flo Gd.no (Y.move rfl) ?_
          refine R.flo Gd.no (Y.assign rfl) ?_
          refine R.nil ?_
          refine Tri.weak (Weak.sealS (l := s26) (f := encS) 0 4 rfl rfl) ?_
          refine Tri.ret ?_
          have hx := Option.some.inj hr
          subst hx
          exact ⟨.inl rfl, _, .inr (.inl ⟨_, _, rfl, rfl, rfl⟩), ⟨rfl, rfl⟩⟩
theorem ok_florref2_book_page_1_555a {a : Bytes} {p1 : Bytes} {r : Bool × Bytes} (hr : f_florref2_book_page_1_555a a p1 = some r) (o : Nat) (nx : Nat) : OkH Tryz.prog 37 [.one (.c (.lit (str a))), .one (.ptr o 0 0)] [(o, .box 9 [.c (.lit (str p1))])] nx fun v H' _ => v = .v (.one (.c (.lit (.bool r.1)))) ∧ H' = [(o, .box 9 [.c (.lit (str r.2))])] := by
  refine OkH.intro Tryz.func37 rfl Tryz.ntmps37 (by simp) ?_
  unfold f_florref2_book_page_1_555a at hr
  refine Tri.seq ?_
  refine Tri.region ?_
  refine R.flo Gd.no (Y.assign rfl) ?_
  refine R.nil ?_
  refine Tri.seq ?_
  refine Tri.draw 5 rfl rfl [] [(o, .box 9 [.c (.lit (str p1))])] rfl ?_
  refine TAny.flo 0 rfl (by decide +kernel) (by decide +kernel) (by decide +kernel) Gd.no (Y.move rfl) ?_
  refine TAny.flo 2 rfl (by decide +kernel) (by decide +kernel) (by decide +kernel) Gd.no (Y.loadB1 rfl 0 rfl rfl Tryz.isAgg9) ?_
  refine TAny.lists (HE' := [] ++ []) (HS' := [(o, .box 9 [.c (.lit (str p1))])]) (perm_idx [0] rfl) (sub_idx [] rfl) ?_
  replace hr := bind_inv hr
  obtain ⟨r1, hcr1, hr⟩ := hr
  refine TAny.call 1 rfl (by decide +kernel) Gd.no Tryz.en10 rfl (ok_florref2_FoldOfTitle hcr1 nx) (fun _ _ nx_2 hq => ?_)
  obtain ⟨rfl, rfl⟩ := hq
  refine TAny.flo 3 rfl (by decide +kernel) (by decide +kernel) (by decide +kernel) Gd.no (Y.eqlS rfl rfl) ?_
  refine TAny.flo 4 rfl (by decide +kernel) (by decide +kernel) (by decide +kernel) Gd.no (Y.assign rfl) ?_
  refine TAny.done (by decide +kernel) ?_
  refine Tri.ret ?_
  have hx := Option.some.inj hr
  subst hx
  exact ⟨.inl rfl, _, .inr (.inl ⟨_, _, rfl, rfl, rfl⟩), ⟨rfl, rfl⟩⟩
theorem ok_slices_IndexFunc_string_string_11cd {s : List Bytes} {f : Bytes} {r : Int × Bytes} (hr : f_slices_IndexFunc_string_string_11cd s f = some r) (o : Nat) (nx : Nat) : OkH Tryz.prog 44 [.one (.c (.ro 1 false (s.map encS))), .one (.fn 37 [o])] [(o, .box 9 [.c (.lit (str f))])] nx fun v H' _ => v = .v (.one (.c (.lit (.int .i64 r.1)))) ∧ H' = [(o, .box 9 [.c (.lit (str r.2))])] := by
  refine OkH.intro Tryz.func44 rfl Tryz.ntmps44 (by simp) ?_
  unfold f_slices_IndexFunc_string_string_11cd at hr
  refine Tri.seq ?_
  refine Tri.region ?_
  refine R.flo Gd.no (Y.assign rfl) ?_
  refine R.nil ?_
  refine Tri.seq ?_
  refine Tri.seq ?_
  refine Tri.region ?_
  refine R.flo Gd.no (Y.move rfl) ?_
  refine TOps.fact (Fact.lenR (x := .tmp 6) (n := s.length) rfl (List.length_map ..)) (fun hl1 => ?_)
  refine R.flo Gd.no (Y.lenR (m := s.length) Tryz.underlying26 rfl rfl (List.length_map ..)) ?_
  refine R.flo Gd.no (Y.move rfl) ?_
  refine R.nil ?_
  replace hr := bind_inv hr
  obtain ⟨x10, hr, hox10⟩ := hr
  refine Tri.meet1 (α := Bytes × Nat) (fun ⟨s11, nx_12⟩ => (.inl s11) = x10) (fun ⟨s11, nx_12⟩ => ⟨19, [], [(o, .box 9 [.c (.lit (str s11))])], nx_12⟩) ?_ (fun ⟨s11, nx_12⟩ hx => ?_)
  · refine Tri.block ?_
    refine Tri.loop (α := Nat × Bytes × Nat × Nat) (fun ⟨fuel15, v2, v3, nx_4⟩ => f_slices_IndexFunc_string_string_11cd_l1 s fuel15 v2 v3 = some x10) (fun ⟨fuel15, v2, v3, nx_4⟩ => ⟨19, [(0, some (.v (.one (.c (.ro 1 false (s.map encS)))))), (1, some (.v (.one (.fn 37 [o])))), (7, some (.v (.one (.c (.lit (.int .i64 ((s.length : Int)))))))), (8, some (.v (.one (.c (.lit (.int .i64 ((v3 : Int))))))))], [(o, .box 9 [.c (.lit (str v2))])], nx_4⟩) (fun ⟨fuel15, v2, v3, nx_4⟩ => fuel15) ⟨FUEL, f, 0, nx⟩ ?_ (Weak.to [0, 1, 7, 8] [0] rfl) ?_
    · exact hr
    · rintro ⟨fuel15, v2, v3, nx_4⟩ (hr : f_slices_IndexFunc_string_string_11cd_l1 s fuel15 v2 v3 = some x10)
      cases fuel15 with
      | zero => rw [f_slices_IndexFunc_string_string_11cd_l1] at hr; cases hr
      | succ fuel15 =>
        rw [f_slices_IndexFunc_string_string_11cd_l1] at hr
        refine Tri.seq ?_
        refine Tri.region ?_
        refine R.flo Gd.no (Y.lssI rfl rfl) ?_
        refine R.nil ?_
        refine Tri.seq ?_
        refine Tri.cond rfl (fun hc5 => ?_) (fun hc5 => ?_)
        · replace hr := cond_t hc5 hr
          refine Tri.skip ?_
          refine Tri.seq ?_
          refine Tri.block ?_
          refine Tri.seq ?_
          refine Tri.region ?_
          refine R.flo Gd.no (Y.move rfl) ?_
          refine R.flo Gd.no (Y.assign rfl) ?_
          refine R.nil ?_
          refine Tri.seq ?_
          refine Tri.region ?_
          refine R.flo Gd.no (Y.move rfl) ?_
          refine R.flo Gd.no (Y.move rfl) ?_
          refine R.flo Gd.no (Y.move rfl) ?_
          replace hr := bind_inv hr
          obtain ⟨x6, hx6, hr⟩ := hr
          refine R.flo Gd.no (Y.idxR v3 Tryz.underlying26 Tryz.sizeOf9 rfl rfl (map_get hx6)) ?_
          refine R.flo Gd.no (Y.loadP1 rfl rfl Tryz.isAgg9) ?_
          replace hr := bind_inv hr
          obtain ⟨r7, hcr7, hr⟩ := hr
          refine R.callV (H1 := [(o, .box 9 [.c (.lit (str v2))])]) (H2 := []) Gd.no Tryz.en37 rfl rfl (ok_florref2_book_page_1_555a hcr7 o nx_4) (perm_idx [0] rfl) (fun _ _ nx_8 hq => ?_)
          obtain ⟨rfl, rfl⟩ := hq
          refine R.nil ?_
          refine Tri.cond rfl (fun hc9 => ?_) (fun hc9 => ?_)
          · replace hr := cond_t hc9 hr
            refine Tri.seq ?_
            refine Tri.region ?_
            refine R.flo Gd.no (Y.move rfl) ?_
            refine R.flo Gd.no (Y.assign rfl) ?_
            refine R.nil ?_
            have hx := Option.some.inj hr
            subst hx
            have hr := sum_r hox10
            refine Tri.ret ?_
            have hx := Option.some.inj hr
            subst hx
            exact ⟨.inl rfl, _, .inr (.inl ⟨_, _, rfl, rfl, rfl⟩), ⟨rfl, rfl⟩⟩
          · replace hr := cond_f hc9 hr
            refine Tri.skip ?_
            refine Tri.region ?_
            replace hr := ckI_inv hr
            obtain ⟨ha, hb, hr⟩ := hr
            refine R.flo Gd.no (Y.addI rfl rfl ha hb) ?_
            refine R.flo Gd.no (Y.move rfl) ?_
            refine R.nil ?_
            refine back_mk ⟨fuel15, r7.2, v3 + 1, nx_8⟩ hr (Nat.lt_succ_self _) (Weak.to [0, 1, 7, 8] [0] rfl)
        · replace hr := cond_f hc5 hr
          refine Tri.exit ?_
          have hx := Option.some.inj hr
          subst hx
          refine meet_mk ⟨v2, nx_4⟩ rfl (Weak.to [] [0] rfl)
  · subst hx
    have hr := sum_l hox10
    refine Tri.seq ?_
    refine Tri.region ?_
    refine R.flo Gd.no (Y.assign rfl) ?_
    refine R.nil ?_
    refine Tri.ret ?_
    have hx := Option.some.inj hr
    subst hx
    exact ⟨.inl rfl, _, .inr (.inl ⟨_, _, rfl, rfl, rfl⟩), ⟨rfl, rfl⟩⟩
theorem ok_slices_ContainsFunc_string_string_11cd {s : List Bytes} {f : Bytes} {r : Bool × Bytes} (hr : f_slices_ContainsFunc_string_string_11cd s f = some r) (o : Nat) (nx : Nat) : OkH Tryz.prog 35 [.one (.c (.ro 1 false (s.map encS))), .one (.fn 37 [o])] [(o, .box 9 [.c (.lit (str f))])] nx fun v H' _ => v = .v (.one (.c (.lit (.bool r.1)))) ∧ H' = [(o, .box 9 [.c (.lit (str r.2))])] := by
  refine OkH.intro Tryz.func35 rfl Tryz.ntmps35 (by simp) ?_
  unfold f_slices_ContainsFunc_string_string_11cd at hr
  refine Tri.seq ?_
  refine Tri.region ?_
  refine R.flo Gd.no (Y.assign rfl) ?_
  refine R.nil ?_
  refine Tri.seq ?_
  refine Tri.region ?_
  refine R.flo Gd.no (Y.move rfl) ?_
  refine R.flo Gd.no (Y.move rfl) ?_
  replace hr := bind_inv hr
  obtain ⟨r1, hcr1, hr⟩ := hr
  refine R.call (H1 := [(o, .box 9 [.c (.lit (str f))])]) (H2 := []) Gd.no Tryz.en44 rfl (ok_slices_IndexFunc_string_string_11cd hcr1 o nx) (perm_idx [0] rfl) (fun _ _ nx_2 hq => ?_)
  obtain ⟨rfl, rfl⟩ := hq
  refine R.flo Gd.no (Y.geqI rfl rfl) ?_
  refine R.flo Gd.no (Y.assign rfl) ?_
  refine R.nil ?_
  refine Tri.ret ?_
  have hx := Option.some.inj hr
  subst hx
  exact ⟨.inl rfl, _, .inr (.inl ⟨_, _, rfl, rfl, rfl⟩), ⟨rfl, rfl⟩⟩
theorem ok_florref2_book_page {b : T_florref2_book} {title : Bytes} {r : Int} (hr : f_florref2_book_page b title = some r) (nx : Nat) : OkH Tryz.prog 14 [.agg [.c (.ro 5 false (b.base.map encB))], .one (.c (.lit (str title)))] [] nx fun v H' _ => v = .v (.one (.c (.lit (.int .i64 r)))) ∧ H' = [] := by
  refine OkH.intro Tryz.func14 rfl Tryz.ntmps14 (by simp) ?_
  unfold f_florref2_book_page at hr
  refine Tri.seq ?_
  refine Tri.region ?_
  refine R.eff Gd.no (E.box (cs := [.c (.ro 5 false (b.base.map encB))]) rfl rfl rfl) ?_
  refine R.flo Gd.no (Y.assign rfl) ?_
  refine R.nil ?_
  refine Tri.seq ?_
  refine Tri.region ?_
  refine R.flo Gd.no (Y.move rfl) ?_
  replace hr := bind_inv hr
  obtain ⟨r1, hcr1, hr⟩ := hr
  refine R.call (H1 := []) (H2 := [(nx, .box 37 [.c (.ro 5 false (b.base.map encB))])]) Gd.no Tryz.en10 rfl (ok_florref2_FoldOfTitle hcr1 (nx + 1)) (perm_idx [0] rfl) (fun _ _ nx_2 hq => ?_)
  obtain ⟨rfl, rfl⟩ := hq
  refine R.eff Gd.no (E.alloc (cs := [.c (.lit (str ([] : Bytes)))]) Tryz.et9.zero Tryz.et9.one (by rfl)) ?_
  refine R.eff Gd.no (E.storeB 0 rfl rfl rfl rfl Tryz.sizeOf9 rfl rfl rfl) ?_
  refine R.nil ?_
  refine Tri.seq ?_
  refine Tri.seq ?_
  refine Tri.region ?_
  refine R.flo Gd.no (Y.loadBN rfl 1 rfl Tryz.isAgg37 Tryz.sizeOf37 rfl rfl) ?_
  replace hr := bind_inv hr
  obtain ⟨r3, hcr3, hr⟩ := hr
  refine R.call (H1 := []) (H2 := [(nx_2, .box 9 [.c (.lit (str r1))]), (nx, .box 37 [.c (.ro 5 false (b.base.map encB))])]) Gd.no Tryz.en33 rfl (ok_florref2_book_sorted hcr3 (nx_2 + 1)) (perm_idx [0, 1] rfl) (fun _ _ nx_4 hq => ?_)
  obtain ⟨rfl, rfl⟩ := hq
  refine TOps.fact (Fact.lenR (x := .tmp 13) (n := r3.length) rfl (List.length_map ..)) (fun hl5 => ?_)
  refine R.flo Gd.no (Y.lenR (m := r3.length) Tryz.underlying52 rfl rfl (List.length_map ..)) ?_
  refine R.flo Gd.no (Y.move rfl) ?_
  refine R.nil ?_
  replace hr := bind_inv hr
  obtain ⟨x15, hr, hox15⟩ := hr
  refine Tri.meet1 (α := Unit × Nat × Nat) (fun ⟨s16, o17, nx_18⟩ => (.inl s16) = x15) (fun ⟨s16, o17, nx_18⟩ => ⟨44, [(2, some (.v (.one (.ptr nx 0 0)))), (5, some (.v (.one (.ptr o17 0 0))))], [(nx, .box 37 [.c (.ro 5 false (b.base.map encB))]), (o17, .box 9 [.c (.lit (str r1))])], nx_18⟩) ?_ (fun ⟨s16, o17, nx_18⟩ hx => ?_)
  · refine Tri.block ?_
    refine Tri.loop (α := Nat × Nat) (fun ⟨v6, nx_7⟩ => v6 ≤ r3.length ∧ f_florref2_book_page_l1 b r1 (r3.drop v6)  = some x15) (fun ⟨v6, nx_7⟩ => ⟨44, [(2, some (.v (.one (.ptr nx 0 0)))), (5, some (.v (.one (.ptr nx_2 0 0)))), (13, some (.v (.one (.c (.ro 1 false (r3.map encI)))))), (14, some (.v (.one (.c (.lit (.int .i64 ((r3.length : Int)))))))), (15, some (.v (.one (.c (.lit (.int .i64 ((v6 : Int))))))))], [(nx, .box 37 [.c (.ro 5 false (b.base.map encB))]), (nx_2, .box 9 [.c (.lit (str r1))])], nx_7⟩) (fun ⟨v6, nx_7⟩ => r3.length - v6) ⟨0, nx_4⟩ ?_ (Weak.to [2, 5, 13, 14, 15] [1, 0] rfl) ?_
    · exact ⟨Nat.zero_le _, hr⟩
    · rintro ⟨v6, nx_7⟩ ⟨hk, hr⟩
      refine Tri.seq ?_
      refine Tri.region ?_
      refine R.flo Gd.no (Y.lssI rfl rfl) ?_
      refine R.nil ?_
      refine Tri.seq ?_
      refine Tri.cond rfl (fun hc => ?_) (fun hc => ?_)
      · have hk := lt_of_dec hc
        obtain ⟨x8, hx8⟩ := get_of_lt hk
        rw [drop_at hx8, f_florref2_book_page_l1] at hr
        refine Tri.skip ?_
        refine Tri.seq ?_
        refine Tri.block ?_
        refine Tri.seq ?_
        refine Tri.region ?_
        refine R.flo Gd.no (Y.idxR v6 Tryz.underlying52 Tryz.sizeOf3 rfl rfl (map_get hx8)) ?_
        refine R.flo Gd.no (Y.loadP1 rfl rfl Tryz.isAgg3) ?_
        refine R.flo Gd.no (Y.assign rfl) ?_
        refine R.nil ?_
        refine Tri.seq ?_
        refine Tri.draw 9 rfl rfl [] [(nx, .box 37 [.c (.ro 5 false (b.base.map encB))]), (nx_2, .box 9 [.c (.lit (str r1))])] rfl ?_
        refine TAny.flo 0 rfl (by decide +kernel) (by decide +kernel) (by decide +kernel) Gd.no (Y.loadBN rfl 0 rfl Tryz.isAgg37 Tryz.sizeOf37 rfl rfl) ?_
        refine TAny.flo 1 rfl (by decide +kernel) (by decide +kernel) (by decide +kernel) Gd.no (Y.move rfl) ?_
        refine TAny.flo 7 rfl (by decide +kernel) (by decide +kernel) (by decide +kernel) Gd.no (Y.loadB1 rfl 1 rfl rfl Tryz.isAgg9) ?_
        refine TAny.lists (HE' := [] ++ []) (HS' := [(nx, .box 37 [.c (.ro 5 false (b.base.map encB))]), (nx_2, .box 9 [.c (.lit (str r1))])]) (perm_idx [0, 1] rfl) (sub_idx [] rfl) ?_
        replace hr := bind_inv hr
        obtain ⟨(r9_c0 | r9_c1), hcr9, hr⟩ := hr
        · replace hr := (sum_l hr)
          refine TAny.call 2 rfl (by decide +kernel) Gd.no Tryz.en34 rfl (ok_florref2_book_block hcr9 nx_7) (fun _ _ nx_10 hq => ?_)
          obtain ⟨rfl, rfl⟩ := hq
          cases hr
        · replace hr := (sum_r hr)
          refine TAny.call 2 rfl (by decide +kernel) Gd.no Tryz.en34 rfl (ok_florref2_book_block hcr9 nx_7) (fun _ _ nx_11 hq => ?_)
          obtain ⟨rfl, rfl⟩ := hq
          refine TAny.flo 3 rfl (by decide +kernel) (by decide +kernel) (by decide +kernel) Gd.no (Y.nilR rfl) ?_
          refine TAny.flo 4 rfl (by decide +kernel) (by decide +kernel) (by decide +kernel) Gd.no (Y.fieldR Tryz.fo55_3 rfl) ?_
          refine TAny.flo 5 rfl (by decide +kernel) (by decide +kernel) (by decide +kernel) Gd.no (Y.loadP1 rfl rfl Tryz.isAgg9) ?_
          refine TAny.lists (HE' := [] ++ []) (HS' := [(nx, .box 37 [.c (.ro 5 false (b.base.map encB))]), (nx_2, .box 9 [.c (.lit (str r1))])]) (perm_idx [0, 1] rfl) (sub_idx [] rfl) ?_
          replace hr := bind_inv hr
          obtain ⟨r12, hcr12, hr⟩ := hr
          refine TAny.call 6 rfl (by decide +kernel) Gd.no Tryz.en10 rfl (ok_florref2_FoldOfTitle hcr12 nx_11) (fun _ _ nx_13 hq => ?_)
          obtain ⟨rfl, rfl⟩ := hq
          refine TAny.flo 8 rfl (by decide +kernel) (by decide +kernel) (by decide +kernel) Gd.no (Y.eqlS rfl rfl) ?_
          refine TAny.done (by decide +kernel) ?_
          refine Tri.cond rfl (fun hc14 => ?_) (fun hc14 => ?_)
          · replace hr := cond_t hc14 hr
            refine Tri.seq ?_
            refine Tri.region ?_
            refine R.flo Gd.no (Y.move rfl) ?_
            refine R.flo Gd.no (Y.assign rfl) ?_
            refine R.nil ?_
            have hx := Option.some.inj hr
            subst hx
            have hr := sum_r hox15
            refine Tri.weak (Weak.to [4] [] rfl) ?_
            refine Tri.ret ?_
            have hx := Option.some.inj hr
            subst hx
            exact ⟨.inl rfl, _, .inr (.inl ⟨_, _, rfl, rfl, rfl⟩), ⟨rfl, rfl⟩⟩
          · replace hr := cond_f hc14 hr
            refine Tri.skip ?_
            refine Tri.region ?_
            refine R.flo Gd.no (Y.addI rfl rfl (by omega) (by unfold maxLen at *; omega)) ?_
            refine R.flo Gd.no (Y.move rfl) ?_
            refine R.nil ?_
            refine back_mk ⟨v6 + 1, nx_13⟩ ⟨hk, hr⟩ (mu_dec hk) (Weak.to [2, 5, 13, 14, 15] [0, 1] rfl)
      · rw [drop_end (nlt_of_dec hc), f_florref2_book_page_l1] at hr
        refine Tri.exit ?_
        have hx := Option.some.inj hr
        subst hx
        refine meet_mk ⟨(), nx_2, nx_7⟩ rfl (Weak.to [2, 5] [0, 1] rfl)
  · subst hx
    have hr := sum_l hox15
    refine Tri.seq ?_
    refine Tri.seq ?_
    refine Tri.region ?_
    refine R.flo Gd.no (Y.loadBN rfl 0 rfl Tryz.isAgg37 Tryz.sizeOf37 rfl rfl) ?_
    replace hr := bind_inv hr
    obtain ⟨r21, hcr21, hr⟩ := hr
    refine R.call (H1 := []) (H2 := [(nx, .box 37 [.c (.ro 5 false (b.base.map encB))]), (o17, .box 9 [.c (.lit (str r1))])]) Gd.no Tryz.en33 rfl (ok_florref2_book_sorted hcr21 nx_18) (perm_idx [0, 1] rfl) (fun _ _ nx_22 hq => ?_)
    obtain ⟨rfl, rfl⟩ := hq
    refine TOps.fact (Fact.lenR (x := .tmp 31) (n := r21.length) rfl (List.length_map ..)) (fun hl23 => ?_)
    refine R.flo Gd.no (Y.lenR (m := r21.length) Tryz.underlying52 rfl rfl (List.length_map ..)) ?_
    refine R.flo Gd.no (Y.move rfl) ?_
    refine R.nil ?_
    replace hr := bind_inv hr
    obtain ⟨x33, hr, hox33⟩ := hr
    refine Tri.meet1 (α := Unit × Nat) (fun ⟨s34, nx_35⟩ => (.inl s34) = x33) (fun ⟨s34, nx_35⟩ => ⟨44, [], [], nx_35⟩) ?_ (fun ⟨s34, nx_35⟩ hx => ?_)
    · refine Tri.block ?_
      refine Tri.loop (α := Nat × Bytes × Nat) (fun ⟨v25, v24, nx_26⟩ => v25 ≤ r21.length ∧ f_florref2_book_page_l2 b (r21.drop v25) v24 = some x33) (fun ⟨v25, v24, nx_26⟩ => ⟨44, [(2, some (.v (.one (.ptr nx 0 0)))), (5, some (.v (.one (.ptr o17 0 0)))), (31, some (.v (.one (.c (.ro 1 false (r21.map encI)))))), (32, some (.v (.one (.c (.lit (.int .i64 ((r21.length : Int)))))))), (33, some (.v (.one (.c (.lit (.int .i64 ((v25 : Int))))))))], [(nx, .box 37 [.c (.ro 5 false (b.base.map encB))]), (o17, .box 9 [.c (.lit (str v24))])], nx_26⟩) (fun ⟨v25, v24, nx_26⟩ => r21.length - v25) ⟨0, r1, nx_22⟩ ?_ (Weak.to [2, 5, 31, 32, 33] [0, 1] rfl) ?_
      · exact ⟨Nat.zero_le _, hr⟩
      · rintro ⟨v25, v24, nx_26⟩ ⟨hk, hr⟩
        refine Tri.seq ?_
        refine Tri.region ?_
        refine R.flo Gd.no (Y.lssI rfl rfl) ?_
        refine R.nil ?_
        refine Tri.seq ?_
        refine Tri.cond rfl (fun hc => ?_) (fun hc => ?_)
        · have hk := lt_of_dec hc
          obtain ⟨x27, hx27⟩ := get_of_lt hk
          rw [drop_at hx27, f_florref2_book_page_l2] at hr
          refine Tri.skip ?_
          refine Tri.seq ?_
          refine Tri.block ?_
          refine Tri.seq ?_
          refine Tri.region ?_
          refine R.flo Gd.no (Y.idxR v25 Tryz.underlying52 Tryz.sizeOf3 rfl rfl (map_get hx27)) ?_
          refine R.flo Gd.no (Y.loadP1 rfl rfl Tryz.isAgg3) ?_
          refine R.flo Gd.no (Y.assign rfl) ?_
          refine R.nil ?_
          refine Tri.seq ?_
          refine Tri.region ?_
          refine R.flo Gd.no (Y.loadBN rfl 0 rfl Tryz.isAgg37 Tryz.sizeOf37 rfl rfl) ?_
          refine R.flo Gd.no (Y.move rfl) ?_
          replace hr := bind_inv hr
          obtain ⟨r28, hcr28, hr⟩ := hr
          refine R.call (H1 := []) (H2 := [(nx, .box 37 [.c (.ro 5 false (b.base.map encB))]), (o17, .box 9 [.c (.lit (str v24))])]) Gd.no Tryz.en36 rfl (ok_florref2_book_aliases hcr28 nx_26) (perm_idx [0, 1] rfl) (fun _ _ nx_29 hq => ?_)
          obtain ⟨rfl, rfl⟩ := hq
          refine R.flo Gd.no (Y.makeFunc rfl) ?_
          replace hr := bind_inv hr
          obtain ⟨r30, hcr30, hr⟩ := hr
          refine R.call (H1 := [(o17, .box 9 [.c (.lit (str v24))])]) (H2 := [(nx, .box 37 [.c (.ro 5 false (b.base.map encB))])]) Gd.no Tryz.en35 rfl (ok_slices_ContainsFunc_string_string_11cd hcr30 o17 nx_29) (perm_idx [1, 0] rfl) (fun _ _ nx_31 hq => ?_)
          obtain ⟨rfl, rfl⟩ := hq
          refine R.nil ?_
          refine Tri.cond rfl (fun hc32 => ?_) (fun hc32 => ?_)
          · replace hr := cond_t hc32 hr
            refine Tri.seq ?_
            refine Tri.region ?_
            refine R.flo Gd.no (Y.move rfl) ?_
            refine R.flo Gd.no (Y.assign rfl) ?_
            refine R.nil ?_
            have hx := Option.some.inj hr
            subst hx
            have hr := sum_r hox33
            refine Tri.weak (Weak.to [4] [] rfl) ?_
            refine Tri.ret ?_
            have hx := Option.some.inj hr
            subst hx
            exact ⟨.inl rfl, _, .inr (.inl ⟨_, _, rfl, rfl, rfl⟩), ⟨rfl, rfl⟩⟩
          · replace hr := cond_f hc32 hr
            refine Tri.skip ?_
            refine Tri.region ?_
            refine R.flo Gd.no (Y.addI rfl rfl (by omega) (by unfold maxLen at *; omega)) ?_
            refine R.flo Gd.no (Y.move rfl) ?_
            refine R.nil ?_
            refine back_mk ⟨v25 + 1, r30.2, nx_31⟩ ⟨hk, hr⟩ (mu_dec hk) (Weak.to [2, 5, 31, 32, 33] [1, 0] rfl)
        · rw [drop_end (nlt_of_dec hc), f_florref2_book_page_l2] at hr
          refine Tri.exit ?_
          have hx := Option.some.inj hr
          subst hx
          refine meet_mk ⟨(), nx_26⟩ rfl (Weak.to [] [] rfl)
    · subst hx
      have hr := sum_l hox33
      refine Tri.seq ?_
      refine Tri.region ?_
      refine R.flo Gd.no (Y.assign rfl) ?_
      refine R.nil ?_
      refine Tri.ret ?_
      have hx := Option.some.inj hr
      subst hx
      exact ⟨.inl rfl, _, .inr (.inl ⟨_, _, rfl, rfl, rfl⟩), ⟨rfl, rfl⟩⟩
theorem ok_florref2_PageFor {base : List Block} {title : Bytes} {r : Int × Int} (hr : f_florref2_PageFor base title = some r) (nx : Nat) : OkH Tryz.prog 5 [.one (.c (.ro 5 false (base.map encB))), .one (.c (.lit (str title)))] [] nx fun v H' _ => v = .tup [.one (.c (.lit (.int .i64 r.1))), .one (.c (.lit (.int .i64 r.2)))] ∧ H' = [] := by
  refine OkH.intro Tryz.func5 rfl Tryz.ntmps5 (by simp) ?_
  unfold f_florref2_PageFor at hr
  refine Tri.seq ?_
  refine Tri.region ?_
  refine R.flo Gd.no (Y.assign rfl) ?_
  refine R.flo Gd.no (Y.assign rfl) ?_
  refine R.nil ?_
  refine Tri.seq ?_
  refine Tri.region ?_
  refine R.flo Gd.no (Y.move rfl) ?_
  replace hr := bind_inv hr
  obtain ⟨r1, hcr1, hr⟩ := hr
  refine R.call (H1 := []) (H2 := []) Gd.no Tryz.en13 rfl (ok_florref2_open hcr1 nx) (perm_idx [] rfl) (fun _ _ nx_2 hq => ?_)
  obtain ⟨rfl, rfl⟩ := hq
  refine R.flo Gd.no (Y.move rfl) ?_
  refine R.flo Gd.no (Y.extract rfl rfl) ?_
  refine R.flo Gd.no (Y.extract rfl rfl) ?_
  refine R.eff Gd.no (E.alloc (cs := [.c (.lit (.slice none 0 0))]) Tryz.et37.zero Tryz.et37.one (by rfl)) ?_
  refine R.eff Gd.no (E.storeB 0 rfl rfl rfl rfl Tryz.sizeOf37 rfl rfl rfl) ?_
  refine R.flo Gd.no (Y.assign rfl) ?_
  refine R.nil ?_
  refine Tri.seq ?_
  refine Tri.seq ?_
  refine Tri.region ?_
  refine R.flo Gd.no (Y.move rfl) ?_
  refine R.flo Gd.no (Y.neqI rfl rfl) ?_
  refine R.nil ?_
  refine Tri.cond rfl (fun hc3 => ?_) (fun hc3 => ?_)
  · replace hr := cond_t hc3 hr
    refine Tri.seq ?_
    refine Tri.region ?_
    refine R.flo Gd.no (Y.move rfl) ?_
    refine R.flo Gd.no (Y.assign rfl) ?_
    refine R.flo Gd.no (Y.assign rfl) ?_
    refine R.nil ?_
    refine Tri.weak (Weak.to [4, 5] [] rfl) ?_
    refine Tri.ret ?_
    have hx := Option.some.inj hr
    subst hx
    exact ⟨.inl rfl, _, .inr (.inr (.inl ⟨_, _, _, _, rfl, rfl, rfl, rfl⟩)), ⟨rfl, rfl⟩⟩
  · replace hr := cond_f hc3 hr
    refine Tri.skip ?_
    refine Tri.seq ?_
    refine Tri.seq ?_
    refine Tri.region ?_
    refine R.flo Gd.no (Y.loadBN rfl 0 rfl Tryz.isAgg37 Tryz.sizeOf37 rfl rfl) ?_
    refine R.flo Gd.no (Y.move rfl) ?_
    replace hr := bind_inv hr
    obtain ⟨r4, hcr4, hr⟩ := hr
    refine R.call (H1 := []) (H2 := [(nx_2, .box 37 [.c (.ro 5 false (r1.1.base.map encB))])]) Gd.no Tryz.en14 rfl (ok_florref2_book_page hcr4 (nx_2 + 1)) (perm_idx [0] rfl) (fun _ _ nx_5 hq => ?_)
    obtain ⟨rfl, rfl⟩ := hq
    refine R.flo Gd.no (Y.assign rfl) ?_
    refine R.nil ?_
    refine Tri.seq ?_
    refine Tri.region ?_
    refine R.flo Gd.no (Y.move rfl) ?_
    refine R.flo Gd.no (Y.gtrI rfl rfl) ?_
    refine R.nil ?_
    refine Tri.cond rfl (fun hc6 => ?_) (fun hc6 => ?_)
    · replace hr := cond_t hc6 hr
      refine Tri.seq ?_
      refine Tri.region ?_
      refine R.flo Gd.no (Y.move rfl) ?_
      refine R.flo Gd.no (Y.assign rfl) ?_
      refine R.flo Gd.no (Y.assign rfl) ?_
      refine R.nil ?_
      refine Tri.weak (Weak.to [4, 5] [] rfl) ?_
      refine Tri.ret ?_
      have hx := Option.some.inj hr
      subst hx
      exact ⟨.inl rfl, _, .inr (.inr (.inl ⟨_, _, _, _, rfl, rfl, rfl, rfl⟩)), ⟨rfl, rfl⟩⟩
    · replace hr := cond_f hc6 hr
      refine Tri.skip ?_
      refine Tri.seq ?_
      refine Tri.region ?_
      refine R.flo Gd.no (Y.assign rfl) ?_
      refine R.flo Gd.no (Y.assign rfl) ?_
      refine R.nil ?_
      refine Tri.weak (Weak.to [4, 5] [] rfl) ?_
      refine Tri.ret ?_
      have hx := Option.some.inj hr
      subst hx
      exact ⟨.inl rfl, _, .inr (.inr (.inl ⟨_, _, _, _, rfl, rfl, rfl, rfl⟩)), ⟨rfl, rfl⟩⟩
theorem ok_link_view_isPage {id : Int} {r : Bool} (hr : f_link_view_isPage id = some r) (nx : Nat) : OkH Tryz.prog 38 [.one (.c (.lit (.pointer none))), .one (.c (.lit (.int .i64 id)))] [] nx fun v H' _ => v = .v (.one (.c (.lit (.bool r)))) ∧ H' = [] := by
  refine OkH.intro Tryz.func38 rfl Tryz.ntmps38 (by simp) ?_
  unfold f_link_view_isPage at hr
  refine Tri.seq ?_
  refine Tri.region ?_
  refine R.flo Gd.no (Y.assign rfl) ?_
  refine R.nil ?_
  refine Tri.seq ?_
  refine Tri.region ?_
  refine R.flo Gd.no (Y.move rfl) ?_
  refine R.flo Gd.no (Y.neqI rfl rfl) ?_
  refine R.flo Gd.no (Y.move rfl) ?_
  refine TOps.part (b := decide (id ≠ (0 : Int))) (fun bhb1 hb1 => ?_)
  cases bhb1
  · rw [hb1]; replace hr := cond_f hb1 hr
    refine R.skip (.f 2 false 7 rfl rfl) ?_
    refine R.skip (.f 2 false 7 rfl rfl) ?_
    refine R.skip (.f 2 false 7 rfl rfl) ?_
    refine R.skip (.f 2 false 7 rfl rfl) ?_
    refine R.skip (.f 2 false 7 rfl rfl) ?_
    refine R.skip (.f 2 false 7 rfl rfl) ?_
    refine R.skip (.f 2 false 7 rfl rfl) ?_
    refine R.skip (.f 2 false 7 rfl rfl) ?_
    refine R.flo Gd.no (Y.pickF rfl rfl) ?_
    refine R.flo Gd.no (Y.assign rfl) ?_
    refine R.nil ?_
    refine Tri.ret ?_
    have hx := Option.some.inj hr
    subst hx
    exact ⟨.inl rfl, _, .inr (.inl ⟨_, _, rfl, rfl, rfl⟩), ⟨rfl, rfl⟩⟩
  · rw [hb1]; replace hr := cond_t hb1 hr
    refine R.flo (Gd.t 2 true 7 rfl rfl) (Y.move rfl) ?_
    cases hr
theorem ok_link_view_isPage_42fa {v : List Block} {v2 : List (Int × Int)} {v3 : List (Int × Int)} {v4 : List (Bytes × Int)} {v5 : List (Bytes × Int)} {id : Int} {r : Bool × (List Block) × (List (Int × Int)) × (List (Int × Int)) × (List (Bytes × Int)) × (List (Bytes × Int))} (hr : f_link_view_isPage_42fa v v2 v3 v4 v5 id = some r) (o : Nat) (o2 : Nat) (o3 : Nat) (o4 : Nat) (o5 : Nat) (nx : Nat) : OkH Tryz.prog 38 [.one (.ptr o 0 0), .one (.c (.lit (.int .i64 id)))] [(o, .box 51 [.c (.ro 5 false (v.map encB)), .obj o2, .obj o3, .obj o4, .obj o5]), (o2, .map (.int .i64) 3 (mapOf (fun n : Int => Value.int .i64 n) evI v2)), (o3, .map (.int .i64) 3 (mapOf (fun n : Int => Value.int .i64 n) evI v3)), (o4, .map .string 3 (mapOf (fun s : Bytes => str s) evI v4)), (o5, .map .string 3 (mapOf (fun s : Bytes => str s) evI v5))] nx fun v H' _ => v = .v (.one (.c (.lit (.bool r.1)))) ∧ H' = [(o, .box 51 [.c (.ro 5 false (r.2.1.map encB)), .obj o2, .obj o3, .obj o4, .obj o5]), (o2, .map (.int .i64) 3 (mapOf (fun n : Int => Value.int .i64 n) evI r.2.2.1)), (o3, .map (.int .i64) 3 (mapOf (fun n : Int => Value.int .i64 n) evI r.2.2.2.1)), (o4, .map .string 3 (mapOf (fun s : Bytes => str s) evI r.2.2.2.2.1)), (o5, .map .string 3 (mapOf (fun s : Bytes => str s) evI r.2.2.2.2.2))] := by
  refine OkH.intro Tryz.func38 rfl Tryz.ntmps38 (by simp) ?_
  unfold f_link_view_isPage_42fa at hr
  refine Tri.seq ?_
  refine Tri.region ?_
  refine R.flo Gd.no (Y.assign rfl) ?_
  refine R.nil ?_
  refine Tri.seq ?_
  refine Tri.region ?_
  refine R.flo Gd.no (Y.move rfl) ?_
  refine R.flo Gd.no (Y.neqI rfl rfl) ?_
  refine R.flo Gd.no (Y.move rfl) ?_
  refine TOps.part (b := decide (id ≠ (0 : Int))) (fun bhb1 hb1 => ?_)
  cases bhb1
  · rw [hb1]; replace hr := cond_f hb1 hr
    refine R.skip (.f 2 false 7 rfl rfl) ?_
    refine R.skip (.f 2 false 7 rfl rfl) ?_
    refine R.skip (.f 2 false 7 rfl rfl) ?_
    refine R.skip (.f 2 false 7 rfl rfl) ?_
    refine R.skip (.f 2 false 7 rfl rfl) ?_
    refine R.skip (.f 2 false 7 rfl rfl) ?_
    refine R.skip (.f 2 false 7 rfl rfl) ?_
    refine R.skip (.f 2 false 7 rfl rfl) ?_
    refine R.flo Gd.no (Y.pickF rfl rfl) ?_
    refine R.flo Gd.no (Y.assign rfl) ?_
    refine R.nil ?_
    refine Tri.ret ?_
    have hx := Option.some.inj hr
    subst hx
    exact ⟨.inl rfl, _, .inr (.inl ⟨_, _, rfl, rfl, rfl⟩), ⟨rfl, rfl⟩⟩
  · rw [hb1]; replace hr := cond_t hb1 hr
    refine R.flo (Gd.t 2 true 7 rfl rfl) (Y.move rfl) ?_
    refine R.flo (Gd.t 2 true 7 rfl rfl) (Y.nilP rfl) ?_
    refine R.flo (Gd.t 2 true 7 rfl rfl) (Y.fieldP Tryz.fo51_2 rfl) ?_
    refine R.flo (Gd.t 2 true 7 rfl rfl) (Y.loadB1 rfl 0 rfl rfl Tryz.isAgg48) ?_
    refine R.flo (Gd.t 2 true 7 rfl rfl) (Y.move rfl) ?_
    refine R.flo (Gd.t 2 true 7 rfl rfl) (Y.lookup1 2 rfl Tryz.underlying48 Tryz.underlying3 keyI rfl rfl Tryz.et3.zero zvI) ?_
    refine R.flo (Gd.t 2 true 7 rfl rfl) (Y.move rfl) ?_
    refine R.flo (Gd.t 2 true 7 rfl rfl) (Y.eqlI rfl rfl) ?_
    refine R.flo Gd.no (Y.pickT rfl rfl) ?_
    refine R.flo Gd.no (Y.assign rfl) ?_
    refine R.nil ?_
    refine Tri.ret ?_
    have hx := Option.some.inj hr
    subst hx
    exact ⟨.inl rfl, _, .inr (.inl ⟨_, _, rfl, rfl, rfl⟩), ⟨rfl, rfl⟩⟩
theorem ok_link_lookAt_2dde {base : List Block} {pages : List Int} {r : Sum (Int × (List Int)) ((List Block) × (List (Int × Int)) × (List (Int × Int)) × (List (Bytes × Int)) × (List (Bytes × Int)) × Int × (List Int))} (hr : f_link_lookAt_2dde base pages = some r) (o : Nat) (nx : Nat) : OkH Tryz.prog 15 [.one (.c (.ro 5 false (base.map encB))), .one (.obj o)] [(o, .row 3 1 (rowOf encI pages))] nx fun v H' _ => sumP r (fun rl0 => v = .tup [.one (.c (.lit (.pointer none))), .one (.c (.lit (.int .i64 rl0.1)))] ∧ H' = [(o, .row 3 1 (rowOf encI rl0.2))]) (fun rr0 => ∃ q0 q1 q2 q3 q4, v = .tup [.one (.ptr q0 0 0), .one (.c (.lit (.int .i64 rr0.2.2.2.2.2.1)))] ∧ H' = [(q0, .box 51 [.c (.ro 5 false (rr0.1.map encB)), .obj q1, .obj q2, .obj q3, .obj q4]), (q1, .map (.int .i64) 3 (mapOf (fun n : Int => Value.int .i64 n) evI rr0.2.1)), (q2, .map (.int .i64) 3 (mapOf (fun n : Int => Value.int .i64 n) evI rr0.2.2.1)), (q3, .map .string 3 (mapOf (fun s : Bytes => str s) evI rr0.2.2.2.1)), (q4, .map .string 3 (mapOf (fun s : Bytes => str s) evI rr0.2.2.2.2.1)), (o, .row 3 1 (rowOf encI rr0.2.2.2.2.2.2))]) := by
  refine OkH.intro Tryz.func15 rfl Tryz.ntmps15 (by simp) ?_
  unfold f_link_lookAt_2dde at hr
  refine Tri.seq ?_
  refine Tri.region ?_
  refine R.flo Gd.no (Y.assign rfl) ?_
  refine R.flo Gd.no (Y.assign rfl) ?_
  refine R.nil ?_
  refine Tri.seq ?_
  refine Tri.region ?_
  refine R.flo Gd.no (Y.move rfl) ?_
  replace hr := bind_inv hr
  obtain ⟨(r1_c0 | r1_c1), hcr1, hr⟩ := hr
  · replace hr := (sum_l hr)
    refine R.call (H1 := []) (H2 := [(o, .row 3 1 (rowOf encI pages))]) Gd.no Tryz.en11 rfl (ok_link_look hcr1 nx) (perm_idx [0] rfl) (fun _ _ nx_2 hq => ?_)
    obtain ⟨rfl, rfl⟩ := hq
    refine R.flo Gd.no (Y.move rfl) ?_
    refine R.flo Gd.no (Y.extract rfl rfl) ?_
    refine R.flo Gd.no (Y.extract rfl rfl) ?_
    refine R.flo Gd.no (Y.assign rfl) ?_
    refine R.flo Gd.no (Y.assign rfl) ?_
    refine R.nil ?_
    refine Tri.seq ?_
    refine Tri.seq ?_
    refine Tri.region ?_
    refine R.flo Gd.no (Y.move rfl) ?_
    refine R.flo Gd.no (Y.neqI rfl rfl) ?_
    refine R.nil ?_
    refine Tri.cond rfl (fun hc3 => ?_) (fun hc3 => ?_)
    · replace hr := cond_t hc3 hr
      refine Tri.seq ?_
      refine Tri.region ?_
      refine R.flo Gd.no (Y.move rfl) ?_
      refine R.flo Gd.no (Y.assign rfl) ?_
      refine R.flo Gd.no (Y.assign rfl) ?_
      refine R.nil ?_
      refine Tri.ret ?_
      have hx := Option.some.inj hr
      subst hx
      exact ⟨.inl rfl, _, .inr (.inr (.inl ⟨_, _, _, _, rfl, rfl, rfl, rfl⟩)), (sumP_l ⟨rfl, rfl⟩)⟩
    · replace hr := cond_f hc3 hr
      refine Tri.skip ?_
      refine Tri.seq ?_
      refine Tri.seq ?_
      refine Tri.region ?_
      refine R.flo Gd.no (Y.move rfl) ?_
      refine TOps.fact (Fact.lenO (x := .tmp 18) (n := pages.length) 0 rfl rfl rowOf_length) (fun hl4 => ?_)
      refine R.flo Gd.no (Y.lenO (m := pages.length) 0 rfl Tryz.underlying52 rfl rfl rowOf_length) ?_
      refine R.flo Gd.no (Y.move rfl) ?_
      refine R.nil ?_
      replace hr := bind_inv hr
      obtain ⟨x11, hr, hox11⟩ := hr
      refine Tri.meet1 (α := Unit × Nat) (fun ⟨s12, nx_13⟩ => (.inl s12) = x11) (fun ⟨s12, nx_13⟩ => ⟨30, [(6, some (.v (.one (.c (.lit (.pointer none))))))], [(o, .row 3 1 (rowOf encI pages))], nx_13⟩) ?_ (fun ⟨s12, nx_13⟩ hx => ?_)
      · refine Tri.block ?_
        refine Tri.loop (α := Nat × Nat) (fun ⟨v5, nx_6⟩ => v5 ≤ pages.length ∧ f_link_lookAt_2dde_l1 (pages.drop v5)  = some x11) (fun ⟨v5, nx_6⟩ => ⟨30, [(6, some (.v (.one (.c (.lit (.pointer none)))))), (18, some (.v (.one (.obj o)))), (19, some (.v (.one (.c (.lit (.int .i64 ((pages.length : Int)))))))), (20, some (.v (.one (.c (.lit (.int .i64 ((v5 : Int))))))))], [(o, .row 3 1 (rowOf encI pages))], nx_6⟩) (fun ⟨v5, nx_6⟩ => pages.length - v5) ⟨0, nx_2⟩ ?_ (Weak.to [6, 18, 19, 20] [0] rfl) ?_
        · exact ⟨Nat.zero_le _, hr⟩
        · rintro ⟨v5, nx_6⟩ ⟨hk, hr⟩
          refine Tri.seq ?_
          refine Tri.region ?_
          refine R.flo Gd.no (Y.lssI rfl rfl) ?_
          refine R.nil ?_
          refine Tri.seq ?_
          refine Tri.cond rfl (fun hc => ?_) (fun hc => ?_)
          · have hk := lt_of_dec hc
            obtain ⟨x7, hx7⟩ := get_of_lt hk
            rw [drop_at hx7, f_link_lookAt_2dde_l1] at hr
            refine Tri.skip ?_
            refine Tri.seq ?_
            refine Tri.block ?_
            refine Tri.seq ?_
            refine Tri.region ?_
            refine R.flo Gd.no (Y.idxO v5 0 rfl Tryz.underlying52 Tryz.sizeOf3 rfl rfl (row_get hx7)) ?_
            refine R.flo Gd.no (Y.loadR1 rfl 0 rfl (row_get hx7) rfl Tryz.isAgg3) ?_
            refine R.flo Gd.no (Y.assign rfl) ?_
            refine R.nil ?_
            refine Tri.seq ?_
            refine Tri.region ?_
            refine R.flo Gd.no (Y.move rfl) ?_
            refine R.flo Gd.no (Y.move rfl) ?_
            replace hr := bind_inv hr
            obtain ⟨r8, hcr8, hr⟩ := hr
            refine R.call (H1 := []) (H2 := [(o, .row 3 1 (rowOf encI pages))]) Gd.no Tryz.en38 rfl (ok_link_view_isPage hcr8 nx_6) (perm_idx [0] rfl) (fun _ _ nx_9 hq => ?_)
            obtain ⟨rfl, rfl⟩ := hq
            refine R.flo Gd.no (Y.not rfl) ?_
            refine R.nil ?_
            refine Tri.cond rfl (fun hc10 => ?_) (fun hc10 => ?_)
            · replace hr := cond_t hc10 hr
              refine Tri.seq ?_
              refine Tri.region ?_
              refine R.flo Gd.no (Y.assign rfl) ?_
              refine R.flo Gd.no (Y.assign rfl) ?_
              refine R.nil ?_
              have hx := Option.some.inj hr
              subst hx
              have hr := sum_r hox11
              refine Tri.ret ?_
              have hx := Option.some.inj hr
              subst hx
              exact ⟨.inl rfl, _, .inr (.inr (.inl ⟨_, _, _, _, rfl, rfl, rfl, rfl⟩)), (sumP_l ⟨rfl, rfl⟩)⟩
            · replace hr := cond_f hc10 hr
              refine Tri.skip ?_
              refine Tri.region ?_
              refine R.flo Gd.no (Y.addI rfl rfl (by omega) (by unfold maxLen at *; omega)) ?_
              refine R.flo Gd.no (Y.move rfl) ?_
              refine R.nil ?_
              refine back_mk ⟨v5 + 1, nx_9⟩ ⟨hk, hr⟩ (mu_dec hk) (Weak.to [6, 18, 19, 20] [0] rfl)
          · rw [drop_end (nlt_of_dec hc), f_link_lookAt_2dde_l1] at hr
            refine Tri.exit ?_
            have hx := Option.some.inj hr
            subst hx
            refine meet_mk ⟨(), nx_6⟩ rfl (Weak.to [6] [0] rfl)
      · subst hx
        have hr := sum_l hox11
        refine Tri.seq ?_
        refine Tri.region ?_
        refine R.flo Gd.no (Y.move rfl) ?_
        refine R.flo Gd.no (Y.assign rfl) ?_
        refine R.flo Gd.no (Y.assign rfl) ?_
        refine R.nil ?_
        refine Tri.ret ?_
        have hx := Option.some.inj hr
        subst hx
        exact ⟨.inl rfl, _, .inr (.inr (.inl ⟨_, _, _, _, rfl, rfl, rfl, rfl⟩)), (sumP_l ⟨rfl, rfl⟩)⟩
  · replace hr := (sum_r hr)
    refine R.call (H1 := []) (H2 := [(o, .row 3 1 (rowOf encI pages))]) Gd.no Tryz.en11 rfl (ok_link_look hcr1 nx) (perm_idx [0] rfl) (fun _ _ nx_21 hq => ?_)
    obtain ⟨o16, o17, o18, o19, o20, rfl, rfl⟩ := hq
    refine R.flo Gd.no (Y.move rfl) ?_
    refine R.flo Gd.no (Y.extract rfl rfl) ?_
    refine R.flo Gd.no (Y.extract rfl rfl) ?_
    refine R.flo Gd.no (Y.assign rfl) ?_
    refine R.flo Gd.no (Y.assign rfl) ?_
    refine R.nil ?_
    refine Tri.seq ?_
    refine Tri.seq ?_
    refine Tri.region ?_
    refine R.flo Gd.no (Y.move rfl) ?_
    refine R.flo Gd.no (Y.neqI rfl rfl) ?_
    refine R.nil ?_
    refine Tri.cond rfl (fun hc22 => ?_) (fun hc22 => ?_)
    · replace hr := cond_t hc22 hr
      refine Tri.seq ?_
      refine Tri.region ?_
      refine R.flo Gd.no (Y.move rfl) ?_
      refine R.flo Gd.no (Y.assign rfl) ?_
      refine R.flo Gd.no (Y.assign rfl) ?_
      refine R.nil ?_
      refine Tri.weak (Weak.to [4, 5] [5] rfl) ?_
      refine Tri.ret ?_
      have hx := Option.some.inj hr
      subst hx
      exact ⟨.inl rfl, _, .inr (.inr (.inl ⟨_, _, _, _, rfl, rfl, rfl, rfl⟩)), (sumP_l ⟨rfl, rfl⟩)⟩
    · replace hr := cond_f hc22 hr
      refine Tri.skip ?_
      refine Tri.seq ?_
      refine Tri.seq ?_
      refine Tri.region ?_
      refine R.flo Gd.no (Y.move rfl) ?_
      refine TOps.fact (Fact.lenO (x := .tmp 18) (n := pages.length) 5 rfl rfl rowOf_length) (fun hl23 => ?_)
      refine R.flo Gd.no (Y.lenO (m := pages.length) 5 rfl Tryz.underlying52 rfl rfl rowOf_length) ?_
      refine R.flo Gd.no (Y.move rfl) ?_
      refine R.nil ?_
      replace hr := bind_inv hr
      obtain ⟨x35, hr, hox35⟩ := hr
      refine Tri.meet1 (α := ((List Block) × (List (Int × Int)) × (List (Int × Int)) × (List (Bytes × Int)) × (List (Bytes × Int))) × Nat × Nat × Nat × Nat × Nat × Nat) (fun ⟨s36, o37, o38, o39, o40, o41, nx_42⟩ => (.inl s36) = x35) (fun ⟨s36, o37, o38, o39, o40, o41, nx_42⟩ => ⟨30, [(6, some (.v (.one (.ptr o37 0 0))))], [(o37, .box 51 [.c (.ro 5 false (s36.1.map encB)), .obj o38, .obj o39, .obj o40, .obj o41]), (o38, .map (.int .i64) 3 (mapOf (fun n : Int => Value.int .i64 n) evI s36.2.1)), (o39, .map (.int .i64) 3 (mapOf (fun n : Int => Value.int .i64 n) evI s36.2.2.1)), (o40, .map .string 3 (mapOf (fun s : Bytes => str s) evI s36.2.2.2.1)), (o41, .map .string 3 (mapOf (fun s : Bytes => str s) evI s36.2.2.2.2)), (o, .row 3 1 (rowOf encI pages))], nx_42⟩) ?_ (fun ⟨s36, o37, o38, o39, o40, o41, nx_42⟩ hx => ?_)
      · refine Tri.block ?_
        refine Tri.loop (α := Nat × (List Block) × (List (Int × Int)) × (List (Int × Int)) × (List (Bytes × Int)) × (List (Bytes × Int)) × Nat) (fun ⟨v29, v24, v25, v26, v27, v28, nx_30⟩ => v29 ≤ pages.length ∧ f_link_lookAt_2dde_l2 (pages.drop v29) v24 v25 v26 v27 v28 = some x35) (fun ⟨v29, v24, v25, v26, v27, v28, nx_30⟩ => ⟨30, [(6, some (.v (.one (.ptr o16 0 0)))), (18, some (.v (.one (.obj o)))), (19, some (.v (.one (.c (.lit (.int .i64 ((pages.length : Int)))))))), (20, some (.v (.one (.c (.lit (.int .i64 ((v29 : Int))))))))], [(o16, .box 51 [.c (.ro 5 false (v24.map encB)), .obj o17, .obj o18, .obj o19, .obj o20]), (o17, .map (.int .i64) 3 (mapOf (fun n : Int => Value.int .i64 n) evI v25)), (o18, .map (.int .i64) 3 (mapOf (fun n : Int => Value.int .i64 n) evI v26)), (o19, .map .string 3 (mapOf (fun s : Bytes => str s) evI v27)), (o20, .map .string 3 (mapOf (fun s : Bytes => str s) evI v28)), (o, .row 3 1 (rowOf encI pages))], nx_30⟩) (fun ⟨v29, v24, v25, v26, v27, v28, nx_30⟩ => pages.length - v29) ⟨0, r1_c1.1, r1_c1.2.1, r1_c1.2.2.1, r1_c1.2.2.2.1, r1_c1.2.2.2.2.1, nx_21⟩ ?_ (Weak.to [6, 18, 19, 20] [0, 1, 2, 3, 4, 5] rfl) ?_
        · exact ⟨Nat.zero_le _, hr⟩
        · rintro ⟨v29, v24, v25, v26, v27, v28, nx_30⟩ ⟨hk, hr⟩
          refine Tri.seq ?_
          refine Tri.region ?_
          refine R.flo Gd.no (Y.lssI rfl rfl) ?_
          refine R.nil ?_
          refine Tri.seq ?_
          refine Tri.cond rfl (fun hc => ?_) (fun hc => ?_)
          · have hk := lt_of_dec hc
            obtain ⟨x31, hx31⟩ := get_of_lt hk
            rw [drop_at hx31, f_link_lookAt_2dde_l2] at hr
            refine Tri.skip ?_
            refine Tri.seq ?_
            refine Tri.block ?_
            refine Tri.seq ?_
            refine Tri.region ?_
            refine R.flo Gd.no (Y.idxO v29 5 rfl Tryz.underlying52 Tryz.sizeOf3 rfl rfl (row_get hx31)) ?_
            refine R.flo Gd.no (Y.loadR1 rfl 5 rfl (row_get hx31) rfl Tryz.isAgg3) ?_
            refine R.flo Gd.no (Y.assign rfl) ?_
            refine R.nil ?_
            refine Tri.seq ?_
            refine Tri.region ?_
            refine R.flo Gd.no (Y.move rfl) ?_
            refine R.flo Gd.no (Y.move rfl) ?_
            replace hr := bind_inv hr
            obtain ⟨r32, hcr32, hr⟩ := hr
            refine R.call (H1 := [(o16, .box 51 [.c (.ro 5 false (v24.map encB)), .obj o17, .obj o18, .obj o19, .obj o20]), (o17, .map (.int .i64) 3 (mapOf (fun n : Int => Value.int .i64 n) evI v25)), (o18, .map (.int .i64) 3 (mapOf (fun n : Int => Value.int .i64 n) evI v26)), (o19, .map .string 3 (mapOf (fun s : Bytes => str s) evI v27)), (o20, .map .string 3 (mapOf (fun s : Bytes => str s) evI v28))]) (H2 := [(o, .row 3 1 (rowOf encI pages))]) Gd.no Tryz.en38 rfl (ok_link_view_isPage_42fa hcr32 o16 o17 o18 o19 o20 nx_30) (perm_idx [0, 1, 2, 3, 4, 5] rfl) (fun _ _ nx_33 hq => ?_)
            obtain ⟨rfl, rfl⟩ := hq
            refine R.flo Gd.no (Y.not rfl) ?_
            refine R.nil ?_
            refine Tri.cond rfl (fun hc34 => ?_) (fun hc34 => ?_)
            · replace hr := cond_t hc34 hr
              refine Tri.seq ?_
              refine Tri.region ?_
              refine R.flo Gd.no (Y.assign rfl) ?_
              refine R.flo Gd.no (Y.assign rfl) ?_
              refine R.nil ?_
              have hx := Option.some.inj hr
              subst hx
              have hr := sum_r hox35
              refine Tri.weak (Weak.to [4, 5] [5] rfl) ?_
              refine Tri.ret ?_
              have hx := Option.some.inj hr
              subst hx
              exact ⟨.inl rfl, _, .inr (.inr (.inl ⟨_, _, _, _, rfl, rfl, rfl, rfl⟩)), (sumP_l ⟨rfl, rfl⟩)⟩
            · replace hr := cond_f hc34 hr
              refine Tri.skip ?_
              refine Tri.region ?_
              refine R.flo Gd.no (Y.addI rfl rfl (by omega) (by unfold maxLen at *; omega)) ?_
              refine R.flo Gd.no (Y.move rfl) ?_
              refine R.nil ?_
              refine back_mk ⟨v29 + 1, r32.2.1, r32.2.2.1, r32.2.2.2.1, r32.2.2.2.2.1, r32.2.2.2.2.2, nx_33⟩ ⟨hk, hr⟩ (mu_dec hk) (Weak.to [6, 18, 19, 20] [0, 1, 2, 3, 4, 5] rfl)
          · rw [drop_end (nlt_of_dec hc), f_link_lookAt_2dde_l2] at hr
            refine Tri.exit ?_
            have hx := Option.some.inj hr
            subst hx
            refine meet_mk ⟨(v24, v25, v26, v27, v28), o16, o17, o18, o19, o20, nx_30⟩ rfl (Weak.to [6] [0, 1, 2, 3, 4, 5] rfl)
      · subst hx
        have hr := sum_l hox35
        refine Tri.seq ?_
        refine Tri.region ?_
        refine R.flo Gd.no (Y.move rfl) ?_
        refine R.flo Gd.no (Y.assign rfl) ?_
        refine R.flo Gd.no (Y.assign rfl) ?_
        refine R.nil ?_
        refine Tri.ret ?_
        have hx := Option.some.inj hr
        subst hx
        exact ⟨.inl rfl, _, .inr (.inr (.inl ⟨_, _, _, _, rfl, rfl, rfl, rfl⟩)), (sumP_r ⟨o37, o38, o39, o40, o41, rfl, rfl⟩)⟩
theorem ok_link_view_block_42fa {v : List Block} {v2 : List (Int × Int)} {v3 : List (Int × Int)} {v4 : List (Bytes × Int)} {v5 : List (Bytes × Int)} {id : Int} {r : Block × (List Block) × (List (Int × Int)) × (List (Int × Int)) × (List (Bytes × Int)) × (List (Bytes × Int))} (hr : f_link_view_block_42fa v v2 v3 v4 v5 id = some r) (o : Nat) (o2 : Nat) (o3 : Nat) (o4 : Nat) (o5 : Nat) (nx : Nat) : OkH Tryz.prog 39 [.one (.ptr o 0 0), .one (.c (.lit (.int .i64 id)))] [(o, .box 51 [.c (.ro 5 false (v.map encB)), .obj o2, .obj o3, .obj o4, .obj o5]), (o2, .map (.int .i64) 3 (mapOf (fun n : Int => Value.int .i64 n) evI v2)), (o3, .map (.int .i64) 3 (mapOf (fun n : Int => Value.int .i64 n) evI v3)), (o4, .map .string 3 (mapOf (fun s : Bytes => str s) evI v4)), (o5, .map .string 3 (mapOf (fun s : Bytes => str s) evI v5))] nx fun v H' _ => v = .v (.agg [.c (.lit (.int .i64 r.1.id)), .c (.lit (.int .i64 r.1.parent)), .c (.ro 1 false (r.1.kids.map encI)), .c (.lit (str r.1.text)), .c (.ro 6 false (r.1.props.map encP))]) ∧ H' = [(o, .box 51 [.c (.ro 5 false (r.2.1.map encB)), .obj o2, .obj o3, .obj o4, .obj o5]), (o2, .map (.int .i64) 3 (mapOf (fun n : Int => Value.int .i64 n) evI r.2.2.1)), (o3, .map (.int .i64) 3 (mapOf (fun n : Int => Value.int .i64 n) evI r.2.2.2.1)), (o4, .map .string 3 (mapOf (fun s : Bytes => str s) evI r.2.2.2.2.1)), (o5, .map .string 3 (mapOf (fun s : Bytes => str s) evI r.2.2.2.2.2))] := by
  refine OkH.sub ?_
  refine OkH.intro Tryz.func39 rfl Tryz.ntmps39 (by simp) ?_
  unfold f_link_view_block_42fa at hr
  refine Tri.seq ?_
  refine Tri.region ?_
  refine R.eff Gd.no (E.alloc (cs := [.c (.lit (.int .i64 0)), .c (.lit (.int .i64 0)), .c (.lit (.slice none 0 0)), .c (.lit (str ([] : Bytes))), .c (.lit (.slice none 0 0))]) Tryz.et55.zero Tryz.et55.one (by rfl)) ?_
  refine R.nil ?_
  refine Tri.seq ?_
  refine Tri.draw 13 rfl rfl [(nx, .box 55 [.c (.lit (.int .i64 0)), .c (.lit (.int .i64 0)), .c (.lit (.slice none 0 0)), .c (.lit (str ([] : Bytes))), .c (.lit (.slice none 0 0))])] [(o, .box 51 [.c (.ro 5 false (v.map encB)), .obj o2, .obj o3, .obj o4, .obj o5]), (o2, .map (.int .i64) 3 (mapOf (fun n : Int => Value.int .i64 n) evI v2)), (o3, .map (.int .i64) 3 (mapOf (fun n : Int => Value.int .i64 n) evI v3)), (o4, .map .string 3 (mapOf (fun s : Bytes => str s) evI v4)), (o5, .map .string 3 (mapOf (fun s : Bytes => str s) evI v5))] rfl ?_
  refine TAny.flo 0 rfl (by decide +kernel) (by decide +kernel) (by decide +kernel) Gd.no (Y.move rfl) ?_
  refine TAny.flo 1 rfl (by decide +kernel) (by decide +kernel) (by decide +kernel) Gd.no (Y.nilP rfl) ?_
  refine TAny.flo 2 rfl (by decide +kernel) (by decide +kernel) (by decide +kernel) Gd.no (Y.fieldP Tryz.fo51_0 rfl) ?_
  refine TAny.flo 3 rfl (by decide +kernel) (by decide +kernel) (by decide +kernel) Gd.no (Y.loadB1 rfl 0 rfl rfl Tryz.isAgg22) ?_
  refine TAny.flo 4 rfl (by decide +kernel) (by decide +kernel) (by decide +kernel) Gd.no (Y.move rfl) ?_
  refine TAny.flo 5 rfl (by decide +kernel) (by decide +kernel) (by decide +kernel) Gd.no (Y.nilP rfl) ?_
  refine TAny.flo 6 rfl (by decide +kernel) (by decide +kernel) (by decide +kernel) Gd.no (Y.fieldP Tryz.fo51_1 rfl) ?_
  refine TAny.flo 7 rfl (by decide +kernel) (by decide +kernel) (by decide +kernel) Gd.no (Y.loadB1 rfl 0 rfl rfl Tryz.isAgg48) ?_
  refine TAny.flo 8 rfl (by decide +kernel) (by decide +kernel) (by decide +kernel) Gd.no (Y.move rfl) ?_
  refine TAny.flo 9 rfl (by decide +kernel) (by decide +kernel) (by decide +kernel) Gd.no (Y.lookup1 1 rfl Tryz.underlying48 Tryz.underlying3 keyI rfl rfl Tryz.et3.zero zvI) ?_
  replace hr := atn_inv hr
  obtain ⟨x1, h2, hx1, hr⟩ := hr
  refine TAny.flo 10 rfl (by decide +kernel) (by decide +kernel) (by decide +kernel) Gd.no (Y.idxR (((mget v2 id).getD (0 : Int)).toNat) Tryz.underlying22 Tryz.sizeOf55 rfl (ev_tn rfl h2) (map_get hx1)) ?_
  refine TAny.flo 11 rfl (by decide +kernel) (by decide +kernel) (by decide +kernel) Gd.no (Y.loadPN rfl Tryz.isAgg55 Tryz.sizeOf55 rfl rfl) ?_
  refine TAny.lists (HE' := [(nx, .box 55 [.c (.lit (.int .i64 0)), .c (.lit (.int .i64 0)), .c (.lit (.slice none 0 0)), .c (.lit (str ([] : Bytes))), .c (.lit (.slice none 0 0))])] ++ []) (HS' := [(o, .box 51 [.c (.ro 5 false (v.map encB)), .obj o2, .obj o3, .obj o4, .obj o5]), (o2, .map (.int .i64) 3 (mapOf (fun n : Int => Value.int .i64 n) evI v2)), (o3, .map (.int .i64) 3 (mapOf (fun n : Int => Value.int .i64 n) evI v3)), (o4, .map .string 3 (mapOf (fun s : Bytes => str s) evI v4)), (o5, .map .string 3 (mapOf (fun s : Bytes => str s) evI v5))]) (perm_idx [0, 1, 2, 3, 4, 5] rfl) (sub_idx [0] rfl) ?_
  refine TAny.eff 12 rfl (by decide +kernel) Gd.no (E.storeB 0 rfl rfl rfl rfl Tryz.sizeOf55 rfl rfl rfl) ?_
  refine TAny.done (by decide +kernel) ?_
  refine Tri.weak (Weak.to [4] [1, 2, 3, 4, 5, 0] rfl) ?_
  refine Tri.ret ?_
  have hx := Option.some.inj hr
  subst hx
  exact ⟨.inl rfl, _, .inr (.inl ⟨_, _, rfl, ⟨_, _, rfl, (Leads.box 5 rfl), .inr ⟨_, Tryz.isAgg55, Tryz.sizeOf55, Nat.le_of_ble_eq_true rfl, rfl⟩⟩, rfl⟩), ⟨_, List.take_sublist 5 _, ⟨rfl, rfl⟩⟩⟩
theorem ok_slices_Clip_string_string_77a5 {s : List Bytes} {r : (List Bytes)} (hr : f_slices_Clip_string_string_77a5 s = some r) (o : Nat) (nx : Nat) : OkH Tryz.prog 40 [.one (.obj o)] [(o, .row 9 1 (rowOf encS s))] nx fun v H' _ => v = .v (.one (.c (.ro 1 false (r.map encS)))) ∧ H' = [] := by
  refine OkH.intro Tryz.func40 rfl Tryz.ntmps40 (by simp) ?_
  unfold f_slices_Clip_string_string_77a5 at hr
  refine Tri.seq ?_
  refine Tri.region ?_
  refine R.flo Gd.no (Y.assign rfl) ?_
  refine R.nil ?_
  refine Tri.seq ?_
  refine Tri.region ?_
  refine R.flo Gd.no (Y.move rfl) ?_
  refine R.flo Gd.no (Y.move rfl) ?_
  refine TOps.fact (Fact.lenO (x := .tmp 4) (n := s.length) 0 rfl rfl rowOf_length) (fun hl1 => ?_)
  refine R.flo Gd.no (Y.lenO (m := s.length) 0 rfl Tryz.underlying26 rfl rfl rowOf_length) ?_
  refine R.flo Gd.no (Y.move rfl) ?_
  refine TOps.fact (Fact.lenO (x := .tmp 6) (n := s.length) 0 rfl rfl rowOf_length) (fun hl2 => ?_)
  refine R.flo Gd.no (Y.lenO (m := s.length) 0 rfl Tryz.underlying26 rfl rfl rowOf_length) ?_
  replace hr := cut_inv hr
  obtain ⟨y3, m4, n5, e1, e2, h1, h2, h3, hr⟩ := hr
  refine R.eff Gd.no (E.cutO 0 rfl Tryz.underlying26 Tryz.sizeOf9 rfl (bnd_z e1) (bnd_int rfl e2) (.inr ⟨_, rfl, by simp, bnd_int rfl e2⟩) h1 (by rw [rowOf_length]; exact h2) (row_cut h3)) ?_
  refine R.flo Gd.no (Y.assign rfl) ?_
  refine R.nil ?_
  refine Tri.weak (Weak.sealS (l := y3) (f := encS) 0 2 rfl rfl) ?_
  refine Tri.ret ?_
  have hx := Option.some.inj hr
  subst hx
  exact ⟨.inl rfl, _, .inr (.inl ⟨_, _, rfl, rfl, rfl⟩), ⟨rfl, rfl⟩⟩
theorem ok_link_view_names_42fa {v : List Block} {v2 : List (Int × Int)} {v3 : List (Int × Int)} {v4 : List (Bytes × Int)} {v5 : List (Bytes × Int)} {page : Int} {r : (List Bytes) × (List Block) × (List (Int × Int)) × (List (Int × Int)) × (List (Bytes × Int)) × (List (Bytes × Int))} (hr : f_link_view_names_42fa v v2 v3 v4 v5 page = some r) (o : Nat) (o2 : Nat) (o3 : Nat) (o4 : Nat) (o5 : Nat) (nx : Nat) : OkH Tryz.prog 16 [.one (.ptr o 0 0), .one (.c (.lit (.int .i64 page)))] [(o, .box 51 [.c (.ro 5 false (v.map encB)), .obj o2, .obj o3, .obj o4, .obj o5]), (o2, .map (.int .i64) 3 (mapOf (fun n : Int => Value.int .i64 n) evI v2)), (o3, .map (.int .i64) 3 (mapOf (fun n : Int => Value.int .i64 n) evI v3)), (o4, .map .string 3 (mapOf (fun s : Bytes => str s) evI v4)), (o5, .map .string 3 (mapOf (fun s : Bytes => str s) evI v5))] nx fun v H' _ => v = .v (.one (.c (.ro 1 false (r.1.map encS)))) ∧ H' = [(o, .box 51 [.c (.ro 5 false (r.2.1.map encB)), .obj o2, .obj o3, .obj o4, .obj o5]), (o2, .map (.int .i64) 3 (mapOf (fun n : Int => Value.int .i64 n) evI r.2.2.1)), (o3, .map (.int .i64) 3 (mapOf (fun n : Int => Value.int .i64 n) evI r.2.2.2.1)), (o4, .map .string 3 (mapOf (fun s : Bytes => str s) evI r.2.2.2.2.1)), (o5, .map .string 3 (mapOf (fun s : Bytes => str s) evI r.2.2.2.2.2))] := by
  refine OkH.intro Tryz.func16 rfl Tryz.ntmps16 (by simp) ?_
  unfold f_link_view_names_42fa at hr
  refine Tri.seq ?_
  refine Tri.region ?_
  refine R.flo Gd.no (Y.assign rfl) ?_
  refine R.nil ?_
  refine Tri.seq ?_
  refine Tri.region ?_
  refine R.flo Gd.no (Y.move rfl) ?_
  refine R.flo Gd.no (Y.move rfl) ?_
  replace hr := bind_inv hr
  obtain ⟨r1, hcr1, hr⟩ := hr
  refine R.call (H1 := [(o, .box 51 [.c (.ro 5 false (v.map encB)), .obj o2, .obj o3, .obj o4, .obj o5]), (o2, .map (.int .i64) 3 (mapOf (fun n : Int => Value.int .i64 n) evI v2)), (o3, .map (.int .i64) 3 (mapOf (fun n : Int => Value.int .i64 n) evI v3)), (o4, .map .string 3 (mapOf (fun s : Bytes => str s) evI v4)), (o5, .map .string 3 (mapOf (fun s : Bytes => str s) evI v5))]) (H2 := []) Gd.no Tryz.en39 rfl (ok_link_view_block_42fa hcr1 o o2 o3 o4 o5 nx) (perm_idx [0, 1, 2, 3, 4] rfl) (fun _ _ nx_2 hq => ?_)
  obtain ⟨rfl, rfl⟩ := hq
  refine R.eff Gd.no (E.alloc (cs := [.c (.lit (.int .i64 0)), .c (.lit (.int .i64 0)), .c (.lit (.slice none 0 0)), .c (.lit (str ([] : Bytes))), .c (.lit (.slice none 0 0))]) Tryz.et55.zero Tryz.et55.one (by rfl)) ?_
  refine R.eff Gd.no (E.storeB 0 rfl rfl rfl rfl Tryz.sizeOf55 rfl rfl rfl) ?_
  refine R.nil ?_
  refine Tri.seq ?_
  refine Tri.region ?_
  refine R.flo Gd.no (Y.assign rfl) ?_
  refine R.nil ?_
  refine Tri.seq ?_
  refine Tri.region ?_
  refine R.eff Gd.no (E.makeMap .string 4 (fun s : Bytes => str s) evB) ?_
  refine R.flo Gd.no (Y.assign rfl) ?_
  refine R.nil ?_
  refine Tri.seq ?_
  refine Tri.seq ?_
  refine Tri.draw 8 rfl rfl [] [(nx_2 + 1, .map .string 4 (mapOf (fun s : Bytes => str s) evB (([] : List (Bytes × Bool))))), (nx_2, .box 55 [.c (.lit (.int .i64 r1.1.id)), .c (.lit (.int .i64 r1.1.parent)), .c (.ro 1 false (r1.1.kids.map encI)), .c (.lit (str r1.1.text)), .c (.ro 6 false (r1.1.props.map encP))]), (o, .box 51 [.c (.ro 5 false (r1.2.1.map encB)), .obj o2, .obj o3, .obj o4, .obj o5]), (o2, .map (.int .i64) 3 (mapOf (fun n : Int => Value.int .i64 n) evI r1.2.2.1)), (o3, .map (.int .i64) 3 (mapOf (fun n : Int => Value.int .i64 n) evI r1.2.2.2.1)), (o4, .map .string 3 (mapOf (fun s : Bytes => str s) evI r1.2.2.2.2.1)), (o5, .map .string 3 (mapOf (fun s : Bytes => str s) evI r1.2.2.2.2.2))] rfl ?_
  refine TAny.flo 0 rfl (by decide +kernel) (by decide +kernel) (by decide +kernel) Gd.no (Y.fieldP Tryz.fo55_3 rfl) ?_
  refine TAny.flo 1 rfl (by decide +kernel) (by decide +kernel) (by decide +kernel) Gd.no (Y.loadB1 rfl 1 rfl rfl Tryz.isAgg9) ?_
  refine TAny.flo 3 rfl (by decide +kernel) (by decide +kernel) (by decide +kernel) Gd.no (Y.loadBN rfl 1 rfl Tryz.isAgg55 Tryz.sizeOf55 rfl rfl) ?_
  refine TAny.flo 7 rfl (by decide +kernel) (by decide +kernel) (by decide +kernel) Gd.no (Y.move rfl) ?_
  replace hr := bind_inv hr
  obtain ⟨r503, hcr503, hr⟩ := hr
  refine TAny.cut2 (α := Nat × Nat) 2 #[true, true, true, true, true, false, false, true] (fun ⟨o1003, nx_1004⟩ => ([(o1003, .row 9 1 (rowOf encS ([r1.1.text])))], [(0, some (.v (.one (.ptr o 0 0)))), (1, some (.v (.one (.c (.lit (.int .i64 page)))))), (4, some (.v (.one (.c (.lit (.slice none 0 0)))))), (5, some (.v (.one (.ptr nx_2 0 0)))), (6, some (.v (.one (.c (.lit (.slice none 0 0)))))), (7, some (.v (.one (.obj (nx_2 + 1))))), (11, some (.v (.one (.ptr o 0 0)))), (12, some (.v (.one (.c (.lit (.int .i64 page)))))), (13, some (.v (.agg [.c (.lit (.int .i64 r1.1.id)), .c (.lit (.int .i64 r1.1.parent)), .c (.ro 1 false (r1.1.kids.map encI)), .c (.lit (str r1.1.text)), .c (.ro 6 false (r1.1.props.map encP))]))), (14, some (.v (.one (.obj (nx_2 + 1))))), (15, some (.v (.one (.ptr nx_2 0 3)))), (16, some (.v (.one (.c (.lit (str r1.1.text)))))), (17, some (.v (.one (.obj o1003)))), (18, some (.v (.agg [.c (.lit (.int .i64 r1.1.id)), .c (.lit (.int .i64 r1.1.parent)), .c (.ro 1 false (r1.1.kids.map encI)), .c (.lit (str r1.1.text)), .c (.ro 6 false (r1.1.props.map encP))]))), (19, some (.v (.one (.c (.ro 1 false (r503.map encS)))))), (22, some (.v (.one (.c (.lit (.int .i64 0))))))], nx_1004)) ?_ (fun hcut => ?_)
  · rintro ⟨o1003, nx_1004⟩
    change TAny _ _ _ _ [(o1003, .row 9 1 (rowOf encS ([r1.1.text])))] _ _ [(0, some (.v (.one (.ptr o 0 0)))), (1, some (.v (.one (.c (.lit (.int .i64 page)))))), (4, some (.v (.one (.c (.lit (.slice none 0 0)))))), (5, some (.v (.one (.ptr nx_2 0 0)))), (6, some (.v (.one (.c (.lit (.slice none 0 0)))))), (7, some (.v (.one (.obj (nx_2 + 1))))), (11, some (.v (.one (.ptr o 0 0)))), (12, some (.v (.one (.c (.lit (.int .i64 page)))))), (13, some (.v (.agg [.c (.lit (.int .i64 r1.1.id)), .c (.lit (.int .i64 r1.1.parent)), .c (.ro 1 false (r1.1.kids.map encI)), .c (.lit (str r1.1.text)), .c (.ro 6 false (r1.1.props.map encP))]))), (14, some (.v (.one (.obj (nx_2 + 1))))), (15, some (.v (.one (.ptr nx_2 0 3)))), (16, some (.v (.one (.c (.lit (str r1.1.text)))))), (17, some (.v (.one (.obj o1003)))), (18, some (.v (.agg [.c (.lit (.int .i64 r1.1.id)), .c (.lit (.int .i64 r1.1.parent)), .c (.ro 1 false (r1.1.kids.map encI)), .c (.lit (str r1.1.text)), .c (.ro 6 false (r1.1.props.map encP))]))), (19, some (.v (.one (.c (.ro 1 false (r503.map encS)))))), (22, some (.v (.one (.c (.lit (.int .i64 0))))))] nx_1004 _
    refine TAny.lists (HE' := [(o1003, .row 9 1 (rowOf encS ([r1.1.text])))] ++ []) (HS' := [(nx_2 + 1, .map .string 4 (mapOf (fun s : Bytes => str s) evB (([] : List (Bytes × Bool))))), (nx_2, .box 55 [.c (.lit (.int .i64 r1.1.id)), .c (.lit (.int .i64 r1.1.parent)), .c (.ro 1 false (r1.1.kids.map encI)), .c (.lit (str r1.1.text)), .c (.ro 6 false (r1.1.props.map encP))]), (o, .box 51 [.c (.ro 5 false (r1.2.1.map encB)), .obj o2, .obj o3, .obj o4, .obj o5]), (o2, .map (.int .i64) 3 (mapOf (fun n : Int => Value.int .i64 n) evI r1.2.2.1)), (o3, .map (.int .i64) 3 (mapOf (fun n : Int => Value.int .i64 n) evI r1.2.2.2.1)), (o4, .map .string 3 (mapOf (fun s : Bytes => str s) evI r1.2.2.2.2.1)), (o5, .map .string 3 (mapOf (fun s : Bytes => str s) evI r1.2.2.2.2.2))]) (perm_idx [0, 1, 2, 3, 4, 5, 6, 7] rfl) (sub_idx [0] rfl) ?_
    replace hr := ckN_inv hr
    obtain ⟨ha, hr⟩ := hr
    refine TAny.eff 5 rfl (by decide +kernel) Gd.no (E.append (es := rowOf encS ([r1.1.text])) (es' := rowOf encS (([r1.1.text]) ++ r503)) 0 rfl Tryz.underlying26 Tryz.et9 rfl rfl Holds.ro (fits_len ha (app_len rowOf_length (by rw [clos_length, List.length_map])) rfl) (fits_max ha (app_len rowOf_length (by rw [clos_length, List.length_map]))) rfl (rowOf_app ..)) ?_
    refine TAny.lists (HE' := []) (HS' := [(nx_2 + 1, .map .string 4 (mapOf (fun s : Bytes => str s) evB (([] : List (Bytes × Bool))))), (nx_2, .box 55 [.c (.lit (.int .i64 r1.1.id)), .c (.lit (.int .i64 r1.1.parent)), .c (.ro 1 false (r1.1.kids.map encI)), .c (.lit (str r1.1.text)), .c (.ro 6 false (r1.1.props.map encP))]), (o, .box 51 [.c (.ro 5 false (r1.2.1.map encB)), .obj o2, .obj o3, .obj o4, .obj o5]), (o2, .map (.int .i64) 3 (mapOf (fun n : Int => Value.int .i64 n) evI r1.2.2.1)), (o3, .map (.int .i64) 3 (mapOf (fun n : Int => Value.int .i64 n) evI r1.2.2.2.1)), (o4, .map .string 3 (mapOf (fun s : Bytes => str s) evI r1.2.2.2.2.1)), (o5, .map .string 3 (mapOf (fun s : Bytes => str s) evI r1.2.2.2.2.2)), (nx_1004, .row 9 1 (rowOf encS (([r1.1.text]) ++ r503)))]) (perm_idx [1, 2, 3, 4, 5, 6, 7, 0] rfl) (sub_idx [] rfl) ?_
    refine TAny.factS (Fact.lenO (x := .tmp 20) (n := (([r1.1.text]) ++ r503).length) 7 rfl rfl rowOf_length) (fun hl1005 => ?_)
    refine TAny.flo 6 rfl (by decide +kernel) (by decide +kernel) (by decide +kernel) Gd.no (Y.lenO (m := (([r1.1.text]) ++ r503).length) 7 rfl Tryz.underlying26 rfl rfl rowOf_length) ?_
    refine TAny.done (by decide +kernel) ?_
    refine Tri.weak (Weak.virt (t := 6) 9 1 rfl) ?_
    replace hr := bind_inv hr
    obtain ⟨x1015, hr, hox1015⟩ := hr
    refine Tri.meet1 (α := ((List Bytes)) × Nat × Nat) (fun ⟨s1016, o1017, nx_1018⟩ => s1016 = x1015) (fun ⟨s1016, o1017, nx_1018⟩ => ⟨41, [(6, some (.v (.one (.obj o1017))))], [(o1017, .row 9 1 (rowOf encS s1016)), (o, .box 51 [.c (.ro 5 false (r1.2.1.map encB)), .obj o2, .obj o3, .obj o4, .obj o5]), (o2, .map (.int .i64) 3 (mapOf (fun n : Int => Value.int .i64 n) evI r1.2.2.1)), (o3, .map (.int .i64) 3 (mapOf (fun n : Int => Value.int .i64 n) evI r1.2.2.2.1)), (o4, .map .string 3 (mapOf (fun s : Bytes => str s) evI r1.2.2.2.2.1)), (o5, .map .string 3 (mapOf (fun s : Bytes => str s) evI r1.2.2.2.2.2))], nx_1018⟩) ?_ (fun ⟨s1016, o1017, nx_1018⟩ hx => ?_)
    · refine Tri.block ?_
      refine Tri.loop (α := Nat × (List Bytes) × (List (Bytes × Bool)) × Nat × Nat) (fun ⟨v1009, l1007, seen1008, o1006, nx_1010⟩ => v1009 ≤ (([r1.1.text]) ++ r503).length ∧ f_link_view_names_42fa_l1 ((([r1.1.text]) ++ r503).drop v1009) l1007 seen1008 = some x1015) (fun ⟨v1009, l1007, seen1008, o1006, nx_1010⟩ => ⟨41, [(6, some (.v (.one (.obj o1006)))), (7, some (.v (.one (.obj (nx_2 + 1))))), (20, some (.v (.one (.obj nx_1004)))), (21, some (.v (.one (.c (.lit (.int .i64 (((([r1.1.text]) ++ r503).length : Int)))))))), (22, some (.v (.one (.c (.lit (.int .i64 ((v1009 : Int))))))))], [(o1006, .row 9 1 (rowOf encS l1007)), (nx_2 + 1, .map .string 4 (mapOf (fun s : Bytes => str s) evB seen1008)), (nx_1004, .row 9 1 (rowOf encS (([r1.1.text]) ++ r503))), (o, .box 51 [.c (.ro 5 false (r1.2.1.map encB)), .obj o2, .obj o3, .obj o4, .obj o5]), (o2, .map (.int .i64) 3 (mapOf (fun n : Int => Value.int .i64 n) evI r1.2.2.1)), (o3, .map (.int .i64) 3 (mapOf (fun n : Int => Value.int .i64 n) evI r1.2.2.2.1)), (o4, .map .string 3 (mapOf (fun s : Bytes => str s) evI r1.2.2.2.2.1)), (o5, .map .string 3 (mapOf (fun s : Bytes => str s) evI r1.2.2.2.2.2))], nx_1010⟩) (fun ⟨v1009, l1007, seen1008, o1006, nx_1010⟩ => (([r1.1.text]) ++ r503).length - v1009) ⟨0, ([] : List Bytes), ([] : List (Bytes × Bool)), nx_1004 + 1, nx_1004 + 2⟩ ?_ (Weak.to [6, 7, 20, 21, 22] [0, 1, 8, 3, 4, 5, 6, 7] rfl) ?_
      · exact ⟨Nat.zero_le _, hr⟩
      · rintro ⟨v1009, l1007, seen1008, o1006, nx_1010⟩ ⟨hk, hr⟩
        refine Tri.seq ?_
        refine Tri.region ?_
        refine R.flo Gd.no (Y.lssI rfl rfl) ?_
        refine R.nil ?_
        refine Tri.seq ?_
        refine Tri.cond rfl (fun hc => ?_) (fun hc => ?_)
        · have hk := lt_of_dec hc
          obtain ⟨x1011, hx1011⟩ := get_of_lt hk
          rw [drop_at hx1011, f_link_view_names_42fa_l1] at hr
          refine Tri.skip ?_
          refine Tri.seq ?_
          refine Tri.block ?_
          refine Tri.seq ?_
          refine Tri.region ?_
          refine R.flo Gd.no (Y.idxO v1009 2 rfl Tryz.underlying26 Tryz.sizeOf9 rfl rfl (row_get hx1011)) ?_
          refine R.flo Gd.no (Y.loadR1 rfl 2 rfl (row_get hx1011) rfl Tryz.isAgg9) ?_
          refine R.flo Gd.no (Y.assign rfl) ?_
          refine R.nil ?_
          refine Tri.seq ?_
          refine Tri.region ?_
          refine R.flo Gd.no (Y.move rfl) ?_
          replace hr := bind_inv hr
          obtain ⟨r1012, hcr1012, hr⟩ := hr
          refine R.call (H1 := []) (H2 := [(o1006, .row 9 1 (rowOf encS l1007)), (nx_2 + 1, .map .string 4 (mapOf (fun s : Bytes => str s) evB seen1008)), (nx_1004, .row 9 1 (rowOf encS (([r1.1.text]) ++ r503))), (o, .box 51 [.c (.ro 5 false (r1.2.1.map encB)), .obj o2, .obj o3, .obj o4, .obj o5]), (o2, .map (.int .i64) 3 (mapOf (fun n : Int => Value.int .i64 n) evI r1.2.2.1)), (o3, .map (.int .i64) 3 (mapOf (fun n : Int => Value.int .i64 n) evI r1.2.2.2.1)), (o4, .map .string 3 (mapOf (fun s : Bytes => str s) evI r1.2.2.2.2.1)), (o5, .map .string 3 (mapOf (fun s : Bytes => str s) evI r1.2.2.2.2.2))]) Gd.no Tryz.en9 rfl (ok_link_FoldTitle hcr1012 nx_1010) (perm_idx [0, 1, 2, 3, 4, 5, 6, 7] rfl) (fun _ _ nx_1013 hq => ?_)
          obtain ⟨rfl, rfl⟩ := hq
          refine R.flo Gd.no (Y.assign rfl) ?_
          refine R.nil ?_
          refine Tri.seq ?_
          refine Tri.region ?_
          refine R.flo Gd.no (Y.move rfl) ?_
          refine R.flo Gd.no (Y.move rfl) ?_
          refine R.flo Gd.no (Y.lookup1 1 rfl Tryz.underlying69 Tryz.underlying9 keyS rfl rfl Tryz.et4.zero zvB) ?_
          refine R.flo Gd.no (Y.not rfl) ?_
          refine R.nil ?_
          refine Tri.cond rfl (fun hc1014 => ?_) (fun hc1014 => ?_)
          · replace hr := cond_t hc1014 hr
            refine Tri.seq ?_
            refine Tri.region ?_
            refine R.flo Gd.no (Y.move rfl) ?_
            refine R.flo Gd.no (Y.move rfl) ?_
            replace hr := ckN_inv hr
            obtain ⟨ha, hr⟩ := hr
            refine R.eff Gd.no (E.mapUpdate 1 rfl Tryz.underlying69 Tryz.underlying9 keyS rfl rfl rfl ha) ?_
            refine R.nil ?_
            refine Tri.region ?_
            refine R.flo Gd.no (Y.move rfl) ?_
            refine R.flo Gd.no (Y.move rfl) ?_
            refine R.eff Gd.no (E.buildSlice (es := rowOf encS ([x1011])) [.one (.c (.lit (str x1011)))] Tryz.underlying26 Tryz.et9 rfl rfl rfl rfl (by decide) (by decide) rfl) ?_
            replace hr := ckN_inv hr
            obtain ⟨ha, hr⟩ := hr
            refine R.eff Gd.no (E.append (es := rowOf encS l1007) (es' := rowOf encS (l1007 ++ ([x1011]))) 1 rfl Tryz.underlying26 Tryz.et9 rfl rfl (Holds.obj 0 rfl) (fits_len ha (app_len rowOf_length rowOf_length) rfl) (fits_max ha (app_len rowOf_length rowOf_length)) rfl rowOf_append.symm) ?_
            refine R.flo Gd.no (Y.assign rfl) ?_
            refine R.nil ?_
            refine Tri.region ?_
            refine R.flo Gd.no (Y.addI rfl rfl (by omega) (by unfold maxLen at *; omega)) ?_
            refine R.flo Gd.no (Y.move rfl) ?_
            refine R.nil ?_
            refine back_mk ⟨v1009 + 1, l1007 ++ ([x1011]), mset seen1008 r1012 true, nx_1013 + 1, nx_1013 + 2⟩ ⟨hk, hr⟩ (mu_dec hk) (Weak.to [6, 7, 20, 21, 22] [0, 2, 3, 4, 5, 6, 7, 8] rfl)
          · replace hr := cond_f hc1014 hr
            refine Tri.skip ?_
            refine Tri.region ?_
            refine R.flo Gd.no (Y.addI rfl rfl (by omega) (by unfold maxLen at *; omega)) ?_
            refine R.flo Gd.no (Y.move rfl) ?_
            refine R.nil ?_
            refine back_mk ⟨v1009 + 1, l1007, seen1008, o1006, nx_1013⟩ ⟨hk, hr⟩ (mu_dec hk) (Weak.to [6, 7, 20, 21, 22] [0, 1, 2, 3, 4, 5, 6, 7] rfl)
        · rw [drop_end (nlt_of_dec hc), f_link_view_names_42fa_l1] at hr
          refine Tri.exit ?_
          have hx := Option.some.inj hr
          subst hx
          refine meet_mk ⟨l1007, o1006, nx_1010⟩ rfl (Weak.to [6] [0, 3, 4, 5, 6, 7] rfl)
    · subst hx
      have hr := hox1015
      refine Tri.seq ?_
      refine Tri.region ?_
      refine R.flo Gd.no (Y.move rfl) ?_
      replace hr := bind_inv hr
      obtain ⟨r1019, hcr1019, hr⟩ := hr
      refine R.call (H1 := [(o1017, .row 9 1 (rowOf encS s1016))]) (H2 := [(o, .box 51 [.c (.ro 5 false (r1.2.1.map encB)), .obj o2, .obj o3, .obj o4, .obj o5]), (o2, .map (.int .i64) 3 (mapOf (fun n : Int => Value.int .i64 n) evI r1.2.2.1)), (o3, .map (.int .i64) 3 (mapOf (fun n : Int => Value.int .i64 n) evI r1.2.2.2.1)), (o4, .map .string 3 (mapOf (fun s : Bytes => str s) evI r1.2.2.2.2.1)), (o5, .map .string 3 (mapOf (fun s : Bytes => str s) evI r1.2.2.2.2.2))]) Gd.no Tryz.en40 rfl (ok_slices_Clip_string_string_77a5 hcr1019 o1017 nx_1018) (perm_idx [0, 1, 2, 3, 4, 5] rfl) (fun _ _ nx_1020 hq => ?_)
      obtain ⟨rfl, rfl⟩ := hq
      refine R.flo Gd.no (Y.assign rfl) ?_
      refine R.nil ?_
      refine Tri.ret ?_
      have hx := Option.some.inj hr
      subst hx
      exact ⟨.inl rfl, _, .inr (.inl ⟨_, _, rfl, rfl, rfl⟩), ⟨rfl, rfl⟩⟩
  refine TAny.next2 2 4 (by decide +kernel) ?_ ?_
  · refine TNext.lists (HE' := [] ++ []) (HS' := [(nx_2 + 1, .map .string 4 (mapOf (fun s : Bytes => str s) evB (([] : List (Bytes × Bool))))), (nx_2, .box 55 [.c (.lit (.int .i64 r1.1.id)), .c (.lit (.int .i64 r1.1.parent)), .c (.ro 1 false (r1.1.kids.map encI)), .c (.lit (str r1.1.text)), .c (.ro 6 false (r1.1.props.map encP))]), (o, .box 51 [.c (.ro 5 false (r1.2.1.map encB)), .obj o2, .obj o3, .obj o4, .obj o5]), (o2, .map (.int .i64) 3 (mapOf (fun n : Int => Value.int .i64 n) evI r1.2.2.1)), (o3, .map (.int .i64) 3 (mapOf (fun n : Int => Value.int .i64 n) evI r1.2.2.2.1)), (o4, .map .string 3 (mapOf (fun s : Bytes => str s) evI r1.2.2.2.2.1)), (o5, .map .string 3 (mapOf (fun s : Bytes => str s) evI r1.2.2.2.2.2))]) (perm_idx [0, 1, 2, 3, 4, 5, 6] rfl) (sub_idx [] rfl) ?_
    refine TNext.eff 2 rfl Gd.no (E.buildSlice (es := rowOf encS ([r1.1.text])) [.one (.c (.lit (str r1.1.text)))] Tryz.underlying26 Tryz.et9 rfl rfl rfl rfl (by decide) (by decide) rfl) ?_
    refine TAny.lists (HE' := [] ++ [(nx_2 + 2, .row 9 1 (rowOf encS ([r1.1.text])))]) (HS' := [(nx_2 + 1, .map .string 4 (mapOf (fun s : Bytes => str s) evB (([] : List (Bytes × Bool))))), (nx_2, .box 55 [.c (.lit (.int .i64 r1.1.id)), .c (.lit (.int .i64 r1.1.parent)), .c (.ro 1 false (r1.1.kids.map encI)), .c (.lit (str r1.1.text)), .c (.ro 6 false (r1.1.props.map encP))]), (o, .box 51 [.c (.ro 5 false (r1.2.1.map encB)), .obj o2, .obj o3, .obj o4, .obj o5]), (o2, .map (.int .i64) 3 (mapOf (fun n : Int => Value.int .i64 n) evI r1.2.2.1)), (o3, .map (.int .i64) 3 (mapOf (fun n : Int => Value.int .i64 n) evI r1.2.2.2.1)), (o4, .map .string 3 (mapOf (fun s : Bytes => str s) evI r1.2.2.2.2.1)), (o5, .map .string 3 (mapOf (fun s : Bytes => str s) evI r1.2.2.2.2.2))]) (perm_idx [0, 1, 2, 3, 4, 5, 6, 7] rfl) (sub_idx [0] rfl) ?_
    refine TAny.call 4 rfl (by decide +kernel) Gd.no Tryz.en31 rfl (ok_link_aliasesOf hcr503 (nx_2 + 3)) (fun _ _ nx_504 hq => ?_)
    obtain ⟨rfl, rfl⟩ := hq
    exact TAny.to [0, 1, 4, 5, 6, 7, 11, 12, 13, 14, 15, 16, 17, 18, 19, 22] (hcut ⟨nx_2 + 2, nx_504⟩) (by decide +kernel) rfl rfl (perm_idx [0] rfl)
  · refine TNext.lists (HE' := [] ++ []) (HS' := [(nx_2 + 1, .map .string 4 (mapOf (fun s : Bytes => str s) evB (([] : List (Bytes × Bool))))), (nx_2, .box 55 [.c (.lit (.int .i64 r1.1.id)), .c (.lit (.int .i64 r1.1.parent)), .c (.ro 1 false (r1.1.kids.map encI)), .c (.lit (str r1.1.text)), .c (.ro 6 false (r1.1.props.map encP))]), (o, .box 51 [.c (.ro 5 false (r1.2.1.map encB)), .obj o2, .obj o3, .obj o4, .obj o5]), (o2, .map (.int .i64) 3 (mapOf (fun n : Int => Value.int .i64 n) evI r1.2.2.1)), (o3, .map (.int .i64) 3 (mapOf (fun n : Int => Value.int .i64 n) evI r1.2.2.2.1)), (o4, .map .string 3 (mapOf (fun s : Bytes => str s) evI r1.2.2.2.2.1)), (o5, .map .string 3 (mapOf (fun s : Bytes => str s) evI r1.2.2.2.2.2))]) (perm_idx [0, 1, 2, 3, 4, 5, 6] rfl) (sub_idx [] rfl) ?_
    refine TNext.call 4 rfl Gd.no Tryz.en31 rfl (ok_link_aliasesOf hcr503 (nx_2 + 2)) (fun _ _ nx_504 hq => ?_)
    obtain ⟨rfl, rfl⟩ := hq
    refine TAny.lists (HE' := [] ++ []) (HS' := [(nx_2 + 1, .map .string 4 (mapOf (fun s : Bytes => str s) evB (([] : List (Bytes × Bool))))), (nx_2, .box 55 [.c (.lit (.int .i64 r1.1.id)), .c (.lit (.int .i64 r1.1.parent)), .c (.ro 1 false (r1.1.kids.map encI)), .c (.lit (str r1.1.text)), .c (.ro 6 false (r1.1.props.map encP))]), (o, .box 51 [.c (.ro 5 false (r1.2.1.map encB)), .obj o2, .obj o3, .obj o4, .obj o5]), (o2, .map (.int .i64) 3 (mapOf (fun n : Int => Value.int .i64 n) evI r1.2.2.1)), (o3, .map (.int .i64) 3 (mapOf (fun n : Int => Value.int .i64 n) evI r1.2.2.2.1)), (o4, .map .string 3 (mapOf (fun s : Bytes => str s) evI r1.2.2.2.2.1)), (o5, .map .string 3 (mapOf (fun s : Bytes => str s) evI r1.2.2.2.2.2))]) (perm_idx [0, 1, 2, 3, 4, 5, 6] rfl) (sub_idx [] rfl) ?_
    refine TAny.eff 2 rfl (by decide +kernel) Gd.no (E.buildSlice (es := rowOf encS ([r1.1.text])) [.one (.c (.lit (str r1.1.text)))] Tryz.underlying26 Tryz.et9 rfl rfl rfl rfl (by decide) (by decide) rfl) ?_
    exact TAny.to [0, 1, 4, 5, 6, 7, 11, 12, 13, 14, 15, 16, 17, 18, 19, 22] (hcut ⟨nx_504, nx_504 + 1⟩) (by decide +kernel) rfl rfl (perm_idx [0] rfl)
theorem ok_link_Names {base : List Block} {page : Int} {r : (List Bytes) × Int} (hr : f_link_Names base page = some r) (nx : Nat) : OkH Tryz.prog 6 [.one (.c (.ro 5 false (base.map encB))), .one (.c (.lit (.int .i64 page)))] [] nx fun v H' _ => v = .tup [.one (.c (.ro 1 false (r.1.map encS))), .one (.c (.lit (.int .i64 r.2)))] ∧ H' = [] := by
  refine OkH.intro Tryz.func6 rfl Tryz.ntmps6 (by simp) ?_
  unfold f_link_Names at hr
  refine Tri.seq ?_
  refine Tri.region ?_
  refine R.flo Gd.no (Y.assign rfl) ?_
  refine R.flo Gd.no (Y.assign rfl) ?_
  refine R.nil ?_
  refine Tri.seq ?_
  refine Tri.region ?_
  refine R.flo Gd.no (Y.move rfl) ?_
  refine R.flo Gd.no (Y.move rfl) ?_
  refine R.eff Gd.no (E.buildSlice (es := rowOf encI ([page])) [.one (.c (.lit (.int .i64 page)))] Tryz.underlying52 Tryz.et3 rfl rfl rfl rfl (by decide) (by decide) rfl) ?_
  replace hr := bind_inv hr
  obtain ⟨(r1_c0 | r1_c1), hcr1, hr⟩ := hr
  · replace hr := (sum_l hr)
    refine R.call (H1 := [(nx, .row 3 1 (rowOf encI ([page])))]) (H2 := []) Gd.no Tryz.en15 rfl (ok_link_lookAt_2dde hcr1 nx (nx + 1)) (perm_idx [0] rfl) (fun _ _ nx_2 hq => ?_)
    obtain ⟨rfl, rfl⟩ := hq
    refine R.flo Gd.no (Y.move rfl) ?_
    refine R.flo Gd.no (Y.extract rfl rfl) ?_
    refine R.flo Gd.no (Y.extract rfl rfl) ?_
    refine R.flo Gd.no (Y.assign rfl) ?_
    refine R.flo Gd.no (Y.assign rfl) ?_
    refine R.nil ?_
    refine Tri.seq ?_
    refine Tri.seq ?_
    refine Tri.region ?_
    refine R.flo Gd.no (Y.move rfl) ?_
    refine R.flo Gd.no (Y.neqI rfl rfl) ?_
    refine R.nil ?_
    refine Tri.cond rfl (fun hc3 => ?_) (fun hc3 => ?_)
    · replace hr := cond_t hc3 hr
      refine Tri.seq ?_
      refine Tri.region ?_
      refine R.flo Gd.no (Y.move rfl) ?_
      refine R.flo Gd.no (Y.assign rfl) ?_
      refine R.flo Gd.no (Y.assign rfl) ?_
      refine R.nil ?_
      refine Tri.weak (Weak.nilR 4 1 rfl) ?_
      refine Tri.weak (Weak.to [4, 5] [] rfl) ?_
      refine Tri.ret ?_
      have hx := Option.some.inj hr
      subst hx
      exact ⟨.inl rfl, _, .inr (.inr (.inl ⟨_, _, _, _, rfl, rfl, rfl, rfl⟩)), ⟨rfl, rfl⟩⟩
    · replace hr := cond_f hc3 hr
      refine Tri.skip ?_
      refine Tri.seq ?_
      refine Tri.region ?_
      refine R.flo Gd.no (Y.move rfl) ?_
      refine R.flo Gd.no (Y.move rfl) ?_
      cases hr
  · replace hr := (sum_r hr)
    refine R.call (H1 := [(nx, .row 3 1 (rowOf encI ([page])))]) (H2 := []) Gd.no Tryz.en15 rfl (ok_link_lookAt_2dde hcr1 nx (nx + 1)) (perm_idx [0] rfl) (fun _ _ nx_9 hq => ?_)
    obtain ⟨o4, o5, o6, o7, o8, rfl, rfl⟩ := hq
    refine R.flo Gd.no (Y.move rfl) ?_
    refine R.flo Gd.no (Y.extract rfl rfl) ?_
    refine R.flo Gd.no (Y.extract rfl rfl) ?_
    refine R.flo Gd.no (Y.assign rfl) ?_
    refine R.flo Gd.no (Y.assign rfl) ?_
    refine R.nil ?_
    refine Tri.seq ?_
    refine Tri.seq ?_
    refine Tri.region ?_
    refine R.flo Gd.no (Y.move rfl) ?_
    refine R.flo Gd.no (Y.neqI rfl rfl) ?_
    refine R.nil ?_
    refine Tri.cond rfl (fun hc10 => ?_) (fun hc10 => ?_)
    · replace hr := cond_t hc10 hr
      refine Tri.seq ?_
      refine Tri.region ?_
      refine R.flo Gd.no (Y.move rfl) ?_
      refine R.flo Gd.no (Y.assign rfl) ?_
      refine R.flo Gd.no (Y.assign rfl) ?_
      refine R.nil ?_
      refine Tri.weak (Weak.nilR 4 1 rfl) ?_
      refine Tri.weak (Weak.to [4, 5] [] rfl) ?_
      refine Tri.ret ?_
      have hx := Option.some.inj hr
      subst hx
      exact ⟨.inl rfl, _, .inr (.inr (.inl ⟨_, _, _, _, rfl, rfl, rfl, rfl⟩)), ⟨rfl, rfl⟩⟩
    · replace hr := cond_f hc10 hr
      refine Tri.skip ?_
      refine Tri.seq ?_
      refine Tri.region ?_
      refine R.flo Gd.no (Y.move rfl) ?_
      refine R.flo Gd.no (Y.move rfl) ?_
      replace hr := bind_inv hr
      obtain ⟨r11, hcr11, hr⟩ := hr
      refine R.call (H1 := [(o4, .box 51 [.c (.ro 5 false (r1_c1.1.map encB)), .obj o5, .obj o6, .obj o7, .obj o8]), (o5, .map (.int .i64) 3 (mapOf (fun n : Int => Value.int .i64 n) evI r1_c1.2.1)), (o6, .map (.int .i64) 3 (mapOf (fun n : Int => Value.int .i64 n) evI r1_c1.2.2.1)), (o7, .map .string 3 (mapOf (fun s : Bytes => str s) evI r1_c1.2.2.2.1)), (o8, .map .string 3 (mapOf (fun s : Bytes => str s) evI r1_c1.2.2.2.2.1))]) (H2 := [(nx, .row 3 1 (rowOf encI r1_c1.2.2.2.2.2.2))]) Gd.no Tryz.en16 rfl (ok_link_view_names_42fa hcr11 o4 o5 o6 o7 o8 nx_9) (perm_idx [0, 1, 2, 3, 4, 5] rfl) (fun _ _ nx_12 hq => ?_)
      obtain ⟨rfl, rfl⟩ := hq
      refine R.flo Gd.no (Y.assign rfl) ?_
      refine R.flo Gd.no (Y.assign rfl) ?_
      refine R.nil ?_
      refine Tri.weak (Weak.to [4, 5] [] rfl) ?_
      refine Tri.ret ?_
      have hx := Option.some.inj hr
      subst hx
      exact ⟨.inl rfl, _, .inr (.inr (.inl ⟨_, _, _, _, rfl, rfl, rfl, rfl⟩)), ⟨rfl, rfl⟩⟩
theorem ok_slices_Index_int_int {s : List Int} {v : Int} {r : Int} (hr : f_slices_Index_int_int s v = some r) (nx : Nat) : OkH Tryz.prog 62 [.one (.c (.ro 1 false (s.map encI))), .one (.c (.lit (.int .i64 v)))] [] nx fun v H' _ => v = .v (.one (.c (.lit (.int .i64 r)))) ∧ H' = [] := by
  refine OkH.intro Tryz.func62 rfl Tryz.ntmps62 (by simp) ?_
  unfold f_slices_Index_int_int at hr
  refine Tri.seq ?_
  refine Tri.region ?_
  refine R.flo Gd.no (Y.assign rfl) ?_
  refine R.nil ?_
  refine Tri.seq ?_
  refine Tri.seq ?_
  refine Tri.region ?_
  refine R.flo Gd.no (Y.move rfl) ?_
  refine TOps.fact (Fact.lenR (x := .tmp 6) (n := s.length) rfl (List.length_map ..)) (fun hl1 => ?_)
  refine R.flo Gd.no (Y.lenR (m := s.length) Tryz.underlying52 rfl rfl (List.length_map ..)) ?_
  refine R.flo Gd.no (Y.move rfl) ?_
  refine R.nil ?_
  replace hr := bind_inv hr
  obtain ⟨x7, hr, hox7⟩ := hr
  refine Tri.meet1 (α := Unit × Nat) (fun ⟨s8, nx_9⟩ => (.inl s8) = x7) (fun ⟨s8, nx_9⟩ => ⟨19, [], [], nx_9⟩) ?_ (fun ⟨s8, nx_9⟩ hx => ?_)
  · refine Tri.block ?_
    refine Tri.loop (α := Nat × Nat × Nat) (fun ⟨fuel12, v2, nx_3⟩ => f_slices_Index_int_int_l1 s v fuel12 v2 = some x7) (fun ⟨fuel12, v2, nx_3⟩ => ⟨19, [(0, some (.v (.one (.c (.ro 1 false (s.map encI)))))), (1, some (.v (.one (.c (.lit (.int .i64 v)))))), (7, some (.v (.one (.c (.lit (.int .i64 ((s.length : Int)))))))), (8, some (.v (.one (.c (.lit (.int .i64 ((v2 : Int))))))))], [], nx_3⟩) (fun ⟨fuel12, v2, nx_3⟩ => fuel12) ⟨FUEL, 0, nx⟩ ?_ (Weak.to [0, 1, 7, 8] [] rfl) ?_
    · exact hr
    · rintro ⟨fuel12, v2, nx_3⟩ (hr : f_slices_Index_int_int_l1 s v fuel12 v2 = some x7)
      cases fuel12 with
      | zero => rw [f_slices_Index_int_int_l1] at hr; cases hr
      | succ fuel12 =>
        rw [f_slices_Index_int_int_l1] at hr
        refine Tri.seq ?_
        refine Tri.region ?_
        refine R.flo Gd.no (Y.lssI rfl rfl) ?_
        refine R.nil ?_
        refine Tri.seq ?_
        refine Tri.cond rfl (fun hc4 => ?_) (fun hc4 => ?_)
        · replace hr := cond_t hc4 hr
          refine Tri.skip ?_
          refine Tri.seq ?_
          refine Tri.block ?_
          refine Tri.seq ?_
          refine Tri.region ?_
          refine R.flo Gd.no (Y.move rfl) ?_
          refine R.flo Gd.no (Y.assign rfl) ?_
          refine R.nil ?_
          refine Tri.seq ?_
          refine Tri.region ?_
          refine R.flo Gd.no (Y.move rfl) ?_
          refine R.flo Gd.no (Y.move rfl) ?_
          refine R.flo Gd.no (Y.move rfl) ?_
          replace hr := bind_inv hr
          obtain ⟨x5, hx5, hr⟩ := hr
          refine R.flo Gd.no (Y.idxR v2 Tryz.underlying52 Tryz.sizeOf3 rfl rfl (map_get hx5)) ?_
          refine R.flo Gd.no (Y.loadP1 rfl rfl Tryz.isAgg3) ?_
          refine R.flo Gd.no (Y.eqlI rfl rfl) ?_
          refine R.nil ?_
          refine Tri.cond rfl (fun hc6 => ?_) (fun hc6 => ?_)
          · replace hr := cond_t hc6 hr
            refine Tri.seq ?_
            refine Tri.region ?_
            refine R.flo Gd.no (Y.move rfl) ?_
            refine R.flo Gd.no (Y.assign rfl) ?_
            refine R.nil ?_
            have hx := Option.some.inj hr
            subst hx
            have hr := sum_r hox7
            refine Tri.ret ?_
            have hx := Option.some.inj hr
            subst hx
            exact ⟨.inl rfl, _, .inr (.inl ⟨_, _, rfl, rfl, rfl⟩), ⟨rfl, rfl⟩⟩
          · replace hr := cond_f hc6 hr
            refine Tri.skip ?_
            refine Tri.region ?_
            replace hr := ckI_inv hr
            obtain ⟨ha, hb, hr⟩ := hr
            refine R.flo Gd.no (Y.addI rfl rfl ha hb) ?_
            refine R.flo Gd.no (Y.move rfl) ?_
            refine R.nil ?_
            refine back_mk ⟨fuel12, v2 + 1, nx_3⟩ hr (Nat.lt_succ_self _) (Weak.to [0, 1, 7, 8] [] rfl)
        · replace hr := cond_f hc4 hr
          refine Tri.exit ?_
          have hx := Option.some.inj hr
          subst hx
          refine meet_mk ⟨(), nx_3⟩ rfl (Weak.to [] [] rfl)
  · subst hx
    have hr := sum_l hox7
    refine Tri.seq ?_
    refine Tri.region ?_
    refine R.flo Gd.no (Y.assign rfl) ?_
    refine R.nil ?_
    refine Tri.ret ?_
    have hx := Option.some.inj hr
    subst hx
    exact ⟨.inl rfl, _, .inr (.inl ⟨_, _, rfl, rfl, rfl⟩), ⟨rfl, rfl⟩⟩
theorem ok_slices_Contains_int_int {s : List Int} {v : Int} {r : Bool} (hr : f_slices_Contains_int_int s v = some r) (nx : Nat) : OkH Tryz.prog 41 [.one (.c (.ro 1 false (s.map encI))), .one (.c (.lit (.int .i64 v)))] [] nx fun v H' _ => v = .v (.one (.c (.lit (.bool r)))) ∧ H' = [] := by
  refine OkH.intro Tryz.func41 rfl Tryz.ntmps41 (by simp) ?_
  unfold f_slices_Contains_int_int at hr
  refine Tri.seq ?_
  refine Tri.region ?_
  refine R.flo Gd.no (Y.assign rfl) ?_
  refine R.nil ?_
  refine Tri.seq ?_
  refine Tri.region ?_
  refine R.flo Gd.no (Y.move rfl) ?_
  refine R.flo Gd.no (Y.move rfl) ?_
  replace hr := bind_inv hr
  obtain ⟨r1, hcr1, hr⟩ := hr
  refine R.call (H1 := []) (H2 := []) Gd.no Tryz.en62 rfl (ok_slices_Index_int_int hcr1 nx) (perm_idx [] rfl) (fun _ _ nx_2 hq => ?_)
  obtain ⟨rfl, rfl⟩ := hq
  refine R.flo Gd.no (Y.geqI rfl rfl) ?_
  refine R.flo Gd.no (Y.assign rfl) ?_
  refine R.nil ?_
  refine Tri.ret ?_
  have hx := Option.some.inj hr
  subst hx
  exact ⟨.inl rfl, _, .inr (.inl ⟨_, _, rfl, rfl, rfl⟩), ⟨rfl, rfl⟩⟩
theorem ok_florref2_book_isPage {b : T_florref2_book} {id : Int} {r : Bool} (hr : f_florref2_book_isPage b id = some r) (nx : Nat) : OkH Tryz.prog 17 [.agg [.c (.ro 5 false (b.base.map encB))], .one (.c (.lit (.int .i64 id)))] [] nx fun v H' _ => v = .v (.one (.c (.lit (.bool r)))) ∧ H' = [] := by
  refine OkH.intro Tryz.func17 rfl Tryz.ntmps17 (by simp) ?_
  unfold f_florref2_book_isPage at hr
  refine Tri.seq ?_
  refine Tri.region ?_
  refine R.eff Gd.no (E.box (cs := [.c (.ro 5 false (b.base.map encB))]) rfl rfl rfl) ?_
  refine R.flo Gd.no (Y.assign rfl) ?_
  refine R.nil ?_
  refine Tri.seq ?_
  refine Tri.region ?_
  refine R.flo Gd.no (Y.move rfl) ?_
  refine R.flo Gd.no (Y.gtrI rfl rfl) ?_
  refine R.flo Gd.no (Y.move rfl) ?_
  refine TOps.part (b := decide ((0 : Int) < id)) (fun bhb1 hb1 => ?_)
  cases bhb1
  · rw [hb1]; replace hr := cond_f hb1 hr
    refine R.skip (.f 2 false 7 rfl rfl) ?_
    refine R.skip (.f 2 false 7 rfl rfl) ?_
    refine R.skip (.f 2 false 7 rfl rfl) ?_
    refine R.skip (.f 2 false 7 rfl rfl) ?_
    refine R.flo Gd.no (Y.pickF rfl rfl) ?_
    refine R.flo Gd.no (Y.assign rfl) ?_
    refine R.nil ?_
    refine Tri.weak (Weak.to [4] [] rfl) ?_
    refine Tri.ret ?_
    have hx := Option.some.inj hr
    subst hx
    exact ⟨.inl rfl, _, .inr (.inl ⟨_, _, rfl, rfl, rfl⟩), ⟨rfl, rfl⟩⟩
  · rw [hb1]; replace hr := cond_t hb1 hr
    refine R.flo (Gd.t 2 true 7 rfl rfl) (Y.loadBN rfl 0 rfl Tryz.isAgg37 Tryz.sizeOf37 rfl rfl) ?_
    replace hr := bind_inv hr
    obtain ⟨r2, hcr2, hr⟩ := hr
    refine R.call (H1 := []) (H2 := [(nx, .box 37 [.c (.ro 5 false (b.base.map encB))])]) (Gd.t 2 true 7 rfl rfl) Tryz.en42 rfl (ok_florref2_book_pages hcr2 (nx + 1)) (perm_idx [0] rfl) (fun _ _ nx_3 hq => ?_)
    obtain ⟨rfl, rfl⟩ := hq
    refine R.flo (Gd.t 2 true 7 rfl rfl) (Y.move rfl) ?_
    replace hr := bind_inv hr
    obtain ⟨r4, hcr4, hr⟩ := hr
    refine R.call (H1 := []) (H2 := [(nx, .box 37 [.c (.ro 5 false (b.base.map encB))])]) (Gd.t 2 true 7 rfl rfl) Tryz.en41 rfl (ok_slices_Contains_int_int hcr4 nx_3) (perm_idx [0] rfl) (fun _ _ nx_5 hq => ?_)
    obtain ⟨rfl, rfl⟩ := hq
    refine R.flo Gd.no (Y.pickT rfl rfl) ?_
    refine R.flo Gd.no (Y.assign rfl) ?_
    refine R.nil ?_
    refine Tri.weak (Weak.to [4] [] rfl) ?_
    refine Tri.ret ?_
    have hx := Option.some.inj hr
    subst hx
    exact ⟨.inl rfl, _, .inr (.inl ⟨_, _, rfl, rfl, rfl⟩), ⟨rfl, rfl⟩⟩
theorem ok_florref2_book_names {b : T_florref2_book} {page : Int} {r : (List Bytes)} (hr : f_florref2_book_names b page = some r) (nx : Nat) : OkH Tryz.prog 18 [.agg [.c (.ro 5 false (b.base.map encB))], .one (.c (.lit (.int .i64 page)))] [] nx fun v H' _ => v = .v (.one (.c (.ro 1 false (r.map encS)))) ∧ H' = [] := by
  refine OkH.intro Tryz.func18 rfl Tryz.ntmps18 (by simp) ?_
  unfold f_florref2_book_names at hr
  refine Tri.seq ?_
  refine Tri.region ?_
  refine R.eff Gd.no (E.box (cs := [.c (.ro 5 false (b.base.map encB))]) rfl rfl rfl) ?_
  refine R.flo Gd.no (Y.assign rfl) ?_
  refine R.nil ?_
  refine Tri.seq ?_
  refine Tri.region ?_
  refine R.flo Gd.no (Y.assign rfl) ?_
  refine R.nil ?_
  refine Tri.seq ?_
  refine Tri.region ?_
  refine R.eff Gd.no (E.makeMap .string 4 (fun s : Bytes => str s) evB) ?_
  refine R.flo Gd.no (Y.assign rfl) ?_
  refine R.nil ?_
  refine Tri.seq ?_
  refine Tri.seq ?_
  refine Tri.draw 13 rfl rfl [] [(nx + 1, .map .string 4 (mapOf (fun s : Bytes => str s) evB (([] : List (Bytes × Bool))))), (nx, .box 37 [.c (.ro 5 false (b.base.map encB))])] rfl ?_
  refine TAny.flo 0 rfl (by decide +kernel) (by decide +kernel) (by decide +kernel) Gd.no (Y.loadBN rfl 1 rfl Tryz.isAgg37 Tryz.sizeOf37 rfl rfl) ?_
  refine TAny.flo 1 rfl (by decide +kernel) (by decide +kernel) (by decide +kernel) Gd.no (Y.move rfl) ?_
  refine TAny.flo 7 rfl (by decide +kernel) (by decide +kernel) (by decide +kernel) Gd.no (Y.loadBN rfl 1 rfl Tryz.isAgg37 Tryz.sizeOf37 rfl rfl) ?_
  refine TAny.flo 8 rfl (by decide +kernel) (by decide +kernel) (by decide +kernel) Gd.no (Y.move rfl) ?_
  refine TAny.flo 12 rfl (by decide +kernel) (by decide +kernel) (by decide +kernel) Gd.no (Y.move rfl) ?_
  refine TAny.lists (HE' := [] ++ []) (HS' := [(nx + 1, .map .string 4 (mapOf (fun s : Bytes => str s) evB (([] : List (Bytes × Bool))))), (nx, .box 37 [.c (.ro 5 false (b.base.map encB))])]) (perm_idx [0, 1] rfl) (sub_idx [] rfl) ?_
  replace hr := bind_inv hr
  obtain ⟨(r1_c0 | r1_c1), hcr1, hr⟩ := hr
  · replace hr := (sum_l hr)
    refine TAny.call 2 rfl (by decide +kernel) Gd.no Tryz.en34 rfl (ok_florref2_book_block hcr1 (nx + 2)) (fun _ _ nx_2 hq => ?_)
    obtain ⟨rfl, rfl⟩ := hq
    cases hr
  · replace hr := (sum_r hr)
    refine TAny.call 2 rfl (by decide +kernel) Gd.no Tryz.en34 rfl (ok_florref2_book_block hcr1 (nx + 2)) (fun _ _ nx_3 hq => ?_)
    obtain ⟨rfl, rfl⟩ := hq
    refine TAny.flo 3 rfl (by decide +kernel) (by decide +kernel) (by decide +kernel) Gd.no (Y.nilR rfl) ?_
    refine TAny.flo 4 rfl (by decide +kernel) (by decide +kernel) (by decide +kernel) Gd.no (Y.fieldR Tryz.fo55_3 rfl) ?_
    refine TAny.flo 5 rfl (by decide +kernel) (by decide +kernel) (by decide +kernel) Gd.no (Y.loadP1 rfl rfl Tryz.isAgg9) ?_
    replace hr := bind_inv hr
    obtain ⟨r1004, hcr1004, hr⟩ := hr
    refine TAny.cut2 (α := Nat × Nat) 2 #[true, true, true, true, true, true, true, true, true, true, false, false, true] (fun ⟨o1504, nx_1505⟩ => ([(o1504, .row 9 1 (rowOf encS ([r1_c1.2.2.2.1])))], [(0, some (.v (.agg [.c (.ro 5 false (b.base.map encB))]))), (1, some (.v (.one (.c (.lit (.int .i64 page)))))), (2, some (.v (.one (.ptr nx 0 0)))), (4, some (.v (.one (.c (.lit (.slice none 0 0)))))), (5, some (.v (.one (.c (.lit (.slice none 0 0)))))), (6, some (.v (.one (.obj (nx + 1))))), (10, some (.v (.one (.obj (nx + 1))))), (11, some (.v (.agg [.c (.ro 5 false (b.base.map encB))]))), (12, some (.v (.one (.c (.lit (.int .i64 page)))))), (13, some (.v (.one (.c (.rp [.lit (.int .i64 r1_c1.1), .lit (.int .i64 r1_c1.2.1), .ro 1 false (r1_c1.2.2.1.map encI), .lit (str r1_c1.2.2.2.1), .ro 6 false (r1_c1.2.2.2.2.map encP)]))))), (14, some (.v (.one (.c (.rp [.lit (.int .i64 r1_c1.1), .lit (.int .i64 r1_c1.2.1), .ro 1 false (r1_c1.2.2.1.map encI), .lit (str r1_c1.2.2.2.1), .ro 6 false (r1_c1.2.2.2.2.map encP)]))))), (15, some (.v (.one (.c (.rp [.lit (str r1_c1.2.2.2.1), .ro 6 false (r1_c1.2.2.2.2.map encP)]))))), (16, some (.v (.one (.c (.lit (str r1_c1.2.2.2.1)))))), (17, some (.v (.one (.obj o1504)))), (18, some (.v (.agg [.c (.ro 5 false (b.base.map encB))]))), (19, some (.v (.one (.c (.lit (.int .i64 page)))))), (20, some (.v (.one (.c (.ro 1 false (r1004.map encS)))))), (23, some (.v (.one (.c (.lit (.int .i64 0))))))], nx_1505)) ?_ (fun hcut => ?_)
    · rintro ⟨o1504, nx_1505⟩
      change TAny _ _ _ _ [(o1504, .row 9 1 (rowOf encS ([r1_c1.2.2.2.1])))] _ _ [(0, some (.v (.agg [.c (.ro 5 false (b.base.map encB))]))), (1, some (.v (.one (.c (.lit (.int .i64 page)))))), (2, some (.v (.one (.ptr nx 0 0)))), (4, some (.v (.one (.c (.lit (.slice none 0 0)))))), (5, some (.v (.one (.c (.lit (.slice none 0 0)))))), (6, some (.v (.one (.obj (nx + 1))))), (10, some (.v (.one (.obj (nx + 1))))), (11, some (.v (.agg [.c (.ro 5 false (b.base.map encB))]))), (12, some (.v (.one (.c (.lit (.int .i64 page)))))), (13, some (.v (.one (.c (.rp [.lit (.int .i64 r1_c1.1), .lit (.int .i64 r1_c1.2.1), .ro 1 false (r1_c1.2.2.1.map encI), .lit (str r1_c1.2.2.2.1), .ro 6 false (r1_c1.2.2.2.2.map encP)]))))), (14, some (.v (.one (.c (.rp [.lit (.int .i64 r1_c1.1), .lit (.int .i64 r1_c1.2.1), .ro 1 false (r1_c1.2.2.1.map encI), .lit (str r1_c1.2.2.2.1), .ro 6 false (r1_c1.2.2.2.2.map encP)]))))), (15, some (.v (.one (.c (.rp [.lit (str r1_c1.2.2.2.1), .ro 6 false (r1_c1.2.2.2.2.map encP)]))))), (16, some (.v (.one (.c (.lit (str r1_c1.2.2.2.1)))))), (17, some (.v (.one (.obj o1504)))), (18, some (.v (.agg [.c (.ro 5 false (b.base.map encB))]))), (19, some (.v (.one (.c (.lit (.int .i64 page)))))), (20, some (.v (.one (.c (.ro 1 false (r1004.map encS)))))), (23, some (.v (.one (.c (.lit (.int .i64 0))))))] nx_1505 _
      refine TAny.lists (HE' := [(o1504, .row 9 1 (rowOf encS ([r1_c1.2.2.2.1])))] ++ []) (HS' := [(nx + 1, .map .string 4 (mapOf (fun s : Bytes => str s) evB (([] : List (Bytes × Bool))))), (nx, .box 37 [.c (.ro 5 false (b.base.map encB))])]) (perm_idx [0, 1, 2] rfl) (sub_idx [0] rfl) ?_
      replace hr := ckN_inv hr
      obtain ⟨ha, hr⟩ := hr
      refine TAny.eff 10 rfl (by decide +kernel) Gd.no (E.append (es := rowOf encS ([r1_c1.2.2.2.1])) (es' := rowOf encS (([r1_c1.2.2.2.1]) ++ r1004)) 0 rfl Tryz.underlying26 Tryz.et9 rfl rfl Holds.ro (fits_len ha (app_len rowOf_length (by rw [clos_length, List.length_map])) rfl) (fits_max ha (app_len rowOf_length (by rw [clos_length, List.length_map]))) rfl (rowOf_app ..)) ?_
      refine TAny.lists (HE' := []) (HS' := [(nx + 1, .map .string 4 (mapOf (fun s : Bytes => str s) evB (([] : List (Bytes × Bool))))), (nx, .box 37 [.c (.ro 5 false (b.base.map encB))]), (nx_1505, .row 9 1 (rowOf encS (([r1_c1.2.2.2.1]) ++ r1004)))]) (perm_idx [1, 2, 0] rfl) (sub_idx [] rfl) ?_
      refine TAny.factS (Fact.lenO (x := .tmp 21) (n := (([r1_c1.2.2.2.1]) ++ r1004).length) 2 rfl rfl rowOf_length) (fun hl1506 => ?_)
      refine TAny.flo 11 rfl (by decide +kernel) (by decide +kernel) (by decide +kernel) Gd.no (Y.lenO (m := (([r1_c1.2.2.2.1]) ++ r1004).length) 2 rfl Tryz.underlying26 rfl rfl rowOf_length) ?_
      refine TAny.done (by decide +kernel) ?_
      refine Tri.weak (Weak.virt (t := 5) 9 1 rfl) ?_
      replace hr := bind_inv hr
      obtain ⟨x1516, hr, hox1516⟩ := hr
      refine Tri.meet1 (α := ((List Bytes)) × Nat × Nat) (fun ⟨s1517, o1518, nx_1519⟩ => s1517 = x1516) (fun ⟨s1517, o1518, nx_1519⟩ => ⟨41, [(5, some (.v (.one (.obj o1518))))], [(o1518, .row 9 1 (rowOf encS s1517))], nx_1519⟩) ?_ (fun ⟨s1517, o1518, nx_1519⟩ hx => ?_)
      · refine Tri.block ?_
        refine Tri.loop (α := Nat × (List Bytes) × (List (Bytes × Bool)) × Nat × Nat) (fun ⟨v1510, out1508, seen1509, o1507, nx_1511⟩ => v1510 ≤ (([r1_c1.2.2.2.1]) ++ r1004).length ∧ f_florref2_book_names_l1 ((([r1_c1.2.2.2.1]) ++ r1004).drop v1510) out1508 seen1509 = some x1516) (fun ⟨v1510, out1508, seen1509, o1507, nx_1511⟩ => ⟨41, [(5, some (.v (.one (.obj o1507)))), (6, some (.v (.one (.obj (nx + 1))))), (21, some (.v (.one (.obj nx_1505)))), (22, some (.v (.one (.c (.lit (.int .i64 (((([r1_c1.2.2.2.1]) ++ r1004).length : Int)))))))), (23, some (.v (.one (.c (.lit (.int .i64 ((v1510 : Int))))))))], [(o1507, .row 9 1 (rowOf encS out1508)), (nx + 1, .map .string 4 (mapOf (fun s : Bytes => str s) evB seen1509)), (nx_1505, .row 9 1 (rowOf encS (([r1_c1.2.2.2.1]) ++ r1004)))], nx_1511⟩) (fun ⟨v1510, out1508, seen1509, o1507, nx_1511⟩ => (([r1_c1.2.2.2.1]) ++ r1004).length - v1510) ⟨0, ([] : List Bytes), ([] : List (Bytes × Bool)), nx_1505 + 1, nx_1505 + 2⟩ ?_ (Weak.to [5, 6, 21, 22, 23] [0, 1, 3] rfl) ?_
        · exact ⟨Nat.zero_le _, hr⟩
        · rintro ⟨v1510, out1508, seen1509, o1507, nx_1511⟩ ⟨hk, hr⟩
          refine Tri.seq ?_
          refine Tri.region ?_
          refine R.flo Gd.no (Y.lssI rfl rfl) ?_
          refine R.nil ?_
          refine Tri.seq ?_
          refine Tri.cond rfl (fun hc => ?_) (fun hc => ?_)
          · have hk := lt_of_dec hc
            obtain ⟨x1512, hx1512⟩ := get_of_lt hk
            rw [drop_at hx1512, f_florref2_book_names_l1] at hr
            refine Tri.skip ?_
            refine Tri.seq ?_
            refine Tri.block ?_
            refine Tri.seq ?_
            refine Tri.region ?_
            refine R.flo Gd.no (Y.idxO v1510 2 rfl Tryz.underlying26 Tryz.sizeOf9 rfl rfl (row_get hx1512)) ?_
            refine R.flo Gd.no (Y.loadR1 rfl 2 rfl (row_get hx1512) rfl Tryz.isAgg9) ?_
            refine R.flo Gd.no (Y.assign rfl) ?_
            refine R.nil ?_
            refine Tri.seq ?_
            refine Tri.region ?_
            refine R.flo Gd.no (Y.move rfl) ?_
            replace hr := bind_inv hr
            obtain ⟨r1513, hcr1513, hr⟩ := hr
            refine R.call (H1 := []) (H2 := [(o1507, .row 9 1 (rowOf encS out1508)), (nx + 1, .map .string 4 (mapOf (fun s : Bytes => str s) evB seen1509)), (nx_1505, .row 9 1 (rowOf encS (([r1_c1.2.2.2.1]) ++ r1004)))]) Gd.no Tryz.en10 rfl (ok_florref2_FoldOfTitle hcr1513 nx_1511) (perm_idx [0, 1, 2] rfl) (fun _ _ nx_1514 hq => ?_)
            obtain ⟨rfl, rfl⟩ := hq
            refine R.flo Gd.no (Y.assign rfl) ?_
            refine R.nil ?_
            refine Tri.seq ?_
            refine Tri.region ?_
            refine R.flo Gd.no (Y.move rfl) ?_
            refine R.flo Gd.no (Y.move rfl) ?_
            refine R.flo Gd.no (Y.lookup1 1 rfl Tryz.underlying69 Tryz.underlying9 keyS rfl rfl Tryz.et4.zero zvB) ?_
            refine R.flo Gd.no (Y.not rfl) ?_
            refine R.nil ?_
            refine Tri.cond rfl (fun hc1515 => ?_) (fun hc1515 => ?_)
            · replace hr := cond_t hc1515 hr
              refine Tri.seq ?_
              refine Tri.region ?_
              refine R.flo Gd.no (Y.move rfl) ?_
              refine R.flo Gd.no (Y.move rfl) ?_
              replace hr := ckN_inv hr
              obtain ⟨ha, hr⟩ := hr
              refine R.eff Gd.no (E.mapUpdate 1 rfl Tryz.underlying69 Tryz.underlying9 keyS rfl rfl rfl ha) ?_
              refine R.nil ?_
              refine Tri.region ?_
              refine R.flo Gd.no (Y.move rfl) ?_
              refine R.flo Gd.no (Y.move rfl) ?_
              refine R.eff Gd.no (E.buildSlice (es := rowOf encS ([x1512])) [.one (.c (.lit (str x1512)))] Tryz.underlying26 Tryz.et9 rfl rfl rfl rfl (by decide) (by decide) rfl) ?_
              replace hr := ckN_inv hr
              obtain ⟨ha, hr⟩ := hr
              refine R.eff Gd.no (E.append (es := rowOf encS out1508) (es' := rowOf encS (out1508 ++ ([x1512]))) 1 rfl Tryz.underlying26 Tryz.et9 rfl rfl (Holds.obj 0 rfl) (fits_len ha (app_len rowOf_length rowOf_length) rfl) (fits_max ha (app_len rowOf_length rowOf_length)) rfl rowOf_append.symm) ?_
              refine R.flo Gd.no (Y.assign rfl) ?_
              refine R.nil ?_
              refine Tri.region ?_
              refine R.flo Gd.no (Y.addI rfl rfl (by omega) (by unfold maxLen at *; omega)) ?_
              refine R.flo Gd.no (Y.move rfl) ?_
              refine R.nil ?_
              refine back_mk ⟨v1510 + 1, out1508 ++ ([x1512]), mset seen1509 r1513 true, nx_1514 + 1, nx_1514 + 2⟩ ⟨hk, hr⟩ (mu_dec hk) (Weak.to [5, 6, 21, 22, 23] [0, 2, 3] rfl)
            · replace hr := cond_f hc1515 hr
              refine Tri.skip ?_
              refine Tri.region ?_
              refine R.flo Gd.no (Y.addI rfl rfl (by omega) (by unfold maxLen at *; omega)) ?_
              refine R.flo Gd.no (Y.move rfl) ?_
              refine R.nil ?_
              refine back_mk ⟨v1510 + 1, out1508, seen1509, o1507, nx_1514⟩ ⟨hk, hr⟩ (mu_dec hk) (Weak.to [5, 6, 21, 22, 23] [0, 1, 2] rfl)
          · rw [drop_end (nlt_of_dec hc), f_florref2_book_names_l1] at hr
            refine Tri.exit ?_
            have hx := Option.some.inj hr
            subst hx
            refine meet_mk ⟨out1508, o1507, nx_1511⟩ rfl (Weak.to [5] [0] rfl)
      · subst hx
        have hr := hox1516
        refine Tri.seq ?_
        refine Tri.region ?_
        refine R.flo Gd.no (Y.move rfl) ?_
        refine R.flo Gd.no (Y.assign rfl) ?_
        refine R.nil ?_
        refine Tri.weak (Weak.sealS (l := s1517) (f := encS) 0 4 rfl rfl) ?_
        refine Tri.ret ?_
        have hx := Option.some.inj hr
        subst hx
        exact ⟨.inl rfl, _, .inr (.inl ⟨_, _, rfl, rfl, rfl⟩), ⟨rfl, rfl⟩⟩
    refine TAny.next2 6 9 (by decide +kernel) ?_ ?_
    · refine TNext.lists (HE' := [] ++ []) (HS' := [(nx + 1, .map .string 4 (mapOf (fun s : Bytes => str s) evB (([] : List (Bytes × Bool))))), (nx, .box 37 [.c (.ro 5 false (b.base.map encB))])]) (perm_idx [0, 1] rfl) (sub_idx [] rfl) ?_
      refine TNext.eff 6 rfl Gd.no (E.buildSlice (es := rowOf encS ([r1_c1.2.2.2.1])) [.one (.c (.lit (str r1_c1.2.2.2.1)))] Tryz.underlying26 Tryz.et9 rfl rfl rfl rfl (by decide) (by decide) rfl) ?_
      refine TAny.lists (HE' := [] ++ [(nx_3, .row 9 1 (rowOf encS ([r1_c1.2.2.2.1])))]) (HS' := [(nx + 1, .map .string 4 (mapOf (fun s : Bytes => str s) evB (([] : List (Bytes × Bool))))), (nx, .box 37 [.c (.ro 5 false (b.base.map encB))])]) (perm_idx [0, 1, 2] rfl) (sub_idx [0] rfl) ?_
      refine TAny.call 9 rfl (by decide +kernel) Gd.no Tryz.en36 rfl (ok_florref2_book_aliases hcr1004 (nx_3 + 1)) (fun _ _ nx_1005 hq => ?_)
      obtain ⟨rfl, rfl⟩ := hq
      exact TAny.to [0, 1, 2, 4, 5, 6, 10, 11, 12, 13, 14, 15, 16, 17, 18, 19, 20, 23] (hcut ⟨nx_3, nx_1005⟩) (by decide +kernel) rfl rfl (perm_idx [0] rfl)
    · refine TNext.lists (HE' := [] ++ []) (HS' := [(nx + 1, .map .string 4 (mapOf (fun s : Bytes => str s) evB (([] : List (Bytes × Bool))))), (nx, .box 37 [.c (.ro 5 false (b.base.map encB))])]) (perm_idx [0, 1] rfl) (sub_idx [] rfl) ?_
      refine TNext.call 9 rfl Gd.no Tryz.en36 rfl (ok_florref2_book_aliases hcr1004 nx_3) (fun _ _ nx_1005 hq => ?_)
      obtain ⟨rfl, rfl⟩ := hq
      refine TAny.lists (HE' := [] ++ []) (HS' := [(nx + 1, .map .string 4 (mapOf (fun s : Bytes => str s) evB (([] : List (Bytes × Bool))))), (nx, .box 37 [.c (.ro 5 false (b.base.map encB))])]) (perm_idx [0, 1] rfl) (sub_idx [] rfl) ?_
      refine TAny.eff 6 rfl (by decide +kernel) Gd.no (E.buildSlice (es := rowOf encS ([r1_c1.2.2.2.1])) [.one (.c (.lit (str r1_c1.2.2.2.1)))] Tryz.underlying26 Tryz.et9 rfl rfl rfl rfl (by decide) (by decide) rfl) ?_
      exact TAny.to [0, 1, 2, 4, 5, 6, 10, 11, 12, 13, 14, 15, 16, 17, 18, 19, 20, 23] (hcut ⟨nx_1005, nx_1005 + 1⟩) (by decide +kernel) rfl rfl (perm_idx [0] rfl)
theorem ok_florref2_NamesFor {base : List Block} {page : Int} {r : (List Bytes) × Int} (hr : f_florref2_NamesFor base page = some r) (nx : Nat) : OkH Tryz.prog 7 [.one (.c (.ro 5 false (base.map encB))), .one (.c (.lit (.int .i64 page)))] [] nx fun v H' _ => v = .tup [.one (.c (.ro 1 false (r.1.map encS))), .one (.c (.lit (.int .i64 r.2)))] ∧ H' = [] := by
  refine OkH.intro Tryz.func7 rfl Tryz.ntmps7 (by simp) ?_
  unfold f_florref2_NamesFor at hr
  refine Tri.seq ?_
  refine Tri.region ?_
  refine R.flo Gd.no (Y.assign rfl) ?_
  refine R.flo Gd.no (Y.assign rfl) ?_
  refine R.nil ?_
  refine Tri.seq ?_
  refine Tri.region ?_
  refine R.flo Gd.no (Y.move rfl) ?_
  replace hr := bind_inv hr
  obtain ⟨r1, hcr1, hr⟩ := hr
  refine R.call (H1 := []) (H2 := []) Gd.no Tryz.en13 rfl (ok_florref2_open hcr1 nx) (perm_idx [] rfl) (fun _ _ nx_2 hq => ?_)
  obtain ⟨rfl, rfl⟩ := hq
  refine R.flo Gd.no (Y.move rfl) ?_
  refine R.flo Gd.no (Y.extract rfl rfl) ?_
  refine R.flo Gd.no (Y.extract rfl rfl) ?_
  refine R.eff Gd.no (E.alloc (cs := [.c (.lit (.slice none 0 0))]) Tryz.et37.zero Tryz.et37.one (by rfl)) ?_
  refine R.eff Gd.no (E.storeB 0 rfl rfl rfl rfl Tryz.sizeOf37 rfl rfl rfl) ?_
  refine R.flo Gd.no (Y.assign rfl) ?_
  refine R.nil ?_
  replace hr := bind_inv hr
  obtain ⟨x11, hr, hox11⟩ := hr
  refine Tri.meet (α := Int × Nat × Nat) (fun ⟨s12, o13, nx_14⟩ => s12 = x11) (fun ⟨s12, o13, nx_14⟩ => ⟨27, [(1, some (.v (.one (.c (.lit (.int .i64 page)))))), (6, some (.v (.one (.ptr o13 0 0)))), (7, some (.v (.one (.c (.lit (.int .i64 s12))))))], [(o13, .box 37 [.c (.ro 5 false (r1.1.base.map encB))])], nx_14⟩) ?_ (fun ⟨s12, o13, nx_14⟩ hx => ?_)
  · replace hr := bind_inv hr
    obtain ⟨x6, hr, hox6⟩ := hr
    refine Tri.meet (α := Bool × Nat × Nat) (fun ⟨s7, o8, nx_9⟩ => s7 = x6) (fun ⟨s7, o8, nx_9⟩ => ⟨27, [(1, some (.v (.one (.c (.lit (.int .i64 page)))))), (6, some (.v (.one (.ptr o8 0 0)))), (7, some (.v (.one (.c (.lit (.int .i64 r1.2)))))), (20, some (.v (.one (.c (.lit (.bool s7))))))], [(o8, .box 37 [.c (.ro 5 false (r1.1.base.map encB))])], nx_9⟩) ?_ (fun ⟨s7, o8, nx_9⟩ hx => ?_)
    · refine Tri.region ?_
      refine R.flo Gd.no (Y.move rfl) ?_
      refine R.flo Gd.no (Y.eqlI rfl rfl) ?_
      refine R.flo Gd.no (Y.move rfl) ?_
      refine TOps.part (b := decide (r1.2 = (0 : Int))) (fun bhb3 hb3 => ?_)
      cases bhb3
      · rw [hb3]; replace hr := cond_f hb3 hr
        refine R.skip (.f 2 false 15 rfl rfl) ?_
        refine R.skip (.f 2 false 15 rfl rfl) ?_
        refine R.skip (.f 2 false 15 rfl rfl) ?_
        refine R.skip (.f 2 false 15 rfl rfl) ?_
        refine R.flo Gd.no (Y.pickF rfl rfl) ?_
        refine R.nil ?_
        have hx := Option.some.inj hr
        subst hx
        refine meet_mk ⟨false, nx_2, nx_2 + 1⟩ rfl (Weak.to [1, 6, 7, 20] [0] rfl)
      · rw [hb3]; replace hr := cond_t hb3 hr
        refine R.flo (Gd.t 2 true 15 rfl rfl) (Y.loadBN rfl 0 rfl Tryz.isAgg37 Tryz.sizeOf37 rfl rfl) ?_
        refine R.flo (Gd.t 2 true 15 rfl rfl) (Y.move rfl) ?_
        replace hr := bind_inv hr
        obtain ⟨r4, hcr4, hr⟩ := hr
        refine R.call (H1 := []) (H2 := [(nx_2, .box 37 [.c (.ro 5 false (r1.1.base.map encB))])]) (Gd.t 2 true 15 rfl rfl) Tryz.en17 rfl (ok_florref2_book_isPage hcr4 (nx_2 + 1)) (perm_idx [0] rfl) (fun _ _ nx_5 hq => ?_)
        obtain ⟨rfl, rfl⟩ := hq
        refine R.flo (Gd.t 2 true 15 rfl rfl) (Y.not rfl) ?_
        refine R.flo Gd.no (Y.pickT rfl rfl) ?_
        refine R.nil ?_
        have hx := Option.some.inj hr
        subst hx
        refine meet_mk ⟨!r4, nx_2, nx_5⟩ rfl (Weak.to [1, 6, 7, 20] [0] rfl)
    · subst hx
      have hr := hox6
      refine Tri.cond rfl (fun hc10 => ?_) (fun hc10 => ?_)
      · replace hr := cond_t hc10 hr
        refine Tri.region ?_
        refine R.flo Gd.no (Y.assign rfl) ?_
        refine R.nil ?_
        have hx := Option.some.inj hr
        subst hx
        refine meet_mk ⟨7, o8, nx_9⟩ rfl (Weak.to [1, 6, 7] [0] rfl)
      · replace hr := cond_f hc10 hr
        refine Tri.skip ?_
        have hx := Option.some.inj hr
        subst hx
        refine meet_mk ⟨r1.2, o8, nx_9⟩ rfl (Weak.to [1, 6, 7] [0] rfl)
  · subst hx
    have hr := hox11
    refine Tri.seq ?_
    refine Tri.seq ?_
    refine Tri.region ?_
    refine R.flo Gd.no (Y.move rfl) ?_
    refine R.flo Gd.no (Y.neqI rfl rfl) ?_
    refine R.nil ?_
    refine Tri.cond rfl (fun hc15 => ?_) (fun hc15 => ?_)
    · replace hr := cond_t hc15 hr
      refine Tri.seq ?_
      refine Tri.region ?_
      refine R.flo Gd.no (Y.move rfl) ?_
      refine R.flo Gd.no (Y.assign rfl) ?_
      refine R.flo Gd.no (Y.assign rfl) ?_
      refine R.nil ?_
      refine Tri.weak (Weak.nilR 4 1 rfl) ?_
      refine Tri.weak (Weak.to [4, 5] [] rfl) ?_
      refine Tri.ret ?_
      have hx := Option.some.inj hr
      subst hx
      exact ⟨.inl rfl, _, .inr (.inr (.inl ⟨_, _, _, _, rfl, rfl, rfl, rfl⟩)), ⟨rfl, rfl⟩⟩
    · replace hr := cond_f hc15 hr
      refine Tri.skip ?_
      refine Tri.seq ?_
      refine Tri.region ?_
      refine R.flo Gd.no (Y.loadBN rfl 0 rfl Tryz.isAgg37 Tryz.sizeOf37 rfl rfl) ?_
      refine R.flo Gd.no (Y.move rfl) ?_
      replace hr := bind_inv hr
      obtain ⟨r16, hcr16, hr⟩ := hr
      refine R.call (H1 := []) (H2 := [(o13, .box 37 [.c (.ro 5 false (r1.1.base.map encB))])]) Gd.no Tryz.en18 rfl (ok_florref2_book_names hcr16 nx_14) (perm_idx [0] rfl) (fun _ _ nx_17 hq => ?_)
      obtain ⟨rfl, rfl⟩ := hq
      refine R.flo Gd.no (Y.assign rfl) ?_
      refine R.flo Gd.no (Y.assign rfl) ?_
      refine R.nil ?_
      refine Tri.weak (Weak.to [4, 5] [] rfl) ?_
      refine Tri.ret ?_
      have hx := Option.some.inj hr
      subst hx
      exact ⟨.inl rfl, _, .inr (.inr (.inl ⟨_, _, _, _, rfl, rfl, rfl, rfl⟩)), ⟨rfl, rfl⟩⟩
theorem ok_slices_Equal_string_string {s1 : List Bytes} {s2 : List Bytes} {r : Bool} (hr : f_slices_Equal_string_string s1 s2 = some r) (nx : Nat) : OkH Tryz.prog 8 [.one (.c (.ro 1 false (s1.map encS))), .one (.c (.ro 1 false (s2.map encS)))] [] nx fun v H' _ => v = .v (.one (.c (.lit (.bool r)))) ∧ H' = [] := by
  refine OkH.intro Tryz.func8 rfl Tryz.ntmps8 (by simp) ?_
  unfold f_slices_Equal_string_string at hr
  refine Tri.seq ?_
  refine Tri.region ?_
  refine R.flo Gd.no (Y.assign rfl) ?_
  refine R.nil ?_
  refine Tri.seq ?_
  refine Tri.seq ?_
  refine Tri.region ?_
  refine R.flo Gd.no (Y.move rfl) ?_
  refine TOps.fact (Fact.lenR (x := .tmp 6) (n := s1.length) rfl (List.length_map ..)) (fun hl1 => ?_)
  refine R.flo Gd.no (Y.lenR (m := s1.length) Tryz.underlying26 rfl rfl (List.length_map ..)) ?_
  refine R.flo Gd.no (Y.move rfl) ?_
  refine TOps.fact (Fact.lenR (x := .tmp 8) (n := s2.length) rfl (List.length_map ..)) (fun hl2 => ?_)
  refine R.flo Gd.no (Y.lenR (m := s2.length) Tryz.underlying26 rfl rfl (List.length_map ..)) ?_
  refine R.flo Gd.no (Y.neqI rfl rfl) ?_
  refine R.nil ?_
  refine Tri.cond rfl (fun hc3 => ?_) (fun hc3 => ?_)
  · replace hr := cond_t hc3 hr
    refine Tri.seq ?_
    refine Tri.region ?_
    refine R.flo Gd.no (Y.assign rfl) ?_
    refine R.nil ?_
    refine Tri.ret ?_
    have hx := Option.some.inj hr
    subst hx
    exact ⟨.inl rfl, _, .inr (.inl ⟨_, _, rfl, rfl, rfl⟩), ⟨rfl, rfl⟩⟩
  · replace hr := cond_f hc3 hr
    refine Tri.skip ?_
    refine Tri.seq ?_
    refine Tri.seq ?_
    refine Tri.region ?_
    refine R.flo Gd.no (Y.move rfl) ?_
    refine TOps.fact (Fact.lenR (x := .tmp 11) (n := s1.length) rfl (List.length_map ..)) (fun hl4 => ?_)
    refine R.flo Gd.no (Y.lenR (m := s1.length) Tryz.underlying26 rfl rfl (List.length_map ..)) ?_
    refine R.flo Gd.no (Y.move rfl) ?_
    refine R.nil ?_
    replace hr := bind_inv hr
    obtain ⟨x11, hr, hox11⟩ := hr
    refine Tri.meet1 (α := Unit × Nat) (fun ⟨s12, nx_13⟩ => (.inl s12) = x11) (fun ⟨s12, nx_13⟩ => ⟨26, [], [], nx_13⟩) ?_ (fun ⟨s12, nx_13⟩ hx => ?_)
    · refine Tri.block ?_
      refine Tri.loop (α := Nat × Nat × Nat) (fun ⟨fuel16, v5, nx_6⟩ => f_slices_Equal_string_string_l1 s1 s2 fuel16 v5 = some x11) (fun ⟨fuel16, v5, nx_6⟩ => ⟨26, [(0, some (.v (.one (.c (.ro 1 false (s1.map encS)))))), (1, some (.v (.one (.c (.ro 1 false (s2.map encS)))))), (12, some (.v (.one (.c (.lit (.int .i64 ((s1.length : Int)))))))), (13, some (.v (.one (.c (.lit (.int .i64 ((v5 : Int))))))))], [], nx_6⟩) (fun ⟨fuel16, v5, nx_6⟩ => fuel16) ⟨FUEL, 0, nx⟩ ?_ (Weak.to [0, 1, 12, 13] [] rfl) ?_
      · exact hr
      · rintro ⟨fuel16, v5, nx_6⟩ (hr : f_slices_Equal_string_string_l1 s1 s2 fuel16 v5 = some x11)
        cases fuel16 with
        | zero => rw [f_slices_Equal_string_string_l1] at hr; cases hr
        | succ fuel16 =>
          rw [f_slices_Equal_string_string_l1] at hr
          refine Tri.seq ?_
          refine Tri.region ?_
          refine R.flo Gd.no (Y.lssI rfl rfl) ?_
          refine R.nil ?_
          refine Tri.seq ?_
          refine Tri.cond rfl (fun hc7 => ?_) (fun hc7 => ?_)
          · replace hr := cond_t hc7 hr
            refine Tri.skip ?_
            refine Tri.seq ?_
            refine Tri.block ?_
            refine Tri.seq ?_
            refine Tri.region ?_
            refine R.flo Gd.no (Y.move rfl) ?_
            refine R.flo Gd.no (Y.assign rfl) ?_
            refine R.nil ?_
            refine Tri.seq ?_
            refine Tri.draw 9 rfl rfl [] [] rfl ?_
            refine TAny.flo 0 rfl (by decide +kernel) (by decide +kernel) (by decide +kernel) Gd.no (Y.move rfl) ?_
            refine TAny.flo 1 rfl (by decide +kernel) (by decide +kernel) (by decide +kernel) Gd.no (Y.move rfl) ?_
            replace hr := bind_inv hr
            obtain ⟨x8, hx8, hr⟩ := hr
            refine TAny.flo 2 rfl (by decide +kernel) (by decide +kernel) (by decide +kernel) Gd.no (Y.idxR v5 Tryz.underlying26 Tryz.sizeOf9 rfl rfl (map_get hx8)) ?_
            refine TAny.flo 3 rfl (by decide +kernel) (by decide +kernel) (by decide +kernel) Gd.no (Y.loadP1 rfl rfl Tryz.isAgg9) ?_
            refine TAny.flo 4 rfl (by decide +kernel) (by decide +kernel) (by decide +kernel) Gd.no (Y.move rfl) ?_
            refine TAny.flo 5 rfl (by decide +kernel) (by decide +kernel) (by decide +kernel) Gd.no (Y.move rfl) ?_
            replace hr := bind_inv hr
            obtain ⟨x9, hx9, hr⟩ := hr
            refine TAny.flo 6 rfl (by decide +kernel) (by decide +kernel) (by decide +kernel) Gd.no (Y.idxR v5 Tryz.underlying26 Tryz.sizeOf9 rfl rfl (map_get hx9)) ?_
            refine TAny.flo 7 rfl (by decide +kernel) (by decide +kernel) (by decide +kernel) Gd.no (Y.loadP1 rfl rfl Tryz.isAgg9) ?_
            refine TAny.flo 8 rfl (by decide +kernel) (by decide +kernel) (by decide +kernel) Gd.no (Y.neqS rfl rfl) ?_
            refine TAny.done (by decide +kernel) ?_
            refine Tri.cond rfl (fun hc10 => ?_) (fun hc10 => ?_)
            · replace hr := cond_t hc10 hr
              refine Tri.seq ?_
              refine Tri.region ?_
              refine R.flo Gd.no (Y.assign rfl) ?_
              refine R.nil ?_
              have hx := Option.some.inj hr
              subst hx
              have hr := sum_r hox11
              refine Tri.ret ?_
              have hx := Option.some.inj hr
              subst hx
              exact ⟨.inl rfl, _, .inr (.inl ⟨_, _, rfl, rfl, rfl⟩), ⟨rfl, rfl⟩⟩
            · replace hr := cond_f hc10 hr
              refine Tri.skip ?_
              refine Tri.region ?_
              replace hr := ckI_inv hr
              obtain ⟨ha, hb, hr⟩ := hr
              refine R.flo Gd.no (Y.addI rfl rfl ha hb) ?_
              refine R.flo Gd.no (Y.move rfl) ?_
              refine R.nil ?_
              refine back_mk ⟨fuel16, v5 + 1, nx_6⟩ hr (Nat.lt_succ_self _) (Weak.to [0, 1, 12, 13] [] rfl)
          · replace hr := cond_f hc7 hr
            refine Tri.exit ?_
            have hx := Option.some.inj hr
            subst hx
            refine meet_mk ⟨(), nx_6⟩ rfl (Weak.to [] [] rfl)
    · subst hx
      have hr := sum_l hox11
      refine Tri.seq ?_
      refine Tri.region ?_
      refine R.flo Gd.no (Y.assign rfl) ?_
      refine R.nil ?_
      refine Tri.ret ?_
      have hx := Option.some.inj hr
      subst hx
      exact ⟨.inl rfl, _, .inr (.inl ⟨_, _, rfl, rfl, rfl⟩), ⟨rfl, rfl⟩⟩
theorem ok_florlaw2_LinkTitles {base : List Block} {title : Bytes} {page : Int} {r : Bool} (hr : f_florlaw2_LinkTitles base title page = some r) (nx : Nat) : OkH Tryz.prog 3 [.one (.c (.ro 5 false (base.map encB))), .one (.c (.lit (str title))), .one (.c (.lit (.int .i64 page)))] [] nx fun v H' _ => v = .v (.one (.c (.lit (.bool r)))) ∧ H' = [] := by
  refine OkH.intro Tryz.func3 rfl Tryz.ntmps3 (by simp) ?_
  unfold f_florlaw2_LinkTitles at hr
  refine Tri.seq ?_
  refine Tri.region ?_
  refine R.flo Gd.no (Y.assign rfl) ?_
  refine R.nil ?_
  refine Tri.seq ?_
  refine Tri.region ?_
  refine R.flo Gd.no (Y.move rfl) ?_
  refine R.flo Gd.no (Y.move rfl) ?_
  replace hr := bind_inv hr
  obtain ⟨r1, hcr1, hr⟩ := hr
  refine R.call (H1 := []) (H2 := []) Gd.no Tryz.en4 rfl (ok_link_Page hcr1 nx) (perm_idx [] rfl) (fun _ _ nx_2 hq => ?_)
  obtain ⟨rfl, rfl⟩ := hq
  refine R.flo Gd.no (Y.move rfl) ?_
  refine R.flo Gd.no (Y.extract rfl rfl) ?_
  refine R.flo Gd.no (Y.extract rfl rfl) ?_
  refine R.flo Gd.no (Y.assign rfl) ?_
  refine R.flo Gd.no (Y.assign rfl) ?_
  refine R.nil ?_
  refine Tri.seq ?_
  refine Tri.region ?_
  refine R.flo Gd.no (Y.move rfl) ?_
  refine R.flo Gd.no (Y.move rfl) ?_
  replace hr := bind_inv hr
  obtain ⟨r3, hcr3, hr⟩ := hr
  refine R.call (H1 := []) (H2 := []) Gd.no Tryz.en5 rfl (ok_florref2_PageFor hcr3 nx_2) (perm_idx [] rfl) (fun _ _ nx_4 hq => ?_)
  obtain ⟨rfl, rfl⟩ := hq
  refine R.flo Gd.no (Y.move rfl) ?_
  refine R.flo Gd.no (Y.extract rfl rfl) ?_
  refine R.flo Gd.no (Y.extract rfl rfl) ?_
  refine R.flo Gd.no (Y.assign rfl) ?_
  refine R.flo Gd.no (Y.assign rfl) ?_
  refine R.nil ?_
  refine Tri.seq ?_
  refine Tri.region ?_
  refine R.flo Gd.no (Y.move rfl) ?_
  refine R.flo Gd.no (Y.move rfl) ?_
  replace hr := bind_inv hr
  obtain ⟨r5, hcr5, hr⟩ := hr
  refine R.call (H1 := []) (H2 := []) Gd.no Tryz.en6 rfl (ok_link_Names hcr5 nx_4) (perm_idx [] rfl) (fun _ _ nx_6 hq => ?_)
  obtain ⟨rfl, rfl⟩ := hq
  refine R.flo Gd.no (Y.move rfl) ?_
  refine R.flo Gd.no (Y.extract rfl rfl) ?_
  refine R.flo Gd.no (Y.extract rfl rfl) ?_
  refine R.flo Gd.no (Y.assign rfl) ?_
  refine R.flo Gd.no (Y.assign rfl) ?_
  refine R.nil ?_
  refine Tri.seq ?_
  refine Tri.region ?_
  refine R.flo Gd.no (Y.move rfl) ?_
  refine R.flo Gd.no (Y.move rfl) ?_
  replace hr := bind_inv hr
  obtain ⟨r7, hcr7, hr⟩ := hr
  refine R.call (H1 := []) (H2 := []) Gd.no Tryz.en7 rfl (ok_florref2_NamesFor hcr7 nx_6) (perm_idx [] rfl) (fun _ _ nx_8 hq => ?_)
  obtain ⟨rfl, rfl⟩ := hq
  refine R.flo Gd.no (Y.move rfl) ?_
  refine R.flo Gd.no (Y.extract rfl rfl) ?_
  refine R.flo Gd.no (Y.extract rfl rfl) ?_
  refine R.flo Gd.no (Y.assign rfl) ?_
  refine R.flo Gd.no (Y.assign rfl) ?_
  refine R.nil ?_
  refine Tri.seq ?_
  refine Tri.region ?_
  refine R.flo Gd.no (Y.move rfl) ?_
  refine R.flo Gd.no (Y.move rfl) ?_
  refine R.flo Gd.no (Y.eqlI rfl rfl) ?_
  refine R.flo Gd.no (Y.move rfl) ?_
  refine TOps.part (b := decide (r1.1 = r3.1)) (fun bhb9 hb9 => ?_)
  cases bhb9
  · rw [hb9]; replace hr := cond_f hb9 hr
    refine R.skip (.f 3 false 42 rfl rfl) ?_
    refine R.skip (.f 3 false 42 rfl rfl) ?_
    refine R.skip (.f 3 false 42 rfl rfl) ?_
    refine R.flo Gd.no (Y.pickF rfl rfl) ?_
    refine R.flo Gd.no (Y.move rfl) ?_
    refine R.skip (.f 8 false 47 rfl rfl) ?_
    refine R.skip (.f 8 false 47 rfl rfl) ?_
    refine R.skip (.f 8 false 47 rfl rfl) ?_
    refine R.flo Gd.no (Y.pickF rfl rfl) ?_
    refine R.flo Gd.no (Y.move rfl) ?_
    refine R.skip (.f 13 false 52 rfl rfl) ?_
    refine R.skip (.f 13 false 52 rfl rfl) ?_
    refine R.skip (.f 13 false 52 rfl rfl) ?_
    refine R.flo Gd.no (Y.pickF rfl rfl) ?_
    refine R.flo Gd.no (Y.move rfl) ?_
    refine R.skip (.f 18 false 57 rfl rfl) ?_
    refine R.skip (.f 18 false 57 rfl rfl) ?_
    refine R.skip (.f 18 false 57 rfl rfl) ?_
    refine R.skip (.f 18 false 57 rfl rfl) ?_
    refine R.skip (.f 18 false 57 rfl rfl) ?_
    refine R.flo Gd.no (Y.pickF rfl rfl) ?_
    refine R.flo Gd.no (Y.assign rfl) ?_
    refine R.nil ?_
    refine Tri.ret ?_
    have hx := Option.some.inj hr
    subst hx
    exact ⟨.inl rfl, _, .inr (.inl ⟨_, _, rfl, rfl, rfl⟩), ⟨rfl, rfl⟩⟩
  · rw [hb9]; replace hr := cond_t hb9 hr
    refine R.flo (Gd.t 3 true 42 rfl rfl) (Y.move rfl) ?_
    refine R.flo (Gd.t 3 true 42 rfl rfl) (Y.move rfl) ?_
    refine R.flo (Gd.t 3 true 42 rfl rfl) (Y.eqlI rfl rfl) ?_
    refine R.flo Gd.no (Y.pickT rfl rfl) ?_
    refine R.flo Gd.no (Y.move rfl) ?_
    refine TOps.part (b := decide (r1.2 = r3.2)) (fun bhb10 hb10 => ?_)
    cases bhb10
    · rw [hb10]; replace hr := cond_f hb10 hr
      refine R.skip (.f 8 false 47 rfl rfl) ?_
      refine R.skip (.f 8 false 47 rfl rfl) ?_
      refine R.skip (.f 8 false 47 rfl rfl) ?_
      refine R.flo Gd.no (Y.pickF rfl rfl) ?_
      refine R.flo Gd.no (Y.move rfl) ?_
      refine R.skip (.f 13 false 52 rfl rfl) ?_
      refine R.skip (.f 13 false 52 rfl rfl) ?_
      refine R.skip (.f 13 false 52 rfl rfl) ?_
      refine R.flo Gd.no (Y.pickF rfl rfl) ?_
      refine R.flo Gd.no (Y.move rfl) ?_
      refine R.skip (.f 18 false 57 rfl rfl) ?_
      refine R.skip (.f 18 false 57 rfl rfl) ?_
      refine R.skip (.f 18 false 57 rfl rfl) ?_
      refine R.skip (.f 18 false 57 rfl rfl) ?_
      refine R.skip (.f 18 false 57 rfl rfl) ?_
      refine R.flo Gd.no (Y.pickF rfl rfl) ?_
      refine R.flo Gd.no (Y.assign rfl) ?_
      refine R.nil ?_
      refine Tri.ret ?_
      have hx := Option.some.inj hr
      subst hx
      exact ⟨.inl rfl, _, .inr (.inl ⟨_, _, rfl, rfl, rfl⟩), ⟨rfl, rfl⟩⟩
    · rw [hb10]; replace hr := cond_t hb10 hr
      refine R.flo (Gd.t 8 true 47 rfl rfl) (Y.move rfl) ?_
      refine R.flo (Gd.t 8 true 47 rfl rfl) (Y.move rfl) ?_
      refine R.flo (Gd.t 8 true 47 rfl rfl) (Y.eqlI rfl rfl) ?_
      refine R.flo Gd.no (Y.pickT rfl rfl) ?_
      refine R.flo Gd.no (Y.move rfl) ?_
      refine TOps.part (b := decide (r5.2 = r7.2)) (fun bhb11 hb11 => ?_)
      cases bhb11
      · rw [hb11]; replace hr := cond_f hb11 hr
        refine R.skip (.f 13 false 52 rfl rfl) ?_
        refine R.skip (.f 13 false 52 rfl rfl) ?_
        refine R.skip (.f 13 false 52 rfl rfl) ?_
        refine R.flo Gd.no (Y.pickF rfl rfl) ?_
        refine R.flo Gd.no (Y.move rfl) ?_
        refine R.skip (.f 18 false 57 rfl rfl) ?_
        refine R.skip (.f 18 false 57 rfl rfl) ?_
        refine R.skip (.f 18 false 57 rfl rfl) ?_
        refine R.skip (.f 18 false 57 rfl rfl) ?_
        refine R.skip (.f 18 false 57 rfl rfl) ?_
        refine R.flo Gd.no (Y.pickF rfl rfl) ?_
        refine R.flo Gd.no (Y.assign rfl) ?_
        refine R.nil ?_
        refine Tri.ret ?_
        have hx := Option.some.inj hr
        subst hx
        exact ⟨.inl rfl, _, .inr (.inl ⟨_, _, rfl, rfl, rfl⟩), ⟨rfl, rfl⟩⟩
      · rw [hb11]; replace hr := cond_t hb11 hr
        refine R.flo (Gd.t 13 true 52 rfl rfl) (Y.move rfl) ?_
        refine R.flo (Gd.t 13 true 52 rfl rfl) (Y.move rfl) ?_
        replace hr := bind_inv hr
        obtain ⟨r12, hcr12, hr⟩ := hr
        refine R.call (H1 := []) (H2 := []) (Gd.t 13 true 52 rfl rfl) Tryz.en8 rfl (ok_slices_Equal_string_string hcr12 nx_8) (perm_idx [] rfl) (fun _ _ nx_13 hq => ?_)
        obtain ⟨rfl, rfl⟩ := hq
        refine R.flo Gd.no (Y.pickT rfl rfl) ?_
        refine R.flo Gd.no (Y.move rfl) ?_
        refine TOps.part (b := r12) (fun bhb14 hb14 => ?_)
        cases bhb14
        · rw [hb14]; replace hr := cond_f hb14 hr
          refine R.skip (.f 18 false 57 rfl rfl) ?_
          refine R.skip (.f 18 false 57 rfl rfl) ?_
          refine R.skip (.f 18 false 57 rfl rfl) ?_
          refine R.skip (.f 18 false 57 rfl rfl) ?_
          refine R.skip (.f 18 false 57 rfl rfl) ?_
          refine R.flo Gd.no (Y.pickF rfl rfl) ?_
          refine R.flo Gd.no (Y.assign rfl) ?_
          refine R.nil ?_
          refine Tri.ret ?_
          have hx := Option.some.inj hr
          subst hx
          exact ⟨.inl rfl, _, .inr (.inl ⟨_, _, rfl, rfl, rfl⟩), ⟨rfl, rfl⟩⟩
        · rw [hb14]; replace hr := cond_t hb14 hr
          refine R.flo (Gd.t 18 true 57 rfl rfl) (Y.move rfl) ?_
          replace hr := bind_inv hr
          obtain ⟨r15, hcr15, hr⟩ := hr
          refine R.call (H1 := []) (H2 := []) (Gd.t 18 true 57 rfl rfl) Tryz.en9 rfl (ok_link_FoldTitle hcr15 nx_13) (perm_idx [] rfl) (fun _ _ nx_16 hq => ?_)
          obtain ⟨rfl, rfl⟩ := hq
          refine R.flo (Gd.t 18 true 57 rfl rfl) (Y.move rfl) ?_
          replace hr := bind_inv hr
          obtain ⟨r17, hcr17, hr⟩ := hr
          refine R.call (H1 := []) (H2 := []) (Gd.t 18 true 57 rfl rfl) Tryz.en10 rfl (ok_florref2_FoldOfTitle hcr17 nx_16) (perm_idx [] rfl) (fun _ _ nx_18 hq => ?_)
          obtain ⟨rfl, rfl⟩ := hq
          refine R.flo (Gd.t 18 true 57 rfl rfl) (Y.eqlS rfl rfl) ?_
          refine R.flo Gd.no (Y.pickT rfl rfl) ?_
          refine R.flo Gd.no (Y.assign rfl) ?_
          refine R.nil ?_
          refine Tri.ret ?_
          have hx := Option.some.inj hr
          subst hx
          exact ⟨.inl rfl, _, .inr (.inl ⟨_, _, rfl, rfl, rfl⟩), ⟨rfl, rfl⟩⟩
end Go.Fl
