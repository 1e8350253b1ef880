/- Steps over states: parts of rows, new rows of zeros, strings gone through. Lemmas alone. -/
import Derived.Test.YtlaommikkfojfaaGreatDoorFlMap
import Derived.Laws.MakeOwn
namespace Go.Fl
open Go
section
variable {P : Program} {st : St} {d : Option Nat} {ty : TypeId} {pos : String} {aft : Array Edge} {g : Option (Nat × Bool)}

theorem bnd_val {G : Gh} {M : Mem} {ι : Iota} {a : Act} {w : World} (hi : Inv G M ι st a w) {x : Operand} {dflt n : Nat} (hb : bnd st dflt (some x) = some n) : ∃ k, a.eval x = .int k n := by
  simp only [bnd] at hb
  split at hb
  · rename_i k m hx
    split at hb
    · rename_i hm
      simp at hb
      exact ⟨k, by rw [ev_lit hi hx, ← hb]; congr 1; omega⟩
    · cases hb
  · cases hb
/-- The bounds of a slice expression, the third one too. -/
def bndM (st : St) (cap m : Nat) (hi' : Option Operand) : Option Operand → Prop
  | none => m = cap
  | some y => bnd st 0 (some y) = some m ∧ hi' ≠ none
theorem run_bounds3 {G : Gh} {M : Mem} {ι : Iota} {a : Act} {w : World} (hi : Inv G M ι st a w) {len cap : Nat} {lo hi' mx : Option Operand} {l h m : Nat} (hl : bnd st 0 lo = some l) (hh : bnd st len hi' = some h) (hm : bndM st cap m hi' mx) (h1 : l ≤ h) (h2 : h ≤ m) (h3 : m ≤ cap) :
    ∀ w, (Instr.sliceBounds true len cap (lo.map a.eval) (hi'.map a.eval) (mx.map a.eval)).run P w = .ok (l, h, m) w := by
  intro w
  cases mx with
  | none =>
    have hm : m = cap := hm
    subst hm
    exact run_bounds hi hl hh h1 h2 w
  | some z =>
    obtain ⟨hm, hne⟩ := hm
    obtain ⟨k3, hk3⟩ := bnd_val hi hm
    cases hi' with
    | none => exact absurd rfl hne
    | some y =>
      obtain ⟨k2, hk2⟩ := bnd_val hi hh
      cases lo with
      | none =>
        simp [bnd] at hl; subst hl
        simp [Instr.sliceBounds, Instr.sliceBound, hk2, hk3, asIntOf, h2, h3]
      | some x =>
        obtain ⟨k1, hk1⟩ := bnd_val hi hl
        simp [Instr.sliceBounds, Instr.sliceBound, hk1, hk2, hk3, asIntOf, h1, h2, h3]
theorem flatten_take {α : Type} {sz : Nat} : ∀ {es : List (List α)} (k : Nat), (∀ y ∈ es, y.length = sz) → (es.take k).flatten = es.flatten.take (k * sz)
  | _, 0, _ => by simp
  | [], _ + 1, _ => by simp
  | e :: es, k + 1, h => by
    rw [List.take_succ_cons, List.flatten_cons, List.flatten_cons, flatten_take k fun y hy => h y (List.mem_cons_of_mem _ hy)]
    have he := h e List.mem_cons_self
    rw [List.take_append, he, Nat.succ_mul, Nat.add_sub_cancel, List.take_of_length_le (l := e) (by omega)]
theorem flatten_drop' {α : Type} {sz : Nat} : ∀ {es : List (List α)} (k : Nat), (∀ y ∈ es, y.length = sz) → (es.drop k).flatten = es.flatten.drop (k * sz)
  | _, 0, _ => by simp
  | [], _ + 1, _ => by simp
  | e :: es, k + 1, h => by
    rw [List.drop_succ_cons, List.flatten_cons, flatten_drop' k fun y hy => h y (List.mem_cons_of_mem _ hy)]
    have he := h e List.mem_cons_self
    rw [List.drop_append, he, Nat.succ_mul, Nat.add_sub_cancel, List.drop_eq_nil_of_le (as := e) (by omega)]; rfl

/-- A part of an own row: the row itself is given up. -/
theorem Does.cutO {t e e' : TypeId} {x : Operand} {lo hi' mx : Option Operand} {o sz l h : Nat} {es : List (List A)} (k : Nat) (hk : st.H[k]? = some (o, .row e' sz es)) (ht : P.underlying t = some (.slice e)) (hsz : ∀ w, (sizeOf e).run P w = .ok sz w) (hx : st.ev x = some (.one (.obj o)))
    (hl : bnd st 0 lo = some l) (hh : bnd st es.length hi' = some h) (hm : mx = none ∨ ∃ y, mx = some y ∧ hi' ≠ none ∧ bnd st 0 (some y) = some h) (h1 : l ≤ h) (h2 : h ≤ es.length) (hd : fits d st.n = true := by rfl) :
    Does P ⟨d, .slice t x lo hi' mx, ty, pos, aft, g⟩ st (· = { st with H := (st.nx, .row e' sz ((es.drop l).take (h - l))) :: st.H.eraseIdx k, nx := st.nx + 1 }.set d (.one (.obj st.nx))) := by
  refine ⟨fun G M ι a w hi K Q hK => ?_⟩
  obtain ⟨q, hq, xs, h0, ho, hs, h3, h4⟩ := hi.core.ob _ (getElem?_mem hk)
  obtain ⟨sz', hv⟩ := hi.ev hx
  rw [hq] at hv; cases hv
  simp only at h0; subst h0
  have hs' : ∀ y ∈ es, y.length = sz' := hs
  -- the bounds
  have hb : ∀ cap, h ≤ cap → ∃ m, h ≤ m ∧ m ≤ cap ∧ ∀ w, (Instr.sliceBounds true es.length cap (lo.map a.eval) (hi'.map a.eval) (mx.map a.eval)).run P w = .ok (l, h, m) w := by
    intro cap hc
    rcases hm with rfl | ⟨y, rfl, hne, hy⟩
    · exact ⟨cap, hc, Nat.le_refl _, run_bounds3 hi hl hh rfl h1 hc (Nat.le_refl _)⟩
    · exact ⟨h, Nat.le_refl _, hc, run_bounds3 hi hl hh ⟨hy, hne⟩ h1 (Nat.le_refl _) hc⟩
  -- the value
  have key : ∃ v', (execOp a.eval ⟨d, .slice t x lo hi' mx, ty, pos, aft, g⟩).run P w = .ok (.value v') w ∧ Owns w e' sz' v' (h - l) ((xs.drop (l * sz')).take ((h - l) * sz')) ∧ v'.oneCell' = true ∧ ∀ b, blk v' = some b → blk (a.eval x) = some b := by
    have hxl : ((xs.drop (l * sz')).take ((h - l) * sz')).length = (h - l) * sz' := by
      have hl1 := ho.1
      have : h * sz' ≤ es.length * sz' := Nat.mul_le_mul_right _ h2
      have e1 : (h - l) * sz' = h * sz' - l * sz' := Nat.sub_mul ..
      simp only [List.length_take, List.length_drop]
      simp only at hl1
      omega
    rcases ho.2 with ⟨hv, hn⟩ | ⟨b, off, cap, cur, hv, ⟨fz, hc, hz⟩, hnc, hcm, hcs, htk⟩
    · simp only at hv hn
      have hh0 : h = 0 := by omega
      have hl0 : l = 0 := by omega
      subst hh0; subst hl0
      obtain ⟨m, hm1, hm2, hb⟩ := hb 0 (Nat.le_refl _)
      have hm0 : m = 0 := by omega
      subst hm0
      rw [hn] at hb
      refine ⟨.slice none 0 0, ?_, ⟨by simp, .inl ⟨rfl, rfl⟩⟩, rfl, fun b hb => by cases hb⟩
      simp [execOp, hv, Instr.sliceAt, Instr.slice, run_underlying ht, hb, hsz]
    · have hv' : a.eval x = .slice (some ⟨b, off, none⟩) es.length cap := hv
      have hnc' : es.length ≤ cap := hnc
      have hcs' : off + cap * sz' ≤ cur.size := hcs
      have htk' : (cur.toList.drop off).take (es.length * sz') = xs := htk
      obtain ⟨m, hm1, hm2, hb⟩ := hb cap (by omega)
      refine ⟨.slice (some (if m = l then ⟨b, off, none⟩ else ⟨b, off + l * sz', none⟩)) (h - l) (m - l), ?_, ⟨hxl, .inr ?_⟩, rfl, fun b' hb' => ?_⟩
      · simp only [execOp, hv', Instr.sliceAt, Instr.slice, Sem.run_bind, run_underlying ht, Result.andThen, hb, hsz]
        by_cases he : m = l
        · simp [he, Instr.slice, run_underlying ht, hb, hsz]
        · simp [he, Instr.slice, run_underlying ht, hb, hsz, addr_add]
      · by_cases he : m = l
        · have hh0 : h - l = 0 := by omega
          exact ⟨b, off, m - l, cur, by rw [if_pos he], ⟨fz, hc, hz⟩, by omega, by omega, by rw [he, Nat.sub_self, Nat.zero_mul]; omega, by rw [hh0]; simp⟩
        · refine ⟨b, off + l * sz', m - l, cur, by rw [if_neg he], ⟨fz, hc, hz⟩, by omega, by omega, ?_, ?_⟩
          · have e1 : (m - l) * sz' = m * sz' - l * sz' := Nat.sub_mul ..
            have e2 : m * sz' ≤ cap * sz' := Nat.mul_le_mul_right _ hm2
            have e3 : l * sz' ≤ m * sz' := Nat.mul_le_mul_right _ (by omega)
            omega
          · rw [← htk', ← List.drop_drop, List.drop_take, List.take_take]
            congr 1
            have e1 : (h - l) * sz' = h * sz' - l * sz' := Nat.sub_mul ..
            have e2 : h * sz' ≤ es.length * sz' := Nat.mul_le_mul_right _ h2
            omega
      · rw [hv']
        by_cases he : m = l
        · rw [if_pos he] at hb'; exact hb'
        · rw [if_neg he] at hb'; exact hb'
  obtain ⟨v', hrun, ho', hone, hblk⟩ := key
  simp only [Oper.wp, hrun, Oper.upon]
  have hoth : ∀ b, blk (a.eval x) = some b → (∀ k, M b k = none) ∧ ∀ p ∈ st.H.eraseIdx k, ∀ y, ι p.1 = some y → blk y.1 ≠ some b := fun b hb =>
    ⟨hi.core.free _ (getElem?_mem hk) _ b hq hb, hi.core.other hk hq hb⟩
  have hsub : (st.H.eraseIdx k).Sublist st.H := List.eraseIdx_sublist ..
  have hle := ile_iset hi.core.dom (v', sz')
  have hlen : ((es.drop l).take (h - l)).length = h - l := by simp; omega
  have c2 : InvH M (iset ι st.nx (v', sz')) ((st.nx, .row e' sz' ((es.drop l).take (h - l))) :: st.H.eraseIdx k) (st.nx + 1) w := by
    refine (hi.core.sub hsub).add ⟨(xs.drop (l * sz')).take ((h - l) * sz'), rfl, by rw [hlen]; exact ho', ?_, ?_, ?_⟩ hone fun b hb => hoth b (hblk b hb)
    · intro y hy; exact hs' y (List.mem_of_mem_drop (List.mem_of_mem_take hy))
    · rw [flatten_take _ (fun y hy => hs' y (List.mem_of_mem_drop hy)), flatten_drop' _ hs']
      exact ((h3.drop _).take _).mono fun _ _ => RepA.mono (.refl _) hle
    · intro u hu; exact h4 u (List.mem_of_mem_drop (List.mem_of_mem_take hu))
  have hlt : ∀ p ∈ st.H, p.1 < st.nx := fun p hp => let ⟨y, hy, _⟩ := hi.core.ob p hp; hi.core.dom _ _ hy
  refine hK _ M _ _ _ rfl (hi.step (st' := { st with H := (st.nx, .row e' sz' ((es.drop l).take (h - l))) :: st.H.eraseIdx k, nx := st.nx + 1 }) (.refl _) hle (fits_spec hd) (v := .one (.obj st.nx)) (u := v') ⟨sz', by simp [iset]⟩ rfl rfl c2 hi.kept (fun p hp => ?_) ⟨hi.past.1.iset hi.past.2 _, Nat.le_succ_of_le hi.past.2⟩)
  rcases List.mem_cons.1 hp with rfl | hp
  · intro y b hy hb
    simp only [iset, if_true, Option.some.injEq] at hy; subst hy
    exact hi.own _ (getElem?_mem hk) _ b hq (hblk b hb)
  · intro y b hy hb
    have := hlt p (hsub.subset hp)
    simp only [iset] at hy
    rw [if_neg (by omega)] at hy
    exact hi.own p (hsub.subset hp) y b hy hb

/-- A part of a closed slice, cut at its end. -/
theorem Flo.sliceR3 {t e : TypeId} {x : Operand} {lo hi' : Option Operand} {z : Operand} {sz l h : Nat} {cl : Bool} {es : List (List C)} (ht : P.underlying t = some (.slice e)) (hsz : ∀ w, (sizeOf e).run P w = .ok sz w) (hx : st.ev x = some (.c (.ro sz cl es))) (hl : bnd st 0 lo = some l) (hh : bnd st es.length hi' = some h) (hne' : hi' ≠ none) (hm : bnd st 0 (some z) = some h) (h1 : l ≤ h) (h2 : h ≤ es.length) : Flo P ⟨d, .slice t x lo hi' (some z), ty, pos, aft, g⟩ st (.c (.ro sz false ((es.drop l).take (h - l)))) :=
  fun G M ι a w hi => by
    have hr := hi.ev hx
    generalize hu : a.eval x = u at hr
    cases hr with
    | nil sz cl p c hp hcl hm' =>
      have hl0 : l = 0 := by simp at h2; omega
      have hh0 : h = 0 := by simpa using h2
      subst hl0; subst hh0
      have hb := run_bounds3 (P := P) hi (len := 0) (cap := c) (mx := some z) (m := 0) hl (by simpa using hh) ⟨hm, hne'⟩ (Nat.le_refl _) (Nat.le_refl _) (Nat.zero_le _)
      simp only [Option.map_some] at hb
      refine ⟨.slice p 0 0, fun _ _ => by simp [execOp, hu, Instr.sliceAt, Instr.slice, run_underlying ht, hb, hsz], ?_⟩
      exact .nil _ _ _ _ (fun _ => rfl) (fun h => by cases h) (Nat.zero_le _)
    | ro sz cl es b off c u hne hsz' hc hm' hcl hu' hr =>
      have hb := run_bounds3 (P := P) hi (len := es.length) (cap := c) (mx := some z) (m := h) hl hh ⟨hm, hne'⟩ h1 (Nat.le_refl _) (Nat.le_trans h2 hc)
      simp only [Option.map_some] at hb
      refine ⟨.slice (if h = l then some ⟨b, off, none⟩ else some ⟨b, off + l * sz, none⟩) (h - l) (h - l), fun _ _ => by
        by_cases he : h = l
        · simp [execOp, hu, Instr.sliceAt, Instr.slice, run_underlying ht, hb, hsz, he]
        · simp [execOp, hu, Instr.sliceAt, Instr.slice, run_underlying ht, hb, hsz, addr_add, he], ?_⟩
      by_cases hlh : l = h
      · subst hlh
        simp only [Nat.sub_self, List.take_zero]
        exact .nil _ _ _ _ (by simp) (fun h => by cases h) (by omega)
      · rw [if_neg (fun h => hlh h.symm)]
        obtain ⟨L, hL⟩ : ∃ L, L = (es.drop l).take (h - l) := ⟨_, rfl⟩
        have hlen : L.length = h - l := by rw [hL]; simp; omega
        rw [← hL]
        have key : RepC M (.ro sz false L) (.slice (some ⟨b, off + l * sz, none⟩) L.length (h - l)) := by
          refine .ro _ _ _ _ _ _ (fun i j => u (l + i) j) (fun hn => ?_) (fun y hy => ?_) (by omega) (by omega) (fun h => by cases h) (fun i y j z h3 h4 => ?_) (fun i y j z h3 h4 => ?_)
          · rw [hn] at hlen; simp at hlen; omega
          · rw [hL] at hy; exact hsz' y (List.mem_of_mem_drop (List.mem_of_mem_take hy))
          · rw [hL] at h3
            obtain ⟨h5, h6⟩ := drop_take_get h3
            have := hu' _ _ _ _ h5 h4
            rwa [Nat.add_mul, show off + (l * sz + i * sz + j) = off + l * sz + (i * sz + j) by omega] at this
          · rw [hL] at h3
            obtain ⟨h5, h6⟩ := drop_take_get h3
            exact hr _ _ _ _ h5 h4
        rwa [hlen] at key
/-- A tail of an own row, beside the row. -/
theorem Flo.subO {t e e' : TypeId} {x : Operand} {lo hi' : Option Operand} {o sz l h : Nat} {es : List (List A)} (k : Nat) (hk : st.H[k]? = some (o, .row e' sz es)) (ht : P.underlying t = some (.slice e)) (hsz : ∀ w, (sizeOf e).run P w = .ok sz w) (hx : st.ev x = some (.one (.obj o)))
    (hl : bnd st 0 lo = some l) (hh : bnd st es.length hi' = some h) (h1 : l ≤ h) (h2 : h ≤ es.length) : Flo P ⟨d, .slice t x lo hi' none, ty, pos, aft, g⟩ st (.one (.sub o l (h - l))) := by
  intro G M ι a w hi
  obtain ⟨q, hq, xs, h0, ho, hs, h3, h4⟩ := hi.core.ob _ (getElem?_mem hk)
  obtain ⟨sz', hv⟩ := hi.ev hx
  rw [hq] at hv; cases hv
  simp only at h0; subst h0
  rcases ho.2 with ⟨hv, hn⟩ | ⟨b, off, cap, cur, hv, ⟨fz, hc, hz⟩, hnc, hcm, hcs, htk⟩
  · simp only at hv hn
    have hh0 : h = 0 := by omega
    have hl0 : l = 0 := by omega
    subst hh0; subst hl0
    have hb := run_bounds (P := P) hi (isS := true) (cap := 0) hl hh (Nat.le_refl _) (Nat.le_refl _)
    rw [hn] at hb
    refine ⟨.slice none 0 0, fun _ _ => ?_, a.eval x, sz', hq, by simp, none, 0, rfl, fun h => absurd rfl h⟩
    simp [execOp, hv, Instr.sliceAt, Instr.slice, run_underlying ht, hb, hsz]
  · have hv' : a.eval x = .slice (some ⟨b, off, none⟩) es.length cap := hv
    have hnc' : es.length ≤ cap := hnc
    have hcm' : cap ≤ maxLen := hcm
    have hb := run_bounds (P := P) hi (isS := true) hl hh h1 (Nat.le_trans h2 hnc')
    refine ⟨.slice (some (if cap = l then ⟨b, off, none⟩ else ⟨b, off + l * sz', none⟩)) (h - l) (cap - l), fun _ _ => ?_, a.eval x, sz', hq, by omega, _, _, rfl, fun hne => ⟨b, by rw [hv']; rfl, ?_⟩⟩
    · by_cases he : cap = l
      · simp [execOp, hv', Instr.sliceAt, he, Instr.slice, run_underlying ht, he ▸ hb, hsz]
      · simp [execOp, hv', Instr.sliceAt, he, Instr.slice, run_underlying ht, hb, hsz, addr_add]
    · rw [if_neg (by omega), hv']; rfl
theorem Flo.lenSub {t e : TypeId} {x : Operand} {at' : Array TypeId} {o i m : Nat} (ht : P.underlying t = some (.slice e)) (hx : st.ev x = some (.one (.sub o i m))) (hat : at'[0]? = some t) :
    Flo P ⟨d, .call { callee := .builtin .len, args := #[x], argTypes := at' }, ty, pos, aft, g⟩ st (.lit (.int .i64 m)) := by
  intro G M ι a w hi
  obtain ⟨v, sz, _, _, p, c, he, _⟩ := hi.ev hx
  exact ⟨.int .i64 m, fun w _ => by simp [execOp, resolve, invoke, builtin, Builtin.len_, hat, run_underlying ht, he, goInt], RepC.lit _⟩
theorem Fact.lenSub {x : Operand} {o i m : Nat} (hx : st.ev x = some (.one (.sub o i m))) : Fact st (m ≤ maxLen) := fun _ _ _ _ _ hi => let ⟨_, _, _, h, _⟩ := hi.ev hx; h
theorem Flo.idxSub {t e e' : TypeId} {x y : Operand} {kd : IntKind} {i j m sz o : Nat} {es : List (List A)} (k : Nat) (hk : st.H[k]? = some (o, .row e' sz es)) (ht : P.underlying t = some (.slice e)) (hsz : ∀ w, (sizeOf e).run P w = .ok sz w) (hx : st.ev x = some (.one (.sub o i m))) (hy : st.ev y = some (.lit (.int kd j))) (hj : j < m) :
    Flo P ⟨d, .indexAddr t x y, ty, pos, aft, g⟩ st (.one (.ptr o (i + j) 0)) := by
  intro G M ι ac w hi
  obtain ⟨v, sz', h1, hm, p, c, he, hp⟩ := hi.ev hx
  obtain ⟨z, hz, xs, hsz', ho, hs, _⟩ := hi.core.ob _ (getElem?_mem hk)
  rw [h1] at hz; cases hz
  simp only at hsz'; subst hsz'
  obtain ⟨b, hb, rfl⟩ := hp (by omega)
  refine ⟨.pointer (some ⟨b, offV v + ((i + j) * sz' + 0), none⟩), fun _ _ => ?_, v, sz', b, h1, hb, rfl⟩
  simp [execOp, he, ev_lit hi hy, Instr.indexAt, asIntOf, run_underlying ht, hsz, hj, addr_add, Nat.add_mul, Nat.add_assoc]

theorem splice_mid : ∀ (vs cur : List Value) (k : Nat), k + vs.length ≤ cur.length → splice cur k vs = cur.take k ++ vs ++ cur.drop (k + vs.length)
  | [], cur, k, _ => by simp [splice]
  | v :: vs, cur, k, h => by
    simp only [List.length_cons] at h
    simp only [splice]
    rw [splice_mid vs (cur.set k v) (k + 1) (by simp; omega), List.take_succ_eq_append_getElem (by simp; omega)]
    simp only [List.getElem_set_self, List.take_set, List.append_assoc, List.cons_append, List.nil_append, List.length_cons]
    rw [List.set_eq_of_length_le (by simp; omega), List.drop_set, if_pos (by omega), show k + 1 + vs.length = k + (vs.length + 1) by omega]
theorem range_flat (zl : List Value) (f : Nat → Value) (hf : ∀ q, f q = zl[q % zl.length]?.getD undef) (hz : zl ≠ []) : ∀ n, (List.range (n * zl.length)).map f = (List.replicate n zl).flatten := by
  have hpos : 0 < zl.length := List.length_pos_iff.2 hz
  intro n
  induction n with
  | zero => simp
  | succ n ih =>
    rw [Nat.succ_mul, List.range_add, List.map_append, ih, List.replicate_succ', List.flatten_append]
    congr 1
    simp only [List.map_map, List.flatten_cons, List.flatten_nil, List.append_nil]
    apply List.ext_getElem?
    intro i
    rw [List.getElem?_map]
    rcases Nat.lt_or_ge i zl.length with h | h
    · rw [List.getElem?_range h]
      simp only [Option.map_some, Function.comp, hf]
      rw [Nat.mul_add_mod_self_right, Nat.mod_eq_of_lt h, List.getElem?_eq_getElem h]; rfl
    · rw [List.getElem?_eq_none (by simpa using h), List.getElem?_eq_none h]; rfl
theorem zero_flat (z : Value) (n sz : Nat) (hz : z.cells.size = sz) (h0 : 0 < sz) : ((Array.range (n * sz)).map fun q => z.cells[q % z.cells.size]!).toList = (List.replicate n z.cells.toList).flatten := by
  subst hz
  have hne : z.cells.toList ≠ [] := fun h => by simp at h; simp [h] at h0
  have := range_flat z.cells.toList (fun q => z.cells[q % z.cells.size]!) (fun q => by
    have hlt : q % z.cells.size < z.cells.size := Nat.mod_lt _ h0
    simp [hlt]) hne n
  simpa using this
/-- The cells of a value of a type at its beginning. -/
def zeroA (z : Value) : List A := z.cells.toList.map fun x => A.c (.lit x)
theorem zeros_rep {M : Mem} {ι : Iota} (z : Value) : ∀ n, All2 (RepA M ι) (List.replicate n (zeroA z)).flatten (List.replicate n z.cells.toList).flatten
  | 0 => trivial
  | n + 1 => by
    rw [List.replicate_succ, List.replicate_succ, List.flatten_cons, List.flatten_cons]
    exact (All2.lits _).append (zeros_rep z n)
theorem zeros_one {z : Value} (h1 : ∀ x ∈ z.cells.toList, x.oneCell' = true) : ∀ n, ∀ x ∈ (List.replicate n z.cells.toList).flatten, x.oneCell' = true := by
  intro n x hx
  obtain ⟨l, hl, hx⟩ := List.mem_flatten.1 hx
  rw [(List.mem_replicate.1 hl).2] at hx
  exact h1 x hx

def evI (n : Int) : V1 := .one (.c (.lit (.int .i64 n)))
def evK (k : IntKind) (n : Int) : V1 := .one (.c (.lit (.int k n)))
def evS (s : List UInt8) : V1 := .one (.c (.lit (str s)))
def evB (b : Bool) : V1 := .one (.c (.lit (.bool b)))
def evL {α : Type} (sz : Nat) (f : α → List C) (l : List α) : V1 := .one (.c (.ro sz false (l.map f)))
def evA {α : Type} (f : α → List C) (x : α) : V1 := .agg ((f x).map .c)
theorem zvI (M : Mem) (ι : Iota) : RepV1 M ι (evI 0) (.int .i64 0) := RepC.lit _
theorem zvK (k : IntKind) (M : Mem) (ι : Iota) : RepV1 M ι (evK k 0) (.int k 0) := RepC.lit _
theorem zvS (M : Mem) (ι : Iota) : RepV1 M ι (evS []) (.string ⟨#[]⟩) := RepC.lit _
theorem zvB (M : Mem) (ι : Iota) : RepV1 M ι (evB false) (.bool false) := RepC.lit _
theorem zvL {α : Type} (sz : Nat) (f : α → List C) (M : Mem) (ι : Iota) : RepV1 M ι (evL sz f []) (.slice none 0 0) := RepC.nil _ _ _ _ (fun _ => rfl) (fun h => by cases h) (Nat.zero_le _)
theorem Does.makeSlice {t e : TypeId} {x y : Operand} {kd kd2 : IntKind} {z : Value} {sz bytes n : Nat} (ht : P.underlying t = some (.slice e)) (he : ElemT P e sz bytes z) (hx : st.ev x = some (.lit (.int kd n))) (hy : st.ev y = some (.lit (.int kd2 n)))
    (hb : n * bytes ≤ 281474976710656) (hm : n ≤ 4294967296) (hd : fits d st.n = true := by rfl) :
    Does P ⟨d, .makeSlice t x y, ty, pos, aft, g⟩ st (· = { st with H := (st.nx, .row e sz (List.replicate n (zeroA z))) :: st.H, nx := st.nx + 1 }.set d (.one (.obj st.nx))) := by
  refine ⟨fun G M ι a w hi K Q hK => ?_⟩
  obtain ⟨i, hi1, hi2, hi3, hi4⟩ := he.info
  have hr := run_make (P := P) w t e i z ht hi1 hi2 kd kd2 n n (by omega) (Int.le_refl _) (by rw [hi4]; have : ((bytes * n : Nat) : Int) ≤ 281474976710656 := by { have : bytes * n = n * bytes := Nat.mul_comm ..; omega }; rwa [Int.natCast_mul] at this) (by omega)
  simp only [Int.toNat_natCast, hi3] at hr
  have hex : (execOp a.eval ⟨d, .makeSlice t x y, ty, pos, aft, g⟩).run P w = .ok (.value (.slice (some ⟨w.heap.size, 0, none⟩) n n)) (w.alloc (.cells (madeCells z.cells (n * sz)) e (0, 0))) := by
    simp [execOp, ev_lit hi hx, ev_lit hi hy, hr]
  simp only [Oper.wp, hex, Oper.upon]
  have hfl : (madeCells z.cells (n * sz)).toList = (List.replicate n z.cells.toList).flatten := zero_flat z n sz he.zsize he.pos
  have hln : (List.replicate n z.cells.toList).flatten.length = n * sz := by rw [← hfl]; simp [size_madeCells]
  refine hK _ M _ _ _ rfl (hi.laid (x := (.slice (some ⟨w.heap.size, 0, none⟩) n n, sz)) (ob := .row e sz (List.replicate n (zeroA z))) (.cells (madeCells z.cells (n * sz)) e (0, 0)) rfl rfl (fun ι' hle => ⟨(List.replicate n z.cells.toList).flatten, rfl, ⟨by simpa using hln, .inr ⟨w.heap.size, 0, n, _, by simp, ⟨_, alloc_at _ _, Clear.zero _⟩, by simp, ?_, by simp [size_madeCells], ?_⟩⟩, ?_, zeros_rep z n, zeros_one he.one n⟩) hd ⟨sz, by simp [iset]⟩)
  · unfold maxLen; omega
  · rw [hfl, List.drop_zero, List.take_of_length_le (by rw [hln]; simp)]
  · intro y hy
    rw [(List.mem_replicate.1 hy).2]
    simp [zeroA, he.zsize]

/-- The elements behind a place are set to zero. -/
theorem Does.clearSub {t e : TypeId} {x : Operand} {at' : Array TypeId} {z : Value} {o i m sz bytes : Nat} {es : List (List A)} (k : Nat) (hk : st.H[k]? = some (o, .row e sz es)) (ht : P.underlying t = some (.slice e)) (he : ElemT P e sz bytes z) (hx : st.ev x = some (.one (.sub o i m)))
    (him : i + m ≤ es.length) (hat : at'[0]? = some t) (hd : fits d st.n = true := by rfl) :
    Does P ⟨d, .call { callee := .builtin .clear, args := #[x], argTypes := at' }, ty, pos, aft, g⟩ st (· = { st with H := st.H.set k (o, .row e sz (es.take i ++ List.replicate m (zeroA z) ++ es.drop (i + m))) }.set d (.tup [])) := by
  refine ⟨fun G M ι a w hi K Q hK => ?_⟩
  obtain ⟨v, sz', h1, hm, p, c, hev, hp⟩ := hi.ev hx
  obtain ⟨q, hq, xs, hz0, ho, hs, h2, h4⟩ := hi.core.ob _ (getElem?_mem hk)
  rw [h1] at hq; cases hq
  have hz0' : sz' = sz := hz0
  subst hz0'
  have hs' : ∀ y ∈ es, y.length = sz' := hs
  have put : ∀ st' w', Inv G M ι st' a w' → fits d st'.n = true → Inv G M ι (st'.set d (.tup [])) (a.put d (.tuple #[])) w' := fun st' w' h hd => h.put (fits_spec hd) ⟨[], rfl, trivial⟩
  by_cases hm0 : m = 0
  · subst hm0
    have hex : (execOp a.eval ⟨d, .call { callee := .builtin .clear, args := #[x], argTypes := at' }, ty, pos, aft, g⟩).run P w = .ok (.value (.tuple #[])) w := by
      cases p <;> simp [execOp, resolve, invoke, builtin, Builtin.clear_, hat, run_underlying ht, hev]
    simp only [Oper.wp, hex, Oper.upon]
    have heq : es.take i ++ List.replicate 0 (zeroA z) ++ es.drop (i + 0) = es := by simp
    have hset : st.H.set k (o, .row e sz' (es.take i ++ List.replicate 0 (zeroA z) ++ es.drop (i + 0))) = st.H := by
      rw [heq]
      have hkl := (List.getElem?_eq_some_iff.1 hk)
      rw [← hkl.2]
      exact List.set_getElem_self _
    refine hK _ M ι _ _ rfl ?_
    rw [hset]
    exact put st w hi hd
  · obtain ⟨b, hb, rfl⟩ := hp hm0
    rcases ho.2 with ⟨g1, g2⟩ | ⟨b', off, cap, cur, g1, ⟨fz, g2, gz⟩, g3, g4, g5, g6⟩
    · omega
    · have g1' : v = .slice (some ⟨b', off, none⟩) es.length cap := g1
      have g5' : off + cap * sz' ≤ cur.size := g5
      have g6' : (cur.toList.drop off).take (es.length * sz') = xs := g6
      have hxs : xs.length = es.length * sz' := ho.1
      have hbb : b = b' := by rw [g1'] at hb; simp [blk] at hb; exact hb.symm
      subst hbb
      have hoff : offV v = off := by rw [g1']; rfl
      rw [hoff] at hev
      have hin : (i + m) * sz' ≤ es.length * sz' := Nat.mul_le_mul_right _ him
      have hin2 : es.length * sz' ≤ cap * sz' := Nat.mul_le_mul_right _ g3
      have hZ : (Builtin.zeroCells z.cells m).toList = (List.replicate m z.cells.toList).flatten := by
        have := zero_flat z m sz' he.zsize he.pos
        rw [← this]
        simp [Builtin.zeroCells, he.zsize]
      have hZl : (List.replicate m z.cells.toList).flatten.length = m * sz' := by
        rw [← hZ]; simp [Builtin.zeroCells, he.zsize]
      have e1 : (i + m) * sz' = i * sz' + m * sz' := Nat.add_mul ..
      have hrun := run_storeCells (P := P) (List.replicate m z.cells.toList).flatten w cur.toList e fz b (off + i * sz') 0 (by simpa using g2) (by simpa using gz) (by rw [hZl]; simp only [Array.length_toList]; omega) (zeros_one he.one m)
      have hex : (execOp a.eval ⟨d, .call { callee := .builtin .clear, args := #[x], argTypes := at' }, ty, pos, aft, g⟩).run P w = .ok (.value (.tuple #[])) (setBlk w b (.cells (splice cur.toList (off + i * sz' + 0) (List.replicate m z.cells.toList).flatten).toArray e fz)) := by
        obtain ⟨m', rfl⟩ : ∃ m', m = m' + 1 := ⟨m - 1, by omega⟩
        simp [execOp, resolve, invoke, builtin, Builtin.clear_, hat, run_underlying ht, hev, he.zero, hZ, hrun]
      simp only [Oper.wp, hex, Oper.upon]
      have hZA : (List.replicate m (zeroA z)).flatten.length = m * sz' := by
        have := (zeros_rep (M := M) (ι := ι) z m).len; rw [this, hZl]
      have hes : ∀ y ∈ es.take i ++ List.replicate m (zeroA z) ++ es.drop (i + m), y.length = sz' := by
        intro y hy
        simp only [List.mem_append] at hy
        rcases hy with (hy | hy) | hy
        · exact hs' y (List.mem_of_mem_take hy)
        · rw [(List.mem_replicate.1 hy).2]; simp [zeroA, he.zsize]
        · exact hs' y (List.mem_of_mem_drop hy)
      have hsx : splice xs (i * sz') (List.replicate m z.cells.toList).flatten = xs.take (i * sz') ++ (List.replicate m z.cells.toList).flatten ++ xs.drop ((i + m) * sz') := by
        rw [splice_mid _ _ _ (by rw [hZl, hxs]; omega), hZl, e1]
      have hll : (es.take i ++ List.replicate m (zeroA z) ++ es.drop (i + m)).length = es.length := by simp; omega
      have key := hi.upd (ob := .row e sz' es) (ob' := .row e sz' (es.take i ++ List.replicate m (zeroA z) ++ es.drop (i + m))) (obj := .cells (splice cur.toList (off + i * sz' + 0) (List.replicate m z.cells.toList).flatten).toArray e fz) (d := none) hk h1 hb ⟨splice xs (i * sz') (List.replicate m z.cells.toList).flatten, rfl, ⟨by rw [splice_length, hll]; exact hxs, .inr ⟨b, off, cap, _, by rw [hll]; exact g1', ⟨fz, setBlk_at g2, by simpa [splice_length] using gz⟩, by rw [hll]; exact g3, g4, by simpa [splice_length] using g5', ?_⟩⟩, hes, ?_, mem_splice _ _ _ _ h4 (zeros_one he.one m)⟩
      · exact hK _ M ι _ _ rfl (put _ _ key hd)
      · rw [hll]
        simp only [Nat.add_zero]
        rw [drop_splice, take_splice _ _ _ _ (by rw [hZl]; omega), g6']
      · rw [hsx, List.flatten_append, List.flatten_append, flatten_take _ hs', flatten_drop' _ hs']
        exact ((h2.take _).append (zeros_rep z m)).append (h2.drop _)

/-- A string is gone through. -/
theorem Does.rangeS {t : TypeId} {x : Operand} {s : List UInt8} (ht : P.underlying t = some .string) (hx : st.ev x = some (.lit (str s))) (hd : fits d st.n = true := by rfl) :
    Does P ⟨d, .range t x, ty, pos, aft, g⟩ st (· = { st with H := (st.nx, .iter s 0) :: st.H, nx := st.nx + 1 }.set d (.one (.obj st.nx))) := by
  refine ⟨fun G M ι a w hi K Q hK => ?_⟩
  have hex : (execOp a.eval ⟨d, .range t x, ty, pos, aft, g⟩).run P w = .ok (.value (.pointer (some ⟨w.heap.size, 0, none⟩))) (w.alloc (.stringIter ⟨s.toArray⟩ 0)) := by
    simp [execOp, ev_lit hi hx, Instr.range, run_underlying ht, str, Result.andThen]
  simp only [Oper.wp, hex, Oper.upon]
  exact hK _ M _ _ _ rfl (hi.laid (x := (.pointer (some ⟨w.heap.size, 0, none⟩), 0)) (ob := .iter s 0) (.stringIter ⟨s.toArray⟩ 0) rfl rfl (fun ι' _ => ⟨w.heap.size, rfl, alloc_at _ _⟩) hd ⟨0, by simp [iset]⟩)
/-- The rune at a position of a string, and its width. -/
def runeAt (s : List UInt8) (i : Nat) : Int × Nat := (((Utf8.decode ⟨s.toArray⟩ i).1 : Int), (Utf8.decode ⟨s.toArray⟩ i).2)
theorem iter_at {G : Gh} {M : Mem} {ι : Iota} {a : Act} {w : World} (hi : Inv G M ι st a w) {k o i : Nat} {s : List UInt8} (hk : st.H[k]? = some (o, .iter s i)) {x : Operand} (hx : st.ev x = some (.one (.obj o))) :
    ∃ b sz, a.eval x = .pointer (some ⟨b, 0, none⟩) ∧ ι o = some (.pointer (some ⟨b, 0, none⟩), sz) ∧ w.heap[b]? = some (.stringIter ⟨s.toArray⟩ i) := by
  obtain ⟨sz, h⟩ := hi.ev hx
  obtain ⟨y, hy, b, h1, h2⟩ := hi.core.ob _ (getElem?_mem hk)
  rw [h] at hy; cases hy
  simp only at h1
  exact ⟨b, sz, h1, by rw [h, h1], h2⟩
theorem Does.nextT {ty' : TypeId} {x : Operand} {o i : Nat} {s : List UInt8} (k : Nat) (hk : st.H[k]? = some (o, .iter s i)) (hx : st.ev x = some (.one (.obj o))) (hlt : i < s.length) (hd : fits d st.n = true := by rfl) :
    Does P ⟨d, .next x true, ty', pos, aft, g⟩ st (· = { st with H := st.H.set k (o, .iter s (i + (runeAt s i).2)) }.set d (.tup [.one (.c (.lit (.bool true))), .one (.c (.lit (.int .i64 i))), .one (.c (.lit (.int .i32 (runeAt s i).1)))])) := by
  refine ⟨fun G M ι a w hi K Q hK => ?_⟩
  obtain ⟨b, sz, he, hio, hb⟩ := iter_at hi hk hx
  have hsz : (ByteArray.mk s.toArray).size = s.length := by simp [ByteArray.size]
  have hex : (execOp a.eval ⟨d, .next x true, ty', pos, aft, g⟩).run P w = .ok (.value (.tuple #[.bool true, .int .i64 i, .int .i32 (runeAt s i).1])) (setBlk w b (.stringIter ⟨s.toArray⟩ (i + (runeAt s i).2))) := by
    simp [execOp, he, Instr.next, getObj, setObj, Sem.run, hb, hsz, hlt, goInt, runeAt, setBlk, Result.andThen]
  simp only [Oper.wp, hex, Oper.upon]
  have key := hi.upd (ob := .iter s i) (ob' := .iter s (i + (runeAt s i).2)) (obj := .stringIter ⟨s.toArray⟩ (i + (runeAt s i).2)) (d := none) hk hio rfl ⟨b, rfl, setBlk_at hb⟩
  exact hK _ M ι _ _ rfl (Inv.put key (fits_spec hd) (v := .tup [.one (.c (.lit (.bool true))), .one (.c (.lit (.int .i64 i))), .one (.c (.lit (.int .i32 (runeAt s i).1)))]) ⟨[_, _, _], rfl, RepC.lit _, RepC.lit _, RepC.lit _, trivial⟩)
theorem Flo.nextF {ty' : TypeId} {x : Operand} {o i : Nat} {s : List UInt8} (k : Nat) (hk : st.H[k]? = some (o, .iter s i)) (hx : st.ev x = some (.one (.obj o))) (hlt : ¬ i < s.length) :
    Flo P ⟨d, .next x true, ty', pos, aft, g⟩ st (.tup [.one (.c (.lit (.bool false)))]) := by
  intro G M ι a w hi
  obtain ⟨b, sz, he, hio, hb⟩ := iter_at hi hk hx
  have hsz : (ByteArray.mk s.toArray).size = s.length := by simp [ByteArray.size]
  refine ⟨.tuple #[.bool false], fun w' hs => ?_, [.bool false], rfl, RepC.lit _, trivial⟩
  have hb' : w'.heap[b]? = some (.stringIter ⟨s.toArray⟩ i) := by rw [hs.2 _ (getElem?_mem hk) _ b hio rfl]; exact hb
  simp [execOp, he, Instr.next, getObj, Sem.run, hb', hsz, hlt, Result.andThen]
end
end Go.Fl
