/- Steps over states: values built out of parts, slices made, appends, parts of strings and slices. Lemmas alone. -/
import Derived.Test.YtlaommikkfojfaaGreatDoorFlEff
namespace Go.Fl
open Go

def fillA (place : Nat → Option (Nat × Nat)) (cells : List A) : List (Nat × List A) → Option (List A)
  | [] => some cells
  | (i, v) :: rest =>
    match place i with
    | none => none
    | some (off, size) => if v.length ≠ size || off + v.length > cells.length then none else fillA place (spliceA cells off v) rest

theorem foldl_splice : ∀ (vs : List Value) (cs : Array Value) (off k : Nat), (vs.zipIdx k).foldl (fun cs (x : Value × Nat) => cs.setIfInBounds (off + x.2) x.1) cs = (splice cs.toList (off + k) vs).toArray
  | [], cs, off, k => by simp [splice]
  | v :: vs, cs, off, k => by
    simp only [List.zipIdx_cons, List.foldl_cons, splice]
    rw [foldl_splice vs _ off (k + 1)]
    simp [Nat.add_assoc]

/-- The parts of a composite, each with its cells. -/
def Parts (M : Mem) (ι : Iota) (ps : List (Nat × List A)) (us : List (Nat × Value)) : Prop := All2 (fun (p : Nat × List A) (u : Nat × Value) => p.1 = u.1 ∧ All2 (RepA M ι) p.2 u.2.cells.toList) ps us

theorem fill_rep {M : Mem} {ι : Iota} {place : Nat → Option (Nat × Nat)} : ∀ {ps : List (Nat × List A)} {us : List (Nat × Value)} {cells : List A} {cs : Array Value} {r : List A}, Parts M ι ps us → All2 (RepA M ι) cells cs.toList → fillA place cells ps = some r →
    ∃ c, Instr.fill place cs us = some c ∧ All2 (RepA M ι) r c.toList ∧ (∀ p : Value → Prop, (∀ x ∈ cs.toList, p x) → (∀ u ∈ us, ∀ x ∈ u.2.cells.toList, p x) → ∀ x ∈ c.toList, p x)
  | [], [], cells, cs, r, _, h2, h => by simp [fillA] at h; subst h; exact ⟨cs, rfl, h2, fun p h _ => h⟩
  | (i, v) :: ps, (i', u) :: us, cells, cs, r, h1, h2, h => by
    obtain ⟨⟨he, hv⟩, h1⟩ := h1
    simp only at he hv; subst he
    simp only [fillA] at h
    cases hp : place i with
    | none => rw [hp] at h; cases h
    | some os =>
      obtain ⟨off, size⟩ := os
      rw [hp] at h
      simp only at h
      split at h
      · cases h
      · rename_i hc
        simp only [Bool.or_eq_true, decide_eq_true_eq, not_or] at hc
        have hl1 := hv.len
        have hl2 := h2.len
        obtain ⟨c, e1, e2, e3⟩ := fill_rep (place := place) (cs := (splice cs.toList off u.cells.toList).toArray) h1 (by simpa using h2.splice off hv) h
        refine ⟨c, ?_, e2, fun p q1 q2 => e3 p ?_ fun x hx => q2 x (List.mem_cons_of_mem _ hx)⟩
        · simp only [Instr.fill, hp]
          rw [if_neg]
          · have := foldl_splice u.cells.toList cs off 0
            simp only [Nat.add_zero] at this
            rw [← this] at e1
            rw [← e1, ← Array.foldl_toList, Array.toList_zipIdx]
          · simp only [Array.length_toList] at hl1 hl2
            simp only [Bool.or_eq_true, decide_eq_true_eq, not_or]
            omega
        · simpa using mem_splice _ _ _ p q1 (q2 _ List.mem_cons_self)
  | [], _ :: _, _, _, _, h, _, _ => h.elim
  | _ :: _, [], _, _, _, h, _, _ => h.elim

/-- What is known of an element's type. -/
structure ElemT (P : Program) (e : TypeId) (sz bytes : Nat) (z : Value) : Prop where
  info : ∃ i, P.info? e = some i ∧ i.zero = some z ∧ i.size = sz ∧ i.bytes = bytes
  zsize : z.cells.size = sz
  pos : 0 < sz
  one : ∀ x ∈ z.cells.toList, x.oneCell' = true
theorem ElemT.size {P : Program} {e : TypeId} {sz bytes : Nat} {z : Value} (h : ElemT P e sz bytes z) (w : World) : (sizeOf e).run P w = .ok sz w := by
  obtain ⟨i, h1, h2, rfl, _⟩ := h.info
  simp [sizeOf, typeInfo, h1]
theorem ElemT.zero {P : Program} {e : TypeId} {sz bytes : Nat} {z : Value} (h : ElemT P e sz bytes z) (w : World) : (zeroValue e).run P w = .ok z w := by
  obtain ⟨i, h1, h2, _, _⟩ := h.info
  simp [zeroValue, typeInfo, h1, h2]

theorem ElemT.of {P : Program} {e : TypeId} {sz bytes : Nat} {z : Value} (h : (P.info? e).map (fun i => (i.zero, i.size, i.bytes)) = some (some z, sz, bytes)) (h1 : z.cells.size = sz) (h2 : 0 < sz) (h3 : z.cells.toList.all Value.oneCell' = true) : ElemT P e sz bytes z := by
  cases hi : P.info? e with
  | none => rw [hi] at h; cases h
  | some i =>
    rw [hi] at h
    simp only [Option.map_some, Option.some.injEq, Prod.mk.injEq] at h
    exact ⟨⟨i, hi, h.1, h.2.1, h.2.2⟩, h1, h2, fun x hx => List.all_eq_true.1 h3 x hx⟩

/-- What an append comes to. -/
structure Grew (w w' : World) (v v' : Value) : Prop where
  os : w'.os = w.os
  tape : w'.tape = w.tape
  output : w'.output = w.output
  size : w.heap.size ≤ w'.heap.size
  block : ∀ k, k < w.heap.size → blk v ≠ some k → w'.heap[k]? = w.heap[k]?
  new : ∀ b, blk v' = some b → blk v = some b ∨ w.heap.size ≤ b
  one : v'.oneCell' = true

/-- What is appended lies in memory. -/
def Source (w : World) (x : Value) (m sz : Nat) (news : List Value) : Prop :=
  ∃ p c, x = .slice p m c ∧ news.length = m * sz ∧ (m = 0 ∨ ∃ b k, p = some ⟨b, k, none⟩ ∧ ∀ (j : Nat) (u : Value), news[j]? = some u → w.cell? ⟨b, k + j, none⟩ = some u)

theorem run_append {P : Program} {w : World} {t ty e : TypeId} {z v x : Value} {sz bytes n m : Nat} {xs news : List Value} (ht : P.underlying t = some (.slice e)) (he : ElemT P e sz bytes z) (ho : Owns w e sz v n xs) (hs : Source w x m sz news) (h1 : ∀ u ∈ news, u.oneCell' = true)
    (hbytes : (n + m) * bytes ≤ 140737488355328) (hm : n + m ≤ 9223372036854775807) :
    ∃ v' w', (Builtin.append_ #[t, t] ty #[v, x]).run P w = .ok v' w' ∧ Owns w' e sz v' (n + m) (xs ++ news) ∧ Grew w w' v v' := by
  obtain ⟨i, hi, hz, rfl, rfl⟩ := he.info
  obtain ⟨p, c, rfl, hl, hsrc⟩ := hs
  have hzs := he.zsize
  have h63 : n + m ≤ maxLen := by unfold maxLen; omega
  have hlen : (xs ++ news).length = (n + m) * i.size := by rw [List.length_append, ho.1, hl, Nat.add_mul]
  have same : m = 0 → (xs ++ news) = xs := fun h => by subst h; simp at hl; simp [hl]
  by_cases hm0 : m = 0
  · subst hm0
    rw [same rfl]
    refine ⟨v, w, ?_, ho, ⟨rfl, rfl, rfl, Nat.le_refl _, fun _ _ _ => rfl, fun b hb => .inl hb, ?_⟩⟩
    · rcases ho.2 with ⟨rfl, rfl⟩ | ⟨g, off, cap, cur, rfl, _, hnc, _⟩
      · cases p <;> simp [Builtin.append_, run_underlying ht, sizeOf, typeInfo, hi, Builtin.lenOf, Builtin.firstCells, loadCells, loadCellsFrom]
      · cases p <;> simp [Builtin.append_, run_underlying ht, sizeOf, typeInfo, hi, Builtin.lenOf, Builtin.firstCells, loadCells, loadCellsFrom, storeCells, hnc]
    · rcases ho.2 with ⟨rfl, rfl⟩ | ⟨g, off, cap, cur, rfl, _⟩ <;> rfl
  obtain ⟨b, k, rfl, hnews'⟩ := hsrc.resolve_left hm0
  have hnews : ∀ (j : Nat) (u : Value), news[j]? = some u → w.cell? ((⟨b, k, none⟩ : Addr).add j) = some u := fun j u hu => by rw [addr_add]; exact hnews' j u hu
  have grown : ∀ (old : Nat), old < n + m →
      Owns (w.drew.alloc (.cells (xs.toArray ++ news.toArray ++ Builtin.zeroCells z.cells (grownCap w (n + m) old e - (n + m))) e)) e i.size (.slice (some ⟨w.heap.size, 0, none⟩) (n + m) (grownCap w (n + m) old e)) (n + m) (xs ++ news) ∧
      ∀ v, Grew w (w.drew.alloc (.cells (xs.toArray ++ news.toArray ++ Builtin.zeroCells z.cells (grownCap w (n + m) old e - (n + m))) e)) v (.slice (some ⟨w.heap.size, 0, none⟩) (n + m) (grownCap w (n + m) old e)) := by
    intro old hold
    have hge := grownCap_ge w (n + m) old e
    have hcm : grownCap w (n + m) old e ≤ maxLen := grownCap_le_maxLen w (n + m) old e h63
    refine ⟨⟨hlen, .inr ⟨w.heap.size, 0, _, _, rfl, ⟨_, heap_alloc_new w.drew _, Clear.zero _⟩, hge, hcm, ?_, ?_⟩⟩, fun v => ⟨rfl, rfl, rfl, by simp, fun q hq _ => (by show (w.heap.push _)[q]? = _; rw [Array.getElem?_push, if_neg (by omega)]), fun b hb => .inr (by simp [blk] at hb; omega), rfl⟩⟩
    · apply Nat.le_of_eq
      rw [Nat.zero_add]
      simp only [Array.size_append, List.size_toArray, size_zeroCells, hzs, ho.1, hl, ← Nat.add_mul]
      congr 1
      omega
    · simp only [Array.toList_append, List.append_assoc, List.drop_zero]
      rw [← List.append_assoc, ← hlen]
      exact List.take_left
  rcases ho.2 with ⟨rfl, rfl⟩ | ⟨g, off, cap, cur, rfl, ⟨fz, hg, hz'⟩, hnc, hcm, hcs, htake⟩
  · have hx : xs = [] := List.eq_nil_of_length_eq_zero (by simpa using ho.1)
    subst hx
    have hr := run_append_nil (P := P) w t ty e i z ht hi hz ⟨b, k, none⟩ m c news hl hnews (by omega) (by omega) (by have hb := hbytes; simp only [Nat.zero_add] at hb; omega)
    have hgr := grown 0 (by omega)
    simp only [Nat.zero_add, List.nil_append, Array.empty_append] at hgr ⊢
    exact ⟨_, _, hr, hgr.1, hgr.2 _⟩
  · by_cases hroom : n + m ≤ cap
    · have hfit : off + n * i.size + news.length ≤ cur.size := by
        rw [hl, Nat.add_assoc, ← Nat.add_mul]
        exact Nat.le_trans (Nat.add_le_add_left (Nat.mul_le_mul_right _ hroom) _) hcs
      have hcell : ∀ j, j < news.length → (w.cell? ⟨g, off + n * i.size + j, none⟩).isSome = true := fun j hj => by
        have : off + n * i.size + j < cur.size := by omega
        simp [World.cell?, hg, this]
      have hfro : ∀ j, j < news.length → w.frozen? ⟨g, off + n * i.size + j, none⟩ = false := fun j hj => by
        have := hz' (off + n * i.size + j) (by omega)
        simp only [World.frozen?, hg]
        simp only [Bool.and_eq_false_iff, decide_eq_false_iff_not]
        omega
      have hr := run_append_room_cells (P := P) (w := w) t ty e i ht hi g off n cap ⟨b, k, none⟩ m c news hl hnews h1 hroom hcell hfro
      rw [setCells_eq news w cur.toList e fz g (off + n * i.size) (by simpa using hg) (by simpa using (show off + n * i.size + news.length ≤ cur.size by omega))] at hr
      have hlen2 : (splice cur.toList (off + n * i.size) news).length = cur.size := by rw [splice_length]; simp
      refine ⟨_, _, hr, ⟨hlen, .inr ⟨g, off, cap, _, rfl, ⟨fz, setBlk_at hg, by simpa [splice_length] using hz'⟩, hroom, hcm, by simpa [splice_length] using hcs, ?_⟩⟩, ⟨rfl, rfl, rfl, by simp [setBlk], fun k _ hk => setBlk_other (fun e => hk (by simp [blk, e])), fun b hb => .inl hb, rfl⟩⟩
      have key : ∀ (vs cur : List Value) (k : Nat), k + vs.length ≤ cur.length → (splice cur k vs).take (k + vs.length) = cur.take k ++ vs := by
        intro vs
        induction vs with
        | nil => intro cur k _; simp [splice]
        | cons x vs ih =>
          intro cur k h
          simp only [List.length_cons] at h
          simp only [splice, List.length_cons]
          rw [show k + (vs.length + 1) = k + 1 + vs.length by omega, ih _ _ (by simp; omega), List.take_succ_eq_append_getElem (by simp; omega)]
          simp [List.take_set_of_le]
      have := key news (cur.toList.drop off) (n * i.size) (by simp; omega)
      rw [hl, ← Nat.add_mul] at this
      rw [htake] at this
      rw [← this]
      congr 1
      exact drop_splice _ _ _ _
    · have holds : ∀ (j : Nat) (u : Value), xs[j]? = some u → w.cell? ((⟨g, off, none⟩ : Addr).add j) = some u := fun j u hu => by
        rw [addr_add]; exact owns_cell ho rfl hu
      have hr := run_append_grow (P := P) w t ty e i z ht hi hz ⟨g, off, none⟩ n cap xs ho.1 holds ⟨b, k, none⟩ m c news hl hnews (by omega) (by omega) (growslice_fits (by omega) hbytes)
      have hgr := grown cap (by omega)
      exact ⟨_, _, hr, hgr.1, hgr.2 _⟩

section
variable {P : Program} {st : St} {d : Option Nat} {ty : TypeId} {pos : String} {aft : Array Edge} {g : Option (Nat × Bool)}

/-- The operands of a composite's parts, in a state. -/
def partsOf (st : St) : List (Nat × Operand) → Option (List (Nat × V1))
  | [] => some []
  | (i, x) :: r => match st.ev x, partsOf st r with
    | some (.v v), some l => some ((i, v) :: l)
    | _, _ => none

theorem parts_rep {G : Gh} {M : Mem} {ι : Iota} {a : Act} {w : World} (hi : Inv G M ι st a w) : ∀ {ps : List (Nat × Operand)} {vs : List (Nat × V1)}, partsOf st ps = some vs → vs.all (fun v => v.2.flat) = true →
    Parts M ι (vs.map fun v => (v.1, v.2.cells)) (ps.map fun p => (p.1, a.eval p.2)) ∧ ∀ u ∈ ps.map fun p => (p.1, a.eval p.2), ∀ x ∈ u.2.cells.toList, x.oneCell' = true
  | [], vs, h, _ => by simp [partsOf] at h; subst h; exact ⟨trivial, by simp⟩
  | (i, x) :: ps, vs, h, hf => by
    simp only [partsOf] at h
    split at h
    · rename_i v l hx hl
      simp at h; subst h
      simp only [List.all_cons, Bool.and_eq_true] at hf
      obtain ⟨c1, c2, _⟩ := val_cells hi.core (hi.ev hx) hf.1
      obtain ⟨r1, r2⟩ := parts_rep hi hl hf.2
      exact ⟨⟨⟨rfl, c1⟩, r1⟩, by
        intro u hu
        simp only [List.map_cons, List.mem_cons] at hu
        rcases hu with rfl | hu
        · exact c2
        · exact r2 u (by simpa using hu)⟩
    · cases h

/-- Where the fields of a struct type lie, with their sizes. -/
def Places (P : Program) (t : TypeId) (z : Value) (ps : List (Nat × Nat)) : Prop :=
  (∀ w, (zeroValue t).run P w = .ok z w) ∧ ∃ fs, P.underlying t = some (.struct fs) ∧ ∀ w, (fs.mapM fun f => Prod.mk f.offset <$> sizeOf f.type).run P w = .ok ps.toArray w

theorem Flo.build {t : TypeId} {z : Value} {pl : List (Nat × Nat)} {ps : Array (Nat × Operand)} {vs : List (Nat × V1)} {r : List A} (ht : Places P t z pl) (hp : partsOf st ps.toList = some vs) (hf : vs.all (fun v => v.2.flat) = true) (hr : fillA (fun i => pl[i]?) (z.cells.toList.map fun x => .c (.lit x)) (vs.map fun v => (v.1, v.2.cells)) = some r) : Flo P ⟨d, .build t ps, ty, pos, aft, g⟩ st (.agg r) :=
  fun G M ι a w hi => by
    obtain ⟨hz, fs, h1, h2⟩ := ht
    obtain ⟨c1, c2⟩ := parts_rep hi hp hf
    obtain ⟨c, e1, e2, _⟩ := fill_rep c1 (All2.lits z.cells.toList) hr
    refine ⟨.agg c, fun _ _ => ?_, c.toList, by simp, e2⟩
    simp [execOp, Instr.build, hz, run_underlying h1, h2, e1]
theorem Does.build {t : TypeId} {z : Value} {pl : List (Nat × Nat)} {ps : Array (Nat × Operand)} {vs : List (Nat × V1)} {r : List A} (ht : Places P t z pl) (hp : partsOf st ps.toList = some vs) (hf : vs.all (fun v => v.2.flat) = true)
    (hr : fillA (fun i => pl[i]?) (z.cells.toList.map fun x => .c (.lit x)) (vs.map fun v => (v.1, v.2.cells)) = some r) (hd : fits d st.n = true := by rfl) :
    Does P ⟨d, .build t ps, ty, pos, aft, g⟩ st (· = st.set d (.agg r)) := (Flo.build ht hp hf hr).does hd
theorem fillA_all : ∀ (vs : List (List A)) (sz i n : Nat) (cells : List A), (∀ v ∈ vs, v.length = sz) → cells.length = n * sz → i + vs.length = n →
    fillA (fun i => some (i * sz, sz)) cells ((vs.zipIdx i).map fun p => (p.2, p.1)) = some (cells.take (i * sz) ++ vs.flatten)
  | [], sz, i, n, cells, _, hc, hi => by
    simp at hi; subst hi
    simp [fillA, ← hc]
  | v :: vs, sz, i, n, cells, hs, hc, hi => by
    have hv := hs v List.mem_cons_self
    simp only [List.length_cons] at hi
    have hle : i * sz + sz ≤ n * sz := by rw [← Nat.succ_mul]; exact Nat.mul_le_mul_right _ (by omega)
    simp only [List.zipIdx_cons, List.map_cons, fillA]
    rw [if_neg (by simp [hv, hc]; omega)]
    rw [fillA_all vs sz (i + 1) n _ (fun x hx => hs x (List.mem_cons_of_mem _ hx)) (by rw [spliceA_length]; exact hc) (by omega)]
    have key : ∀ (vs cur : List A) (k : Nat), k + vs.length ≤ cur.length → (spliceA cur k vs).take (k + vs.length) = cur.take k ++ vs := by
      intro vs
      induction vs with
      | nil => intro cur k _; simp [spliceA]
      | cons x vs ih =>
        intro cur k h
        simp only [List.length_cons] at h
        simp only [spliceA, List.length_cons]
        rw [show k + (vs.length + 1) = k + 1 + vs.length by omega, ih _ _ (by simp; omega), List.take_succ_eq_append_getElem (by simp; omega)]
        simp [List.take_set_of_le]
    have := key v cells (i * sz) (by omega)
    rw [hv] at this
    rw [Nat.succ_mul, this]
    simp

theorem Does.buildSlice {t e : TypeId} {z : Value} {sz bytes n : Nat} {ps : Array (Nat × Operand)} {vs : List V1} (ht : P.underlying t = some (.slice e)) (he : ElemT P e sz bytes z)
    (hp : partsOf st ps.toList = some ((vs.zipIdx 0).map fun p => (p.2, p.1))) (hf : vs.all V1.flat = true) (hl : vs.all (fun v => v.cells.length == sz) = true) (hn : vs.length = n) (hb : n * sz ≤ 16777216) (hne : n ≠ 0) (hd : fits d st.n = true := by rfl) :
    Does P ⟨d, .buildSlice t n ps, ty, pos, aft, g⟩ st (· = { st with H := (st.nx, .row e sz (vs.map V1.cells)) :: st.H, nx := st.nx + 1 }.set d (.one (.obj st.nx))) := by
  refine ⟨fun G M ι a w hi K Q hK => ?_⟩
  have h0 : sz ≠ 0 := Nat.pos_iff_ne_zero.1 he.pos
  have hz := he.zero
  have hsz := he.size
  have hzs := he.zsize
  have hf' : ((vs.zipIdx 0).map fun p => (p.2, p.1)).all (fun v => v.2.flat) = true := by
    rw [List.all_eq_true] at hf ⊢
    intro x hx
    obtain ⟨p, hp, rfl⟩ := List.mem_map.1 hx
    exact hf p.1 (by have := (List.mem_zipIdx' hp).2; rw [this]; exact List.getElem_mem _)
  obtain ⟨c1, c2⟩ := parts_rep hi hp hf'
  have hsame : ∀ x ∈ vs.map V1.cells, x.length = sz := by
    intro x hx
    obtain ⟨v, hv, rfl⟩ := List.mem_map.1 hx
    exact by simpa using List.all_eq_true.1 hl v hv
  have hfill := fillA_all (vs.map V1.cells) sz 0 n (((List.range (n * sz)).map fun q => z.cells[q % z.cells.size]!).map fun x => A.c (.lit x)) hsame (by simp) (by simpa using hn)
  simp only [Nat.zero_mul, List.take_zero, List.nil_append] at hfill
  have hmap : ((vs.zipIdx 0).map fun p => (p.2, p.1)).map (fun v => (v.1, v.2.cells)) = ((vs.map V1.cells).zipIdx 0).map fun p => (p.2, p.1) := by
    simp [List.zipIdx_map, Function.comp_def]
  rw [hmap] at c1
  obtain ⟨c, e1, e2, e3⟩ := fill_rep c1 (cs := (Array.range (n * sz)).map fun q => z.cells[q % z.cells.size]!) (by simpa [List.map_map] using All2.lits (((List.range (n * sz)).map fun q => z.cells[q % z.cells.size]!))) hfill
  have hns : n * sz ≠ 0 := Nat.mul_ne_zero hne h0
  have hrun : (execOp a.eval ⟨d, .buildSlice t n ps, ty, pos, aft, g⟩).run P w = .ok (.value (.slice (some ⟨w.heap.size, 0, none⟩) n n)) (w.alloc (.cells c e (0, 0))) := by
    have hb' : ¬ n * sz > 2 ^ 24 := by simp; omega
    simp only [execOp, Instr.buildSlice, Sem.run_bind, run_underlying ht, Result.andThen_ok, hsz]
    rw [if_neg hb', if_neg hns]
    simp [hz, e1, newRow]
  simp only [Oper.wp, hrun, Oper.upon]
  have hlen := e2.len
  rw [List.length_flatten, List.map_map] at hlen
  have hsum : (vs.map (List.length ∘ V1.cells)).sum = n * sz := by
    have : vs.map (List.length ∘ V1.cells) = List.replicate n sz := by
      rw [List.eq_replicate_iff]
      refine ⟨by simpa using hn, fun b hb => ?_⟩
      obtain ⟨v, hv, rfl⟩ := List.mem_map.1 hb
      exact hsame _ (List.mem_map_of_mem hv)
    rw [this]; simp
  rw [hsum] at hlen
  refine hK _ M _ _ _ rfl (hi.laid (x := (.slice (some ⟨w.heap.size, 0, none⟩) n n, sz)) (ob := .row e sz (vs.map V1.cells)) (.cells c e (0, 0)) rfl rfl (fun ι' hle => ⟨c.toList, rfl, ⟨?_, .inr ⟨w.heap.size, 0, n, c, ?_, ⟨_, alloc_at _ _, Clear.zero _⟩, ?_, ?_, ?_, ?_⟩⟩, hsame, e2.mono fun _ _ => RepA.mono (.refl _) hle, ?_⟩) hd ⟨sz, by simp [iset]⟩)
  · simp [hn, ← hlen]
  · simp [hn]
  · simp [hn]
  · have : n ≤ n * sz := Nat.le_mul_of_pos_right n (Nat.pos_of_ne_zero h0)
    unfold maxLen; omega
  · simpa using Nat.le_of_eq hlen
  · simp only [List.length_map, hn, List.drop_zero]
    rw [List.take_of_length_le]
    simp [← hlen]
  · refine e3 _ (fun x hx => ?_) c2
    simp only [Array.toList_map, List.mem_map] at hx
    obtain ⟨q, _, rfl⟩ := hx
    have hlt : q % z.cells.size < z.cells.size := Nat.mod_lt _ (by rw [hzs]; exact he.pos)
    rw [getElem!_pos z.cells _ hlt]
    exact he.one _ (Array.getElem_mem_toList hlt)

/-- The elements that a value of a state holds as a slice. -/
def Holds (st : St) (a : A) (sz : Nat) (es : List (List A)) : Prop :=
  ∀ G M ι ac w, Inv G M ι st ac w → ∀ u, RepA M ι a u → ∃ news, Source w u es.length sz news ∧ (∀ y ∈ es, y.length = sz) ∧ All2 (RepA M ι) es.flatten news ∧ (∀ u ∈ news, u.oneCell' = true)

theorem Holds.obj {o sz : Nat} {e : TypeId} {es : List (List A)} (k : Nat) (hk : st.H[k]? = some (o, .row e sz es)) : Holds st (.obj o) sz es := by
  intro G M ι ac w hi u hu
  obtain ⟨x, hx, xs, h0, ho, h1, h2, h3⟩ := hi.core.ob _ (getElem?_mem hk)
  obtain ⟨sz', hu⟩ := hu
  rw [hx] at hu; cases hu
  simp only at h0; subst h0
  refine ⟨xs, ?_, h1, h2, h3⟩
  rcases ho.2 with ⟨hv, hn⟩ | ⟨g, off, cap, cur, hv, hh, _⟩
  · exact ⟨none, 0, by rw [hn]; exact hv, ho.1, .inl hn⟩
  · exact ⟨_, cap, hv, ho.1, .inr ⟨g, off, rfl, fun j u hu => by
      have h9 := owns_cell ho (b := g) (by rw [hv]; rfl) hu
      rw [hv] at h9
      exact h9⟩⟩

/-- The cells of a closed slice, in a row. -/
def grid (u : Nat → Nat → Value) (sz : Nat) : Nat → Nat → List Value
  | _, 0 => []
  | i, n + 1 => (List.range sz).map (u i) ++ grid u sz (i + 1) n
theorem grid_length (u : Nat → Nat → Value) (sz : Nat) : ∀ n i, (grid u sz i n).length = n * sz
  | 0, _ => by simp [grid]
  | n + 1, i => by simp only [grid, List.length_append, List.length_map, List.length_range, grid_length u sz n, Nat.succ_mul]; omega
theorem grid_get (u : Nat → Nat → Value) (sz : Nat) : ∀ n i q x, (grid u sz i n)[q]? = some x → ∃ i' j, i' < n ∧ j < sz ∧ q = i' * sz + j ∧ x = u (i + i') j
  | 0, _, q, x, h => by simp [grid] at h
  | n + 1, i, q, x, h => by
    simp only [grid] at h
    rcases Nat.lt_or_ge q sz with hq | hq
    · rw [List.getElem?_append_left (by simpa using hq), List.getElem?_map, List.getElem?_range hq] at h
      simp at h
      exact ⟨0, q, by omega, hq, by simp, by simpa using h.symm⟩
    · rw [List.getElem?_append_right (by simpa using hq)] at h
      obtain ⟨i', j, h1, h2, h3, h4⟩ := grid_get u sz n (i + 1) _ x h
      simp only [List.length_map, List.length_range] at h3
      exact ⟨i' + 1, j, by omega, h2, by rw [Nat.succ_mul]; omega, by rw [h4]; congr 1; omega⟩
theorem grid_rep {M : Mem} {ι : Iota} (u : Nat → Nat → Value) (sz : Nat) : ∀ (es : List (List C)) (i : Nat), (∀ e ∈ es, e.length = sz) → (∀ q e j x, es[q]? = some e → e[j]? = some x → RepC M x (u (i + q) j)) →
    All2 (RepA M ι) (es.map fun e => e.map A.c).flatten (grid u sz i es.length)
  | [], _, _, _ => trivial
  | e :: es, i, hs, h => by
    have he := hs e List.mem_cons_self
    simp only [List.map_cons, List.flatten_cons, List.length_cons, grid]
    refine All2.append (All2.of_get (by simp [he]) fun j a b ha hb => ?_) (grid_rep u sz es (i + 1) (fun x hx => hs x (List.mem_cons_of_mem _ hx)) fun q e' j x h1 h2 => by
      have := h (q + 1) e' j x (by simpa using h1) h2
      rwa [show i + 1 + q = i + (q + 1) by omega])
    rw [List.getElem?_map] at ha hb
    cases hc : e[j]? with
    | none => rw [hc] at ha; cases ha
    | some c =>
      rw [hc] at ha; simp at ha; subst ha
      have hj : j < sz := by
        rcases Nat.lt_or_ge j sz with h' | h'
        · exact h'
        · rw [List.getElem?_eq_none (by omega)] at hc; cases hc
      rw [List.getElem?_range hj] at hb; simp at hb; subst hb
      exact h 0 e j c rfl hc

/-- An object's cells, that are all closed. -/
def clos (es : List (List C)) : List (List A) := es.map fun e => e.map A.c
theorem Holds.ro {sz : Nat} {cl : Bool} {es : List (List C)} : Holds st (.c (.ro sz cl es)) sz (clos es) := by
  intro G M ι ac w hi u hu
  cases hu with
  | nil sz cl p c hp hcl hm => exact ⟨[], ⟨p, c, by simp [clos], by simp [clos], .inl rfl⟩, by simp [clos], trivial, by simp⟩
  | ro sz cl es b off c u hne hsz hc hm hcl hu hr =>
    have cell : ∀ (q : Nat) (x : Value), (grid u sz 0 es.length)[q]? = some x → w.cell? ⟨b, off + q, none⟩ = some x ∧ x.oneCell' = true := by
      intro q x hx
      obtain ⟨i, j, h1, h2, rfl, rfl⟩ := grid_get u sz _ _ _ _ hx
      have he := hsz _ (List.getElem_mem h1)
      rw [Nat.zero_add]
      exact hi.core.mem _ _ _ (hu i _ j _ (List.getElem?_eq_getElem h1) (List.getElem?_eq_getElem (by omega)))
    refine ⟨grid u sz 0 es.length, ⟨_, c, by simp [clos], by simp [grid_length, clos], .inr ⟨b, off, rfl, fun j x hx => (cell j x hx).1⟩⟩, ?_, grid_rep u sz es 0 hsz (fun q e j x h1 h2 => by rw [Nat.zero_add]; exact hr q e j x h1 h2), fun x hx => ?_⟩
    · intro y hy
      obtain ⟨e, he, rfl⟩ := List.mem_map.1 hy
      simp [hsz e he]
    · obtain ⟨q, hq⟩ := List.getElem?_of_mem hx
      exact (cell q x hq).2

theorem InvH.other {M : Mem} {ι : Iota} {H : List (Nat × Ob)} {nx : Nat} {w : World} (h : InvH M ι H nx w) {k o b : Nat} {ob : Ob} {x : Value × Nat} (hk : H[k]? = some (o, ob)) (hx : ι o = some x) (hb : blk x.1 = some b) :
    ∀ p ∈ H.eraseIdx k, ∀ y, ι p.1 = some y → blk y.1 ≠ some b := by
  have hkl : k < H.length := by
    rcases Nat.lt_or_ge k H.length with h' | h'
    · exact h'
    · simp [List.getElem?_eq_none h'] at hk
  have hHk : H[k] = (o, ob) := by rw [List.getElem?_eq_getElem hkl] at hk; simpa using hk
  have hsep := List.pairwise_iff_getElem.1 h.sep
  intro p hp y hy he
  obtain ⟨i, hi, hne, rfl⟩ := List.mem_eraseIdx_iff_getElem.1 hp
  rcases Nat.lt_or_gt_of_ne hne with hlt | hgt
  · exact hsep i k hi hkl hlt y x b hy (by rw [hHk]; exact hx) he hb
  · exact hsep k i hkl hi hgt x y b (by rw [hHk]; exact hx) hy hb he

theorem Does.append {t e : TypeId} {x y : Operand} {at' : Array TypeId} {z : Value} {o sz bytes : Nat} {es news : List (List A)} {a' : A} (k : Nat) (hk : st.H[k]? = some (o, .row e sz es)) (ht : P.underlying t = some (.slice e)) (he : ElemT P e sz bytes z) (hx : st.ev x = some (.one (.obj o)))
    (hy : st.ev y = some (.one a')) (hh : Holds st a' sz news) (hb : (es.length + news.length) * bytes ≤ 140737488355328) (hm : es.length + news.length ≤ 9223372036854775807) (hat : at' = #[t, t] := by rfl) (hd : fits d st.n = true := by rfl) :
    Does P ⟨d, .call { callee := .builtin .append, args := #[x, y], argTypes := at' }, ty, pos, aft, g⟩ st (· = { st with H := (st.nx, .row e sz (es ++ news)) :: st.H.eraseIdx k, nx := st.nx + 1 }.set d (.one (.obj st.nx))) := by
  refine ⟨fun G M ι a w hi K Q hK => ?_⟩
  subst hat
  obtain ⟨q, hq, xs, h0, ho, hs, h2, h1⟩ := hi.core.ob _ (getElem?_mem hk)
  obtain ⟨sz', hv⟩ := hi.ev hx
  rw [hq] at hv; cases hv
  simp only at h0; subst h0
  obtain ⟨ns, src, n1, n2, n3⟩ := hh G M ι a w hi _ (hi.ev hy)
  obtain ⟨v', w', hrun, ho', hg⟩ := run_append (P := P) (ty := ty) ht he ho src n3 hb hm
  have hex : (execOp a.eval ⟨d, .call { callee := .builtin .append, args := #[x, y], argTypes := #[t, t] }, ty, pos, aft, g⟩).run P w = .ok (.value v') w' := by
    simp only at hrun
    simp [execOp, resolve, invoke, builtin, hrun]
  simp only [Oper.wp, hex, Oper.upon]
  have hoth : ∀ b, blk (a.eval x) = some b → (∀ k, M b k = none) ∧ ∀ p ∈ st.H.eraseIdx k, ∀ y, ι p.1 = some y → blk y.1 ≠ some b := fun b hb =>
    ⟨hi.core.free _ (getElem?_mem hk) _ b hq hb, hi.core.other hk hq hb⟩
  have hsub : (st.H.eraseIdx k).Sublist st.H := List.eraseIdx_sublist ..
  have c1 : InvH M ι (st.H.eraseIdx k) st.nx w' := (hi.core.sub hsub).grown (row := blk (a.eval x)) (fun q hq hne => hg.block q hq fun e => hne e.symm) hoth
  have hle := ile_iset hi.core.dom (v', sz')
  have c2 : InvH M (iset ι st.nx (v', sz')) ((st.nx, .row e sz' (es ++ news)) :: st.H.eraseIdx k) (st.nx + 1) w' := by
    refine c1.add ⟨xs ++ ns, rfl, by simpa using ho', ?_, ?_, ?_⟩ hg.one fun b hb => ?_
    · intro y hy
      rcases List.mem_append.1 hy with hy | hy
      · exact hs y hy
      · exact n1 y hy
    · rw [List.flatten_append]
      exact (h2.mono fun _ _ => RepA.mono (.refl _) hle).append (n2.mono fun _ _ => RepA.mono (.refl _) hle)
    · intro u hu
      rcases List.mem_append.1 hu with hu | hu
      · exact h1 u hu
      · exact n3 u hu
    · rcases hg.new b hb with hb' | hb'
      · exact hoth b hb'
      · refine ⟨(hi.core.fresh hb').1, fun p hp => (hi.core.fresh hb').2 p (hsub.subset hp)⟩
  have hown : ∀ b, blk (a.eval x) = some b → G.X b ∨ G.w0.heap.size ≤ b := fun b hb => hi.own _ (getElem?_mem hk) _ b hq hb
  have hk' : Kept G.X G.w0 w' := hi.kept.trans (Y := fun b => blk (a.eval x) = some b) ⟨hg.os, hg.tape, hg.output, hg.size, fun q hq hne => hg.block q hq hne⟩ fun i hi' hy => (hown i hy).resolve_right (by omega)
  have hlt : ∀ p ∈ st.H, p.1 < st.nx := fun p hp => let ⟨y, hy, _⟩ := hi.core.ob p hp; hi.core.dom _ _ hy
  refine hK _ M _ _ _ rfl (hi.step (st' := { st with H := (st.nx, .row e sz' (es ++ news)) :: st.H.eraseIdx k, nx := st.nx + 1 }) (.refl _) hle (fits_spec hd) (v := .one (.obj st.nx)) (u := v') ⟨sz', by simp [iset]⟩ rfl rfl c2 hk' (fun p hp => ?_) ⟨hi.past.1.iset hi.past.2 _, Nat.le_succ_of_le hi.past.2⟩)
  rcases List.mem_cons.1 hp with rfl | hp
  · intro y b hy hb
    simp only [iset, if_true, Option.some.injEq] at hy; subst hy
    rcases hg.new b hb with hb' | hb'
    · exact hown b hb'
    · exact .inr (Nat.le_trans hi.kept.size hb')
  · intro y b hy hb
    have := hlt p (hsub.subset hp)
    simp only [iset] at hy
    rw [if_neg (by omega)] at hy
    exact hi.own p (hsub.subset hp) y b hy hb

/-- A nil slice that the call will append to is an object. -/
theorem Inv.virt {G : Gh} {M : Mem} {ι : Iota} {a : Act} {w : World} (h : Inv G M ι st a w) (e : TypeId) (sz : Nat) : Inv G M (iset ι st.nx (.slice none 0 0, sz)) { st with H := (st.nx, .row e sz []) :: st.H, nx := st.nx + 1 } a w := by
  have hle := ile_iset h.core.dom (.slice none 0 0, sz)
  have hlt : ∀ p ∈ st.H, p.1 < st.nx := fun p hp => let ⟨y, hy, _⟩ := h.core.ob p hp; h.core.dom _ _ hy
  refine ⟨h.core.add ⟨[], rfl, ⟨by simp, .inl ⟨rfl, rfl⟩⟩, by simp, trivial, by simp⟩ rfl (fun b hb => by simp [blk] at hb), frame_mono (.refl _) hle h.fr, h.size, h.defers, h.M0, h.ι0.trans hle, h.kept, fun p hp => ?_, h.past.1.iset h.past.2 _, Nat.le_succ_of_le h.past.2⟩
  rcases List.mem_cons.1 hp with rfl | hp
  · intro y b hy hb
    simp only [iset, if_true, Option.some.injEq] at hy; subst hy
    simp [blk] at hb
  · intro y b hy hb
    have := hlt p hp
    simp only [iset] at hy
    rw [if_neg (by omega)] at hy
    exact h.own p hp y b hy hb
/-- The nil slice in a slot becomes an object of no elements. -/
theorem Weak.virt {t : Nat} (e : TypeId) (sz : Nat) (ht : st.get t = some (.lit (.slice none 0 0))) : Weak st ({ st with H := (st.nx, .row e sz []) :: st.H, nx := st.nx + 1 }.set (some t) (.one (.obj st.nx))) := by
  intro G M ι a w hi
  obtain ⟨u, hu, hr⟩ := hi.get ht
  cases hr
  have h2 := hi.virt e sz
  refine ⟨M, _, h2.core, fun k v hk => ?_, h2.size, h2.defers, h2.M0, h2.ι0, h2.kept, h2.own, h2.past⟩
  simp only [St.set, setD, look] at hk
  cases hb : Nat.beq t k with
  | true =>
    have : t = k := Nat.eq_of_beq_eq_true hb
    subst this
    rw [hb] at hk
    simp only [Option.some.injEq] at hk; subst hk
    exact ⟨_, hu, sz, by simp [iset]⟩
  | false => rw [hb] at hk; exact h2.fr k v hk
end
end Go.Fl
