/- Every operation that changes no memory. -/
import Derived.Test.YtcfaajaccbadbaaDoorAhmH
import Derived.Laws.BytesString
set_option linter.unusedSimpArgs false
set_option linter.unusedVariables false
namespace Go.Proofs.YtcfaajaccbadbaaDoor.Ahm
open Go

section
variable {C : Ctx}

/-- what is appended, or made a string of -/
structure Src (C : Ctx) (s : Nat) (c : Value) (cells : List AV) (n : Nat) : Prop where
  len : (Builtin.lenOf c).run C.E.P C.w = .ok n C.w
  size : cells.length = n * s
  first : ∃ us : List Value, (∀ w' : World, w'.heap = C.w.heap → (Builtin.firstCells s n c).run C.E.P w' = .ok us.toArray w') ∧ us.length = cells.length ∧ ∀ (j : Nat) (x : AV) (u : Value), cells[j]? = some x → us[j]? = some u → Rep C x u

theorem run_loadCells_lies' {P : Program} {b off : Nat} {l : List AV} {us : List Value} {w' : World} (hw : w'.heap = C.w.heap) (h : Lies C b off l us) (n : Nat) (hn : l.length = n) :
    (loadCells ⟨b, off, none⟩ n).run P w' = .ok us.toArray w' := by
  have := run_loadCells_list (P := P) w' ⟨b, off, none⟩ us (fun j v hj => by rw [Addr.add_lit]; have := h.cell j v hj; simpa [World.cell?, hw] using this)
  rw [h.len, hn] at this
  exact this

theorem frep_fs_src {cells : List AV} {n s : Nat} {c : Value} (h : FRep C.F (.fs cells n) c) (hs : cells.length = n * s) : Src C s c cells n := by
  cases h with
  | fs vs hn hw hc hr =>
    rename_i b off cap
    have hl := lies_of (C := C) (b := b) (k := off) (off := 0) (n := n * s) (vs := vs) hc (fun j c hj => Rep.fz (hr j c hj)) (l := cells) (by
      unfold cut
      rw [← hs, Nat.zero_add, Nat.ble_eq_true_of_le (Nat.le_refl _)]
      simp)
    exact ⟨rfl, hs, _, fun w' hw => run_loadCells_lies' hw hl (n * s) hs, hl.len, hl.rep⟩
  | fs0 => exact ⟨rfl, hs, [], fun w' _ => by simp [Builtin.firstCells, loadCells, loadCellsFrom], rfl, fun j x u hx => by simp at hx⟩

theorem srcA_sound (hm : Mem C) {s : Nat} {t : TypeId} {x : AV} {c : Value} {cells : List AV} {n : Nat} (hr : RepT C x c) (h : srcA C.E C.st s t x = some (cells, n)) :
    Src C s c cells n := by
  unfold srcA at h
  split at h
  · have := repT_sc (C := C) hr
    subst this
    simp at h
    obtain ⟨rfl, rfl⟩ := h
    exact ⟨rfl, by simp, [], fun _ _ => rfl, rfl, fun j x u hx => by simp at hx⟩
  · obtain ⟨a, rfl⟩ := rep_e0 (C := C) hr
    simp at h
    obtain ⟨rfl, rfl⟩ := h
    exact ⟨rfl, by simp, [], fun _ _ => by simp [Builtin.firstCells, loadCells, loadCellsFrom], rfl, fun j x u hx => by simp at hx⟩
  · rename_i k cs m hd
    cases hb : Nat.beq cs.length (m * s)
    · simp [hb] at h
    · simp [hb] at h
      obtain ⟨rfl, rfl⟩ := h
      exact frep_fs_src (rep_fs (C := C) hr) (Nat.eq_of_beq_eq_true hb)
  · rename_i k o off m L hd
    split at h
    · rename_i cs e wr ho
      cases hb : Nat.beq cs.length L
      · simp [hb] at h
      · simp only [hb, cond_true] at h
        have hL := Nat.eq_of_beq_eq_true hb
        cases hc : cut cs off (m * s) with
        | none => simp [hc] at h
        | some l =>
          simp [hc] at h
          obtain ⟨rfl, rfl⟩ := h
          obtain ⟨cap, s', cur, fz, rfl, _⟩ := rep_sl (C := C) hr ho hL
          obtain ⟨cur, fz, vs, hbb, hsz, _, hcur, hrep⟩ := hm.arr o cs e wr ho
          have hl := lies_of (C := C) (b := C.io o) (k := 0) (vs := vs) (fun j hj => by rw [Nat.zero_add]; exact cell_of_heap hbb (hcur j hj)) hrep hc
          rw [Nat.zero_add] at hl
          have hn := (cut_some hc).2.2.1
          exact ⟨rfl, hn, _, fun w' hw => run_loadCells_lies' hw hl (m * s) hn, hl.len, hl.rep⟩
    · cases h
  · rename_i b hd
    have := repT_sc (C := C) hr
    subst this
    cases hb : Nat.beq s 1
    · simp [hb] at h
    · have := Nat.eq_of_beq_eq_true hb
      subst this
      simp at h
      obtain ⟨rfl, rfl⟩ := h
      refine ⟨rfl, by simp, b.data.toList.map fun x => .int .u8 x.toNat, fun w' _ => ?_, by simp, fun j x u hx hu => ?_⟩
      · simp only [Builtin.firstCells, Sem.run_pure]
        congr 1
        apply Array.ext'
        have : (b.extract 0 b.size).data = b.data := by simp
        rw [this]
        simp
      · rw [List.getElem?_map] at hx hu
        cases hb : b.data.toList[j]? with
        | none => simp [hb] at hx
        | some y => simp [hb] at hx hu; subst hx hu; exact .fz (.sc rfl)
  · cases h

theorem srcA_slice (hm : Mem C) {s : Nat} {t e : TypeId} {x : AV} {c : Value} {cells : List AV} {n : Nat} (hr : RepT C x c) (h : srcA C.E C.st s t x = some (cells, n)) (ht : C.E.P.underlying t = some (.slice e)) :
    ∃ ad l cap, c = .slice ad l cap := by
  unfold srcA at h
  split at h
  · exact ⟨_, _, _, repT_sc (C := C) hr⟩
  · obtain ⟨a, rfl⟩ := rep_e0 (C := C) hr; exact ⟨_, _, _, rfl⟩
  · obtain ⟨a, cap, rfl, _⟩ := fs_form (rep_fs (C := C) hr); exact ⟨_, _, _, rfl⟩
  · rename_i k o off m L hd
    split at h
    · rename_i cs e wr ho
      cases hb : Nat.beq cs.length L
      · simp [hb] at h
      · obtain ⟨cap, s', cur, fz, rfl, _⟩ := rep_sl (C := C) hr ho (Nat.eq_of_beq_eq_true hb); exact ⟨_, _, _, rfl⟩
    · cases h
  · rename_i hd; rw [ht] at hd; cases hd
  · cases h

theorem bytesA_some : ∀ {cells : List AV} {l : List UInt8}, bytesA cells = some l → ∃ ns : List Int, cells = ns.map (fun n => AV.sc (.int .u8 n)) ∧ l = ns.map (fun n => UInt8.ofNat n.toNat)
  | [], l, h => by simp [bytesA] at h; subst h; exact ⟨[], rfl, rfl⟩
  | x :: r, l, h => by
    unfold bytesA at h
    split at h
    · rename_i h1; cases h1
    · rename_i n r' h1
      cases h1
      cases hr : bytesA r with
      | none => simp [hr] at h
      | some l' =>
        simp [hr] at h
        subst h
        obtain ⟨ns, rfl, rfl⟩ := bytesA_some hr
        exact ⟨n :: ns, rfl, rfl⟩
    · cases h

theorem foldl_push (ns : List Int) : ∀ s : ByteArray, ns.foldl (fun r n => r.push (UInt8.ofNat n.toNat)) s = ⟨(s.data.toList ++ ns.map fun n => UInt8.ofNat n.toNat).toArray⟩ := by
  induction ns with
  | nil => intro s; simp
  | cons n ns ih =>
    intro s
    rw [List.foldl_cons, ih]
    congr 1
    apply Array.ext'
    simp [ByteArray.push]

theorem quiet_sound (hm : Mem C) {m : Tm} {N : Nat} {a : Act} (ht : TmOk C m N a) {o : Oper} {v : AV} (h : quiet C.E m C.lb C.st o = some v) :
    ∃ u, (execOp a.eval o).run C.E.P C.w = .ok (.value u) C.w ∧ RepT C v u := by
  obtain ⟨dst, op, type, pos, after, guard⟩ := o
  cases op with
  | move x => exact ⟨_, rfl, opv_sound ht h⟩
  | assign x => exact ⟨_, rfl, opv_sound ht h⟩
  | pick c x y =>
    simp only [quiet] at h
    cases hc : opv m c with
    | none => simp [hc] at h
    | some cv =>
      have hrc := opv_sound ht hc
      split at h
      · rename_i t h1
        rw [hc] at h1
        cases h1
        have := repT_sc hrc
        cases t
        · exact ⟨_, by simp [execOp, this, asBool], opv_sound ht h⟩
        · exact ⟨_, by simp [execOp, this, asBool], opv_sound ht h⟩
      · cases h
  | build t ps =>
    simp only [quiet] at h
    cases hp : parts m ps.toList with
    | none => simp [hp] at h
    | some vs =>
      simp only [hp, Option.bind_some] at h
      obtain ⟨h1, h2⟩ := parts_sound ht hp
      have hnolp : ∀ p ∈ vs, p.2.isLp = false := by
        unfold buildA at h
        split at h
        · rename_i z fields hz hd
          cases hall : fields.toList.all (fun f => (sizeT C.E f.type).isSome)
          · simp [hall] at h
          · simp only [hall, cond_true] at h
            cases hf : fillA (fieldPl C.E fields) z.cells vs with
            | none => simp [hf] at h
            | some out => exact fillA_nolp _ _ _ hf
        · rename_i z n e hz hd
          cases hs : sizeT C.E e with
          | none => simp [hs] at h
          | some s =>
            simp only [hs] at h
            cases hf : fillA (fun i => some (i * s, s)) z.cells vs with
            | none => simp [hf] at h
            | some out => exact fillA_nolp _ _ _ hf
        · cases h
      obtain ⟨u, r1, r2⟩ := buildA_sound (C := C) (cps := ps.map fun (i, x) => (i, a.eval x)) (by simp [h1]) (fun j p q hp' hq' => by
        rw [Array.toList_map, List.getElem?_map] at hq'
        cases hpj : ps.toList[j]? with
        | none => simp [hpj] at hq'
        | some q0 =>
          simp [hpj] at hq'
          subst hq'
          obtain ⟨e1, e2⟩ := h2 j p q0 hp' hpj
          exact ⟨e1, rep_of e2 (hnolp p (List.mem_of_getElem? hp'))⟩) h C.w
      exact ⟨u, by simp only [execOp, Sem.run_bind, r1, Result.andThen_ok, Sem.run_pure], repT_of r2⟩
  | load t x =>
    simp only [quiet] at h
    cases hx : opv m x with
    | none => simp [hx] at h
    | some p =>
      simp only [hx, Option.bind_some] at h
      obtain ⟨u, r1, r2⟩ := loadA_sound hm (opv_sound ht hx) h
      exact ⟨u, by simp only [execOp, Sem.run_bind, r1, Result.andThen_ok, Sem.run_pure], repT_of r2⟩
  | nilCheck x =>
    simp only [quiet] at h
    cases hx : getL m C.lb C.st x with
    | none => simp [hx] at h
    | some p =>
      obtain ⟨h1, h2⟩ := getL_some hx
      simp only [hx, Option.bind_some] at h
      cases hn : isNonNilPtr p
      · simp [hn] at h
      · simp [hn] at h
        subst h
        have hr := opv_sound ht h1
        obtain ⟨ad, he⟩ := live_ptr hr h2 hn
        refine ⟨a.eval x, ?_, hr⟩
        simp only [execOp, he]
        rfl
  | binOp op t x y yt =>
    simp only [quiet] at h
    cases hx : getL m C.lb C.st x with
    | none => simp [hx] at h
    | some p =>
      cases hy : getL m C.lb C.st y with
      | none => simp [hx, hy] at h
      | some q =>
        simp only [hx, hy] at h
        obtain ⟨h1, h2⟩ := getL_some hx
        obtain ⟨h3, h4⟩ := getL_some hy
        obtain ⟨u, r1, r2⟩ := binA_sound hm (opv_sound ht h1) (opv_sound ht h3) h2 h C.w rfl
        refine ⟨u, ?_, repT_of r2⟩
        have : (execOp a.eval ⟨dst, .binOp op t x y yt, type, pos, after, guard⟩) = (do let v ← (do eqGuard op t x y (a.eval x) (a.eval y); Go.binOp op t (a.eval x) (a.eval y) : Sem Value); pure (.value v)) := rfl
        rw [this, Sem.run_bind, r1]
        rfl
  | unOp op t x =>
    simp only [quiet] at h
    split at h <;> first
      | (rename_i h0; cases h0; done)
      | skip
    all_goals try (cases h; done)
    · rename_i h0
      cases h0
      split at h
      · rename_i b hx
        simp at h; subst h
        have := repT_sc (opv_sound ht hx)
        exact ⟨.bool !b, by simp [execOp, this, Op.unary], Rep.fz (.sc rfl)⟩
      · cases h
    · rename_i h0
      cases h0
      split at h
      · rename_i k n hx
        injection h with h
        subst h
        have := repT_sc (opv_sound ht hx)
        exact ⟨.int k (k.wrap (0 - n)), by simp [execOp, this, Op.unary, Op.intArith], Rep.fz (.sc rfl)⟩
      · cases h
  | convert s d x =>
    simp only [quiet] at h
    split at h
    · rename_i du k k' n hs hd hx
      simp at h; subst h
      have := repT_sc (opv_sound ht hx)
      exact ⟨.int k (k.wrap n), by cases du <;> simp [execOp, this, Go.convert, run_underlying hs, run_underlying hd, Conv.intToInt], Rep.fz (.sc rfl)⟩
    · rename_i e x' hs hd hx
      split at h
      · rename_i cells n he hsrc
        cases hb : bytesA cells with
        | none => simp [hb] at h
        | some l =>
          simp [hb] at h
          subst h
          obtain ⟨ns, rfl, rfl⟩ := bytesA_some hb
          have hr := opv_sound ht hx
          have hsrc' := srcA_sound hm hr hsrc
          obtain ⟨us, f1, f2, f3⟩ := hsrc'.first
          have f1 := f1 C.w rfl
          have hus : us = ns.map (Value.int .u8) := by
            apply List.ext_getElem?
            intro j
            rw [List.getElem?_map]
            cases hj : ns[j]? with
            | none =>
              have : ns.length ≤ j := by simpa using hj
              simp at f2
              simp [List.getElem?_eq_none (show us.length ≤ j by omega)]
            | some z =>
              have hlt := (List.getElem?_eq_some_iff.1 hj).1
              have hu : us[j]? = some (us[j]'(by simp at f2; omega)) := List.getElem?_eq_getElem (by simp at f2; omega)
              rw [hu]
              have := f3 j (.sc (.int .u8 z)) _ (by rw [List.getElem?_map, hj]; rfl) hu
              have := (rep_sc this).1
              simp [this]
          refine ⟨.string ⟨(ns.map fun n => UInt8.ofNat n.toNat).toArray⟩, ?_, Rep.fz (.sc rfl)⟩
          have hlen := hsrc'.len
          have hconv : (Go.convert s d (a.eval x)).run C.E.P C.w = .ok (.string ⟨(ns.map fun n => UInt8.ofNat n.toNat).toArray⟩) C.w := by
            cases hv : a.eval x with
            | slice ad l c =>
              rw [hv] at hlen f1
              have hl : l = n := by simpa [Builtin.lenOf] using hlen
              subst hl
              rw [run_convert_bytes_string C.w s d e ad l c hs he hd]
              cases ad with
              | none =>
                have : us = [] := by
                  have := f1
                  simp [Builtin.firstCells] at this
                  first | exact this | exact this.symm
                rw [this] at hus
                have : ns = [] := by simpa using hus.symm
                subst this
                rfl
              | some ad =>
                have f1' : (loadCells ad l).run C.E.P C.w = .ok (ns.map (Value.int .u8)).toArray C.w := by
                  rw [← hus]
                  simpa [Builtin.firstCells] using f1
                rw [run_bytesToString C.w ad l c ns f1', foldl_push]
                simp
            | _ =>
              obtain ⟨ad, l, cap, h9⟩ := srcA_slice hm hr hsrc hs
              rw [hv] at h9
              cases h9
          simp [execOp, hconv]
      · cases h
    · cases h
  | makeInterface t x =>
    simp only [quiet] at h
    split at h
    · cases h
    · rename_i d w hni hd hx
      cases hl : w.isLp
      · simp [hl] at h
        subst h
        refine ⟨.iface t (a.eval x), ?_, Rep.ifc (rep_of (opv_sound ht hx) hl)⟩
        cases d <;> first
          | (exact absurd hd (hni _))
          | (exact (hni _ rfl).elim)
          | simp [execOp, Instr.makeInterface, run_underlying hd]
      · simp [hl] at h
    · cases h
  | makeFunc fn first captured =>
    cases fn with
    | func f =>
      simp only [quiet] at h
      split at h
      · rename_i as bs ha hb
        cases hl : (as.any AV.isLp || bs.any AV.isLp)
        · simp only [hl, cond_false, Option.some.injEq] at h
          subst h
          simp only [Bool.or_eq_false_iff, List.any_eq_false] at hl
          obtain ⟨a1, a2⟩ := opvs_sound ht ha
          obtain ⟨b1, b2⟩ := opvs_sound ht hb
          have conv : ∀ (ops : Array Operand) (vs : List AV), vs.length = ops.toList.length → (∀ v ∈ vs, ¬ v.isLp = true) → (∀ (j : Nat) (v : AV) (x : Operand), vs[j]? = some v → ops.toList[j]? = some x → RepT C v (a.eval x)) →
              (ops.map a.eval).size = vs.length ∧ ∀ (j : Nat) (x : AV) (u : Value), vs[j]? = some x → (ops.map a.eval)[j]? = some u → Rep C x u := by
            intro ops vs h1 h2 h3
            refine ⟨by simp [h1], fun j x u hx hu => ?_⟩
            rw [Array.getElem?_map] at hu
            cases hj : ops[j]? with
            | none => simp [hj] at hu
            | some y =>
              simp [hj] at hu
              subst hu
              exact rep_of (h3 j x y hx (by simpa using hj)) (by simpa using h2 x (List.mem_of_getElem? hx))
          obtain ⟨c1, c2⟩ := conv first as a1 hl.1 a2
          obtain ⟨d1, d2⟩ := conv captured bs b1 hl.2 b2
          exact ⟨_, by simp [execOp, Instr.makeFunc], Rep.fn c1 d1 c2 d2⟩
        · simp [hl] at h
      · cases h
    | _ => simp [quiet] at h
  | slice t x lo hi mx =>
    simp only [quiet] at h
    cases hx : getL m C.lb C.st x with
    | none => simp [hx] at h
    | some v' =>
      obtain ⟨h1, h2⟩ := getL_some hx
      simp only [hx] at h
      have idx : ∀ (y : Option Operand) (z : Option AV), y.map (opv m) ≠ some none → (y.map (opv m)).join = z → Idx C z (y.map a.eval) := by
        intro y z hne hz
        cases y with
        | none => simp at hz; subst hz; trivial
        | some y =>
          simp at hne hz
          cases hy : opv m y with
          | none => exact absurd hy hne
          | some u => rw [hy] at hz; subst hz; exact opv_sound ht hy
      split at h
      · cases h
      · cases h
      · cases h
      · rename_i n1 n2 n3
        obtain ⟨u, r1, r2⟩ := sliceA_sound (opv_sound ht h1) h2 (idx lo _ n1 rfl) (idx hi _ n2 rfl) (idx mx _ n3 rfl) h
        exact ⟨u, by simp only [execOp, Sem.run_bind, r1, Result.andThen_ok, Sem.run_pure], r2⟩
  | fieldAddr t x i =>
    simp only [quiet] at h
    cases hx : getL m C.lb C.st x with
    | none => simp [hx] at h
    | some p =>
      obtain ⟨h1, h2⟩ := getL_some hx
      simp only [hx, Option.bind_some] at h
      obtain ⟨u, r1, r2⟩ := fieldAddrA_sound (opv_sound ht h1) h2 h C.w
      exact ⟨u, by simp only [execOp, Sem.run_bind, r1, Result.andThen_ok, Sem.run_pure], r2⟩
  | field t x i =>
    simp only [quiet] at h
    cases hx : opv m x with
    | none => simp [hx] at h
    | some p =>
      simp only [hx, Option.bind_some] at h
      have hlp : p.isLp = false := by
        cases p <;> first | rfl | (unfold fieldA at h; split at h <;> first | (rename_i h9; cases h9; done) | cases h)
      obtain ⟨u, r1, r2⟩ := fieldA_sound (rep_of (opv_sound ht hx) hlp) h C.w
      exact ⟨u, by simp only [execOp, Sem.run_bind, r1, Result.andThen_ok, Sem.run_pure], repT_of r2⟩
  | indexAddr t x i =>
    simp only [quiet] at h
    cases hx : getL m C.lb C.st x with
    | none => simp [hx] at h
    | some p =>
      cases hi : opv m i with
      | none => simp [hx, hi] at h
      | some q =>
        obtain ⟨h1, h2⟩ := getL_some hx
        simp only [hx, hi] at h
        obtain ⟨u, r1, r2⟩ := indexAddrA_sound (opv_sound ht h1) h2 (opv_sound ht hi) h C.w
        exact ⟨u, by simp only [execOp, Sem.run_bind, r1, Result.andThen_ok, Sem.run_pure], r2⟩
  | index t x i =>
    simp only [quiet] at h
    cases hx : opv m x with
    | none => simp [hx] at h
    | some p =>
      cases hi : opv m i with
      | none => simp [hx, hi] at h
      | some q =>
        simp only [hx, hi] at h
        obtain ⟨u, r1, r2⟩ := indexA_sound (opv_sound ht hx) (opv_sound ht hi) h C.w
        exact ⟨u, by simp only [execOp, Sem.run_bind, r1, Result.andThen_ok, Sem.run_pure], repT_of r2⟩
  | lookup t x i ok =>
    simp only [quiet] at h
    cases hx : opv m x with
    | none => simp [hx] at h
    | some p =>
      cases hi : opv m i with
      | none => simp [hx, hi] at h
      | some q =>
        simp only [hx, hi] at h
        obtain ⟨u, r1, r2⟩ := lookupA_sound hm (opv_sound ht hx) (opv_sound ht hi) h
        exact ⟨u, by simp only [execOp, Sem.run_bind, r1, Result.andThen_ok, Sem.run_pure], repT_of r2⟩
  | typeAssert x xt t ok =>
    simp only [quiet] at h
    cases hx : opv m x with
    | none => simp [hx] at h
    | some p =>
      simp only [hx, Option.bind_some] at h
      obtain ⟨u, r1, r2⟩ := typeAssertA_sound (xt := xt) (opv_sound ht hx) h C.w
      exact ⟨u, by simp only [execOp, Sem.run_bind, r1, Result.andThen_ok, Sem.run_pure], repT_of r2⟩
  | extract t i =>
    simp only [quiet] at h
    split at h
    · rename_i vs hx
      obtain ⟨us, he, hl, hrr⟩ := rep_tup (C := C) (opv_sound ht hx)
      have hlt := (List.getElem?_eq_some_iff.1 h).1
      have hu : us[i]? = some (us[i]'(by omega)) := Array.getElem?_eq_getElem (by omega)
      exact ⟨us[i]'(by omega), by simp [execOp, he, Instr.extract, hu], repT_of (hrr i v _ h hu)⟩
    · cases h
  | call c =>
    obtain ⟨callee, args, ats⟩ := c
    cases callee with
    | builtin b =>
      cases b with
      | len =>
        simp only [quiet] at h
        split at h
        · rename_i x t hx ht'
          cases hg : getL m C.lb C.st x with
          | none => simp [hg] at h
          | some p =>
            obtain ⟨h1, h2⟩ := getL_some hg
            simp only [hg, Option.bind_some] at h
            obtain ⟨u, r1, r2⟩ := lenA_sound hm (opv_sound ht h1) h2 h type
            have e1 : args = #[x] := by apply Array.ext'; simpa using hx
            have e2 : ats = #[t] := by apply Array.ext'; simpa using ht'
            subst e1 e2
            refine ⟨u, ?_, repT_of r2⟩
            simp [execOp, resolve, invoke, builtin, r1]
        · cases h
      | max =>
        simp only [quiet] at h
        cases hv : opvs m args.toList with
        | none => simp [hv] at h
        | some vs =>
          simp only [hv, Option.bind_some] at h
          obtain ⟨h1, h2⟩ := opvs_sound ht hv
          obtain ⟨u, r1, r2⟩ := maxA_sound (C := C) (mx := true) (cs := args.toList.map a.eval) (by simp [h1]) (fun j x c hx hc => by
            rw [List.getElem?_map] at hc
            cases hj : args.toList[j]? with
            | none => simp [hj] at hc
            | some y => simp [hj] at hc; subst hc; exact h2 j x y hx hj) h ats type C.w
          refine ⟨u, ?_, repT_of r2⟩
          simp only [if_true] at r1
          have e : (args.map a.eval) = (args.toList.map a.eval).toArray := by apply Array.ext'; simp
          simp [execOp, resolve, invoke, builtin, e, r1]
      | min =>
        simp only [quiet] at h
        cases hv : opvs m args.toList with
        | none => simp [hv] at h
        | some vs =>
          simp only [hv, Option.bind_some] at h
          obtain ⟨h1, h2⟩ := opvs_sound ht hv
          obtain ⟨u, r1, r2⟩ := maxA_sound (C := C) (mx := false) (cs := args.toList.map a.eval) (by simp [h1]) (fun j x c hx hc => by
            rw [List.getElem?_map] at hc
            cases hj : args.toList[j]? with
            | none => simp [hj] at hc
            | some y => simp [hj] at hc; subst hc; exact h2 j x y hx hj) h ats type C.w
          refine ⟨u, ?_, repT_of r2⟩
          simp only [Bool.false_eq_true, if_false] at r1
          have e : (args.map a.eval) = (args.toList.map a.eval).toArray := by apply Array.ext'; simp
          simp [execOp, resolve, invoke, builtin, e, r1]
      | _ => simp [quiet] at h
    | _ => simp [quiet] at h
  | _ => simp [quiet] at h

end
end Go.Proofs.YtcfaajaccbadbaaDoor.Ahm
