/- Regions that draw their order: every order walked. -/
import Derived.Test.YtcfaajaccbadbaaDoorAhmV
set_option linter.unusedSimpArgs false
set_option linter.unusedVariables false
namespace Go.Proofs.YtcfaajaccbadbaaDoor.Ahm
open Go

section
variable {E : Env} {callf : CallF} {f N : Nat} {ops : Array Oper} {s s' : St} {rs : List Rec} {hs : List (Lb × List AObj)} {S : Array Bool} {C : Ctx} {a : Act}

theorem eff_of_mem {i : Nat} {rc : Rec} (hrc : rs[i]? = some rc) (h : i ∈ effsOf 0 rs) : rc.eff = true := by
  obtain ⟨pre, post, he⟩ := List.append_of_mem h
  obtain ⟨_, ⟨r, h1, h2⟩, _⟩ := effsOf_spec _ _ _ _ _ he
  simp at h1
  rw [hrc] at h1; cases h1
  exact h2

theorem ls_lt (I : Inv E f N ops s rs hs S C a) {k : Nat} (h : Ls S k) : k < ops.size := by
  rw [← I.size]; exact (Array.getElem?_eq_some_iff.1 h).1

theorem split_eff (P : Plan E callf f N ops s s' rs hs) (I : Inv E f N ops s rs hs S C a) {i : Nat} {o : Oper} (n : Now ops S i o) {rc : Rec} (hrc : rs[i]? = some rc) (he : rc.eff = true) :
    ((s.lb, s.st) :: hs)[cntE (rs.take i)]? = some (C.lb, C.st) ∧ ∀ lb st, hs[cntE (rs.take i)]? = some (lb, st) →
      ∃ pre post, effsOf 0 rs = pre ++ post ∧ (∀ j ∈ pre, j = i ∨ Ls S j) ∧ (∀ j ∈ post, j ≠ i ∧ ¬ Ls S j) ∧ ((s.lb, s.st) :: hs)[pre.length]? = some (lb, st) := by
  obtain ⟨pre, post, e1, e2, e3, e4⟩ := I.split
  have hmem : i ∈ effsOf 0 rs := by have := effsOf_mem rs 0 i rc hrc he; simpa using this
  rw [e1, List.mem_append] at hmem
  rcases hmem with hmem | hmem
  · exact absurd (e2 i hmem) n.un
  · obtain ⟨p2, post', hp⟩ := List.append_of_mem hmem
    have hp2 : p2 = [] := by
      rcases List.eq_nil_or_concat p2 with h | ⟨p3, q, h⟩
      · exact h
      · exfalso
        subst h
        have hc := P.chain
        rw [e1, hp] at hc
        have : pre ++ ((p3.concat q) ++ i :: post') = (pre ++ p3) ++ q :: i :: post' := by simp
        rw [this] at hc
        exact e3 q (by rw [hp]; simp) (n.bef q (chainOK_spec hc))
    subst hp2
    simp at hp
    subst hp
    have hcnt := (effsOf_spec _ _ _ _ _ e1).2.2
    simp at hcnt
    refine ⟨by rw [← hcnt]; exact e4, fun lb st hst => ⟨pre ++ [i], post', by rw [e1]; simp, fun j hj => ?_, fun j hj => ⟨fun hji => ?_, e3 j (List.mem_cons_of_mem _ hj)⟩, ?_⟩⟩
    · rw [List.mem_append] at hj
      rcases hj with hj | hj
      · exact .inr (e2 j hj)
      · simp at hj; exact .inl hj
    · subst hji
      obtain ⟨a1, b1, hab⟩ := List.append_of_mem hj
      have e5 : effsOf 0 rs = (pre ++ j :: a1) ++ j :: b1 := by rw [e1, hab]; simp
      have := (effsOf_spec _ _ _ _ _ e5).2.2
      simp at this
      omega
    · rw [← hcnt] at hst
      simpa using hst

theorem split_quiet (P : Plan E callf f N ops s s' rs hs) (I : Inv E f N ops s rs hs S C a) {i : Nat} {o : Oper} (n : Now ops S i o) {rc : Rec} (hrc : rs[i]? = some rc) (he : rc.eff = false) :
    (∃ pre post, effsOf 0 rs = pre ++ post ∧ (∀ j ∈ pre, j = i ∨ Ls S j) ∧ (∀ j ∈ post, j ≠ i ∧ ¬ Ls S j) ∧ ((s.lb, s.st) :: hs)[pre.length]? = some (C.lb, C.st)) ∧
    (rc.ran = true → (∃ win, stageOK E f rc.m o rc.v win = true ∧ (C.lb, C.st) ∈ win) ∨ (locAlloc E f o = none ∧ (C.lb, C.st) = (s.lb, s.st) ∧ ∀ (k : Nat) lb st, ((s.lb, s.st) :: hs)[k]? = some (lb, st) → lb = s.lb ∧ st = s.st)) := by
  obtain ⟨pre, post, e1, e2, e3, e4⟩ := I.split
  have hni : i ∉ effsOf 0 rs := fun h => by rw [eff_of_mem hrc h] at he; cases he
  refine ⟨⟨pre, post, e1, fun j hj => .inr (e2 j hj), fun j hj => ⟨fun h => hni (by rw [e1, ← h]; simp [hj]), e3 j hj⟩, e4⟩, fun hran => ?_⟩
  rcases P.check with hcq | ⟨hno, hall⟩
  rotate_left
  · have hmem : ∀ (k : Nat) lb st, ((s.lb, s.st) :: hs)[k]? = some (lb, st) → lb = s.lb ∧ st = s.st := fun k lb st h => by
      cases k with
      | zero => simp at h; exact ⟨h.1.symm, h.2.symm⟩
      | succ k =>
        have := hall _ (List.mem_of_getElem? (by simpa using h))
        exact ⟨congrArg Prod.fst this, congrArg Prod.snd this⟩
    obtain ⟨q1, q2⟩ := hmem _ _ _ e4
    exact .inr ⟨hno _ (List.mem_of_getElem? n.o), by rw [q1, q2], hmem⟩
  have hch := checkQ_spec hcq n.o hrc hran he
  rw [Nat.zero_add] at hch
  refine .inl ⟨_, hch, mem_window e4 ?_ ?_⟩
  · unfold lowOf
    rw [e1, List.filter_append, List.length_append]
    have : post.filter (fun k => forced (bef ops.toList []) k i) = [] := by
      rw [List.filter_eq_nil_iff]
      intro k hk hf
      exact e3 k hk (n.bef k hf)
    rw [this]
    have := List.length_filter_le (fun k => forced (bef ops.toList []) k i) pre
    simpa using this
  · unfold highOf
    rw [e1, List.filter_append, List.length_append]
    have : pre.filter (fun k => !forced (bef ops.toList []) i k) = pre := by
      rw [List.filter_eq_self]
      intro k hk
      cases hf : forced (bef ops.toList []) i k
      · rfl
      · exact absurd (I.closed i k (ls_lt I (e2 k hk)) hf (e2 k hk)) n.un
    rw [this]
    omega

theorem draw_step (hc : CallOk E callf) (P : Plan E callf f N ops s s' rs hs) (I : Inv E f N ops s rs hs S C a) {i : Nat} {o : Oper} (n : Now ops S i o) {K : Act → World → Prop} {Q : Exit → Act → World → Prop}
    (hK : ∀ (C' : Ctx) (a' : Act), Inv E f N ops s rs hs (S.setIfInBounds i true) C' a' → Ext C C' → K a' C'.w) : wpOp E.P ops Q i K a C.w := by
  have hoA : ops[i]? = some o := by have := n.o; simpa using this
  obtain ⟨hlen, _, _, hturn⟩ := evRecs_turns _ _ _ _ _ P.recs
  have hil : i < rs.length := by rw [hlen]; exact (List.getElem?_eq_some_iff.1 n.o).1
  have hrc : rs[i]? = some rs[i] := by simp [hil]
  generalize rs[i] = rc at hrc
  have T := hturn i o rc n.o hrc
  obtain ⟨m, t1, t2⟩ := I.tm
  have hread := reads_eq P I n hrc t2
  have hwant : Region.wanted o (yielded ops a.tmps) = rc.ran := wantedA_sound t1 ((wantedA_congr hread).trans T.want)
  unfold wpOp
  simp only [hoA]
  have hbornE : ∀ {C' : Ctx}, LExt C C' → ∀ (k : Nat) (o : Oper) (t : TypeId) (d : Nat), ops.toList[k]? = some o → locAlloc E f o = some (t, d) → k ≠ i → ¬ Ls S k → ∃ g cs, lbGet C'.lb d = some (g, cs) ∧ (g = 0 → C'.il d = none) := by
    intro C' hl k o' t d h1 h2 h3 h4
    obtain ⟨g, cs, b1, b2⟩ := I.born k o' t d h1 h2 h4
    obtain ⟨g', cs', c1, c2, c3⟩ := hl d g cs b1
    exact ⟨g', cs', c1, fun h0 => by rw [c3 (by omega)]; exact b2 (by omega)⟩
  cases hran : rc.ran with
  | false =>
    rw [if_neg (by rw [hwant, hran]; simp)]
    obtain ⟨i1, i2⟩ := T.idle hran
    exact hK C _ (inv_put P I n hrc T.dst I.mem (Ext.refl C) (LExt.refl C).weak (by rw [i1]; exact Rep.fz (.sc rfl)) (split_quiet P I n hrc i2).1 (hbornE (LExt.refl C))) (Ext.refl C)
  | true =>
    rw [if_pos (by rw [hwant, hran])]
    refine .inl ?_
    obtain ⟨lb, st, lb', st', r1, r2, r3⟩ := T.run hran
    cases hla : locAlloc E f o with
    | some td =>
      obtain ⟨t, d⟩ := td
      unfold runOpD at r2
      simp only [hla, Option.some.injEq, Prod.mk.injEq] at r2
      obtain ⟨hv, _, _, he⟩ := r2
      obtain ⟨hsp, hst⟩ := split_quiet P I n hrc he.symm
      obtain ⟨win, hok, hin⟩ | ⟨hno, _⟩ := hst hran
      rotate_left
      · rw [hla] at hno; cases hno
      unfold stageOK at hok
      simp only [hla] at hok
      split at hok
      · rename_i z zn hz hzn
        simp only [Bool.and_eq_true] at hok
        have hlb0 := bornAt_spec hok.2 _ _ hin
        obtain ⟨g, cs, b1, b2⟩ := I.born i o t d n.o hla n.un
        rw [hlb0] at b1
        simp at b1
        have hil0 := b2 b1.1.symm
        obtain ⟨hop, hdst, hmemN⟩ := locAlloc_spec hla
        rw [← I.env] at hz
        obtain ⟨zu, hzr, _, _, hz3, hz4, _⟩ := zeroA_sound (C := C) hz
        obtain ⟨vs, hcs, hrs⟩ := cr_vals (R := Rep C) (cells := z.cells) (us := zu.cells) ⟨hz3, fun j x c hx hc => .fz (hz4 j x c C.F hx hc)⟩
        have hp : (C.w.alloc (.cells zu.cells t)).heap = C.w.heap.push (.cells zu.cells t) := rfl
        have hlb : ∀ s, lbGet C.lb s = if s = d then some (0, z.cells) else lbGet C.lb s := fun s => by
          by_cases e : s = d
          · subst e; simp [hlb0]
          · simp [e]
        have hrun : (execOp a.eval o).run E.P C.w = .ok (.value (.pointer (some ⟨C.w.heap.size, 0, none⟩))) (C.w.alloc (.cells zu.cells t)) := by
          rw [← I.env]
          unfold execOp
          simp [hop, Instr.alloc, hzr, run_newVar]
        unfold Oper.wp
        rw [hrun]
        have hext := ext_newl (C := C) hp rfl rfl rfl hlb
        refine hK (C.newl (C.w.alloc (.cells zu.cells t)) d C.lb) _ (inv_put P I n hrc T.dst (mem_newl I.mem hp rfl rfl rfl hlb (by rw [hz3]) (nofz0 _) hcs hrs) hext (lextw_newl hlb fun g0 cs hg => ?_) ?_ hsp ?_) hext
        · rw [hlb0] at hg; simp at hg; exact ⟨by omega, fun _ => hil0⟩
        · rw [← hv]
          exact ⟨0, z.cells, hlb0, Nat.le_refl _, fun _ => ⟨C.w.heap.size, by simp [Ctx.newl], rfl⟩⟩
        · intro k o' t' d' h1 h2 h3 h4
          obtain ⟨g, cs, b1, b2⟩ := I.born k o' t' d' h1 h2 h4
          refine ⟨g, cs, b1, fun h0 => ?_⟩
          have hne : d' ≠ d := fun e => h3 (P.uniq h1 n.o (locAlloc_spec h2).2.1 (e ▸ hdst))
          simp [Ctx.newl, hne, b2 h0]
      · cases hok
    | none =>
      have r2' : runOp E callf f rc.m lb st o = some (rc.v, lb', st', rc.eff) := by
        unfold runOpD at r2; simpa [hla] using r2
      have hops := opv_reads hread
      cases heff : rc.eff with
      | true =>
        obtain ⟨s1, s2⟩ := split_eff P I n hrc heff
        rw [r1] at s1
        simp at s1
        obtain ⟨rfl, rfl⟩ := s1
        have hsp := s2 _ _ (r3 heff)
        have hrun : runOp C.E callf f m C.lb C.st o = some (rc.v, lb', st', rc.eff) := by
          rw [runOp_congr hops, I.env]; exact r2'
        have := runOp_wp (K := K) (Q := Q) (by rw [I.env]; exact hc) I.mem t1 hrun fun u C' o1 o2 => hK C' _ (inv_put P I n hrc T.dst o1.mem o1.ext o1.lext.weak o2 (by rw [o1.lb, o1.st]; exact hsp) (hbornE o1.lext)) o1.ext
        rw [I.env] at this
        exact this
      | false =>
        rw [heff] at r2'
        obtain ⟨q1, q2, q3⟩ := runOp_false r2'
        obtain ⟨hsp, hst⟩ := split_quiet P I n hrc heff
        have hq : quiet E rc.m C.lb C.st o = some rc.v := by
          rcases hst hran with ⟨win, hok, hin⟩ | ⟨_, hcs, hall⟩
          · unfold stageOK at hok
            simp only [hla, Bool.or_eq_true] at hok
            rcases hok with hok | hok
            · rw [quiet_heapFree (lb' := lb) (st' := st) hok]; exact q3
            · exact holdsAt_spec hok _ _ hin
          · obtain ⟨a1, a2⟩ := hall _ _ _ r1
            obtain ⟨b1, b2⟩ := Prod.mk.inj hcs
            rw [b1, b2, ← a1, ← a2]; exact q3
        have hrun : runOp C.E callf f m C.lb C.st o = some (rc.v, C.lb, C.st, false) := by
          rw [runOp_congr hops, I.env]
          unfold runOp
          simp [hq]
        have := runOp_wp (K := K) (Q := Q) (by rw [I.env]; exact hc) I.mem t1 hrun fun u C' o1 o2 => hK C' _ (inv_put P I n hrc T.dst o1.mem o1.ext o1.lext.weak o2 (by rw [o1.lb, o1.st]; exact hsp) (hbornE o1.lext)) o1.ext
        rw [I.env] at this
        exact this

theorem count_set : ∀ (l : List Bool) (i : Nat), l[i]? = some false → (l.set i true).count false + 1 = l.count false
  | [], i, h => by simp at h
  | x :: r, 0, h => by simp at h; subst h; simp
  | x :: r, i + 1, h => by
    simp at h
    have := count_set r i h
    simp only [List.set_cons_succ, List.count_cons]
    omega

theorem draw_any (hc : CallOk E callf) (P : Plan E callf f N ops s s' rs hs) {Q : Exit → Act → World → Prop} {C0 : Ctx}
    (hQ : ∀ (S : Array Bool) (C : Ctx) (a : Act), Inv E f N ops s rs hs S C a → (∀ j, j < ops.size → Ls S j) → Ext C0 C → Q .normal a C.w) :
    ∀ (fuel : Nat) (S : Array Bool) (C : Ctx) (a : Act), Inv E f N ops s rs hs S C a → Ext C0 C → S.toList.count false ≤ fuel → wpAny E.P .any ops Q fuel S a C.w := by
  have hun : ∀ {S : Array Bool} {C : Ctx} {a : Act} {i : Nat} {o : Oper}, Inv E f N ops s rs hs S C a → Now ops S i o → S.toList[i]? = some false := by
    intro S C a i o I n
    have hi : i < S.size := by rw [I.size]; have := (List.getElem?_eq_some_iff.1 n.o).1; simpa using this
    have := n.un
    unfold Ls at this
    simp [hi] at this ⊢
    exact this
  intro fuel
  induction fuel with
  | zero =>
    intro S C a I hext hcnt
    have hr : Region.ready .any ops S = [] := by
      cases hr : Region.ready .any ops S with
      | nil => rfl
      | cons i r =>
        obtain ⟨o, n⟩ := now_of I (i := i) (by rw [hr]; simp)
        have := count_set _ _ (hun I n)
        omega
    exact ⟨hr, hQ S C a I (all_of_ready P I hr) hext⟩
  | succ fuel ih =>
    intro S C a I hext hcnt
    refine ⟨fun hr => hQ S C a I (all_of_ready P I hr) hext, fun i hi => ?_⟩
    obtain ⟨o, n⟩ := now_of I hi
    refine draw_step hc P I n fun C' a' I' hext' => ih _ _ _ I' (hext.trans hext') ?_
    have := count_set _ _ (hun I n)
    rw [Array.toList_setIfInBounds]
    omega

end

theorem calm_spec {E : Env} {f : FuncId} {ops : List Oper} {lb : Lb} {st : List AObj} {hs : List (Lb × List AObj)} (h : calm E f lb st ops hs = true) : (∀ o ∈ ops, locAlloc E f o = none) ∧ ∀ x ∈ hs, x = (lb, st) := by
  unfold calm at h
  simp only [Bool.and_eq_true, List.all_eq_true] at h
  exact ⟨fun o ho => Option.isNone_iff_eq_none.1 (h.1 o ho), fun x hx => Prod.ext (lbBeq_eq (h.2 x hx).1) (stBeq_eq (h.2 x hx).2)⟩

theorem evDraw_wp {E : Env} {callf : CallF} {f N id : Nat} {ops : Array Oper} {Q : Exit → Act → World → Prop} (hmix : E.P.follows .mixedOrders = true) {s s' : St} {C : Ctx} {a : Act} (hc : CallOk E callf) (hE : C.E = E) (hlb : C.lb = s.lb) (hst : C.st = s.st) (hm : Mem C) (ht : TmOk C s.tm N a)
    (h : evDraw E callf f N ops.toList s = some s')
    (hQ : ∀ (C' : Ctx) (a' : Act), Mem C' → Ext C C' → C'.lb = s'.lb → C'.st = s'.st → TmOk C' s'.tm N a' → Q .normal a' C'.w) : (Code.region id ops true).wp E.P Q a C.w := by
  unfold evDraw at h
  split at h
  · cases h
  · rename_i lb hlay
    split at h
    · cases h
    · rename_i rs hs s1 hrec
      simp only at h
      cases hchk : (edgesOK 0 ops.toList && slotsOK ops.toList (bef ops.toList []) && chainOK (bef ops.toList []) (effsOf 0 rs) && (checkQ E f (bef ops.toList []) (effsOf 0 rs) ((lb, s.st) :: hs) 0 ops.toList rs || calm E f lb s.st ops.toList hs))
      · simp only [hchk, cond_false] at h
        cases h
      · simp only [hchk, cond_true, Option.some.injEq] at h
        subst h
        simp only [Bool.and_eq_true] at hchk
        obtain ⟨⟨⟨k1, k2⟩, k3⟩, k4⟩ := hchk
        have P : Plan E callf f N ops { s with lb := lb } s1 rs hs := ⟨hrec, k1, k2, k3, ((Bool.or_eq_true _ _).mp k4).imp (fun h => h) calm_spec⟩
        rw [← hlb] at hlay
        obtain ⟨il', m1, x1, t1, _, _, b1⟩ := layLoc_sound hm ht hlay
        obtain ⟨m2, x2⟩ := mem_same m1 (w' := { C.w with drawn := C.w.drawn + 1 }) rfl rfl rfl rfl
        have t2 : TmOk ((C.locs lb il').more { C.w with drawn := C.w.drawn + 1 }) s.tm N a := ⟨t1.defers, t1.size, fun t v hv => by
          obtain ⟨c, h1, h2⟩ := t1.get t v hv
          exact ⟨c, h1, x2.repT (fun s g cs hs => ⟨g, cs, hs, Nat.le_refl _, fun _ => rfl⟩) h2⟩⟩
        refine wp_region_any hmix ?_
        refine draw_any hc P (C0 := C) (fun S C' a' I hall hext => ?_) ops.size _ ((C.locs lb il').more { C.w with drawn := C.w.drawn + 1 }) a
          { env := hE, size := by simp, closed := fun i j hj _ hl => ?_, split := ⟨[], effsOf 0 rs, rfl, fun j hj => by simp at hj, fun j hj hl => ?_, by simp [Ctx.more, Ctx.locs, hst]⟩, mem := m2, tm := ⟨s.tm, t2, fun t => ⟨fun k o rc _ _ _ hl => ?_, fun _ => rfl⟩⟩, born := fun k o t d h1 h2 _ => ?_ } (x1.trans x2) (by simp)
        · obtain ⟨pre, post, e1, e2, e3, e4⟩ := I.split
          obtain ⟨hlen, hhs, hlast, _⟩ := evRecs_turns _ _ _ _ _ P.recs
          have hpost : post = [] := by
            cases post with
            | nil => rfl
            | cons j r =>
              exfalso
              obtain ⟨_, ⟨r', h1, _⟩, _⟩ := effsOf_spec _ _ _ _ _ e1
              simp at h1
              have : j < rs.length := (List.getElem?_eq_some_iff.1 h1).1
              rw [hlen] at this
              exact e3 j (by simp) (hall j (by simpa using this))
          subst hpost
          have hpl : pre.length = cntE rs := by rw [← effsOf_len rs 0, e1]; simp
          rw [hpl, hlast] at e4
          simp at e4
          obtain ⟨m, q1, q2⟩ := I.tm
          refine hQ C' a' I.mem hext e4.1.symm e4.2.symm ⟨q1.defers, q1.size, fun t v hv => q1.get t v ?_⟩
          obtain ⟨p1, p2⟩ := evRecs_tm _ _ _ _ _ P.recs rs.length s1.tm (.inr ⟨rfl, rfl⟩) t
          rw [← hv]
          by_cases hw : ∃ (k : Nat) (x : Oper), ops.toList[k]? = some x ∧ x.dst = some t
          · obtain ⟨k, x, hk, hx⟩ := hw
            have hkl : k < rs.length := by rw [hlen]; exact (List.getElem?_eq_some_iff.1 hk).1
            have hrk : rs[k]? = some rs[k] := by simp [hkl]
            rw [(q2 t).1 k x _ hk hrk hx (hall k (by have := (List.getElem?_eq_some_iff.1 hk).1; simpa using this)), p1 k x _ hkl hk hrk hx fun k' x' h1 h2 h3 h4 => by have := P.uniq h3 hk h4 hx; omega]
          · rw [(q2 t).2 fun k x h1 h2 => absurd ⟨k, x, h1, h2⟩ hw, p2 fun k x _ h1 h2 => hw ⟨k, x, h1, h2⟩]
        · unfold Ls at hl; simp [Array.getElem?_replicate] at hl
        · unfold Ls at hl; simp [Array.getElem?_replicate] at hl
        · unfold Ls at hl; simp [Array.getElem?_replicate] at hl
        · obtain ⟨⟨g, cs, h3⟩, h4⟩ := b1 k o t d h1 h2
          exact ⟨g, cs, h3, fun _ => h4⟩

end Go.Proofs.YtcfaajaccbadbaaDoor.Ahm
