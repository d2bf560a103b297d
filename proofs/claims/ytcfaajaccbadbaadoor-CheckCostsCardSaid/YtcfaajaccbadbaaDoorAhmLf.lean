/- Rules by which code is stepped through: each looks at parts that have been worked out already. -/
import Derived.Test.YtcfaajaccbadbaaDoorAhmLe
import Derived.Attr
set_option linter.unusedSimpArgs false
set_option linter.unusedVariables false
namespace Go.Proofs.YtcfaajaccbadbaaDoor.Ahm
open Go

section
variable {E : Env} {callf : CallF} {m : Tm} {lb : Lb} {st : List AObj} {s : St}

/-! ways on -/
theorem xev_nil : xev E callf [] s = some s := rfl
theorem xev_cons {d : Option Nat} {g : XG} {p : XOp} {r : List XOper} : xev E callf (⟨d, g, p⟩ :: r) ⟨m, lb, st⟩ =
    andThen (xw m g) (fun w => ifB w (andThen (xop m lb st E callf p) (fun y => xev E callf r ⟨xcons m d y.1, y.2.1, y.2.2⟩) .mk) (xev E callf r ⟨xcons m d (.sc undef), lb, st⟩) .mk) .mk := rfl
theorem xev_run {d : Option Nat} {p : XOp} {r : List XOper} : xev E callf (⟨d, .always, p⟩ :: r) ⟨m, lb, st⟩ =
    andThen (xop m lb st E callf p) (fun y => xev E callf r ⟨xcons m d y.1, y.2.1, y.2.2⟩) .mk := rfl
theorem xev_q {d : Nat} {p : XQ} {r : List XOper} : xev E callf (⟨some d, .always, .q p⟩ :: r) ⟨m, lb, st⟩ =
    andThen (xq m lb st E p) (fun v => xev E callf r ⟨(d, v) :: m, lb, st⟩) .mk := by
  rw [xev_run]
  simp only [xop]
  cases xq m lb st E p <;> rfl
theorem xevS_nil : xevS E callf lb st [] m = some m := rfl
theorem xevS_cons {d : Option Nat} {g : XG} {p : XOp} {r : List XOper} : xevS E callf lb st (⟨d, g, p⟩ :: r) m =
    andThen (xw m g) (fun w => ifB w (andThen (xopS E callf m lb st p) (fun v => xevS E callf lb st r (xcons m d v)) .mk) (xevS E callf lb st r (xcons m d (.sc undef))) .mk) .mk := rfl
theorem xevS_run {d : Option Nat} {p : XOp} {r : List XOper} : xevS E callf lb st (⟨d, .always, p⟩ :: r) m =
    andThen (xopS E callf m lb st p) (fun v => xevS E callf lb st r (xcons m d v)) .mk := rfl
theorem xcons_some {d : Nat} {v : AV} : xcons m (some d) v = (d, v) :: m := rfl
theorem xcons_none {v : AV} : xcons m none v = m := rfl

def wantO (w : Bool) : Option AV → Option Bool
  | some (.sc (.bool b)) => some (bif w then b else !b)
  | some (.sc (.tuple _)) => some false
  | _ => none
theorem xw_always : xw m .always = some true := rfl
theorem xw_never : xw m .never = some false := rfl
theorem xw_on {t : Nat} {w : Bool} : xw m (.on t w) = wantO w (tmGet m t) := by simp only [xw, wantO]; rfl
theorem wantO_t {b : Bool} : wantO true (some (.sc (.bool b))) = some b := rfl
theorem wantO_f {b : Bool} : wantO false (some (.sc (.bool b))) = some (!b) := rfl
theorem wantO_u {w : Bool} {vs : Array Value} : wantO w (some (.sc (.tuple vs))) = some false := rfl
theorem wantO_un {w : Bool} : wantO w (some (.sc undef)) = some false := rfl

/-! tables -/
theorem tmGet_cons {k t : Nat} {v : AV} {r : Tm} : tmGet ((k, v) :: r) t = ifB (decide (k = t)) (some v) (tmGet r t) .mk := by
  simp only [tmGet, nbeq, ifB]; cases decide (k = t) <;> rfl
theorem tmGet_nil {t : Nat} : tmGet [] t = none := rfl
def keepC (t : Nat) (r : Tm) : Option AV → Tm
  | some v => (t, v) :: r
  | none => r
theorem tmKeep_nil : tmKeep [] m = [] := rfl
theorem tmKeep_cons {t : Nat} {l : List Nat} : tmKeep (t :: l) m = keepC t (tmKeep l m) (tmGet m t) := by simp only [tmKeep, keepC]; rfl
theorem keepC_some {t : Nat} {r : Tm} {v : AV} : keepC t r (some v) = (t, v) :: r := rfl
theorem keepC_none {t : Nat} {r : Tm} : keepC t r none = r := rfl
theorem lbGet_cons {k t g : Nat} {c : List AV} {r : Lb} : lbGet ((k, g, c) :: r) t = ifB (decide (k = t)) (some (g, c)) (lbGet r t) .mk := by
  simp only [lbGet, nbeq, ifB]; cases decide (k = t) <;> rfl
theorem lbGet_nil {t : Nat} : lbGet [] t = none := rfl
theorem lbSet_cons {k t g h : Nat} {c e : List AV} {r : Lb} : lbSet ((k, g, c) :: r) t h e = ifB (decide (k = t)) ((k, h, e) :: r) ((k, g, c) :: lbSet r t h e) .mk := by
  simp only [lbSet, nbeq, ifB]; cases decide (k = t) <;> rfl
theorem lbSet_nil {t g : Nat} {c : List AV} : lbSet [] t g c = [(t, g, c)] := rfl
theorem lbKeep_nil : lbKeep m [] = [] := rfl
theorem lbKeep_cons {k g : Nat} {c : List AV} {r : Lb} : lbKeep m ((k, g, c) :: r) = ifB (tmMentions k m) ((k, g, c) :: lbKeep m r) (lbKeep m r) .mk := by
  simp only [lbKeep, ifB]; cases tmMentions k m <;> rfl
theorem tmMentions_nil {k : Nat} : tmMentions k [] = false := rfl
theorem tmMentions_cons {k t : Nat} {v : AV} {r : Tm} : tmMentions k ((t, v) :: r) = (AV.isSlot k v || tmMentions k r) := by
  simp only [tmMentions]; cases AV.isSlot k v <;> rfl
theorem isSlot_lp {k s g o : Nat} : AV.isSlot k (.lp s g o) = decide (s = k) := nbeq _ _
theorem isSlot_sc {k : Nat} {v : Value} : AV.isSlot k (.sc v) = false := rfl
theorem isSlot_sp {k j : Nat} : AV.isSlot k (.sp j) = false := rfl
theorem isSlot_gl {k j : Nat} : AV.isSlot k (.gl j) = false := rfl
theorem isSlot_fs {k n : Nat} {c : List AV} : AV.isSlot k (.fs c n) = false := rfl
theorem isSlot_fp {k n : Nat} {c : List AV} : AV.isSlot k (.fp c n) = false := rfl
theorem isSlot_sl {k a b c d : Nat} : AV.isSlot k (.sl a b c d) = false := rfl
theorem isSlot_rf {k a b c : Nat} : AV.isSlot k (.rf a b c) = false := rfl
theorem isSlot_e0 {k : Nat} : AV.isSlot k .e0 = false := rfl
theorem isSlot_ifc {k t : Nat} {v : AV} : AV.isSlot k (.ifc t v) = false := rfl
theorem isSlot_agg {k : Nat} {c : List AV} : AV.isSlot k (.agg c) = false := rfl
theorem isSlot_tup {k : Nat} {c : List AV} : AV.isSlot k (.tup c) = false := rfl
theorem isSlot_fn {k f : Nat} {a b : List AV} : AV.isSlot k (.fn f a b) = false := rfl
theorem isSlot_mp {k o : Nat} : AV.isSlot k (.mp o) = false := rfl
theorem nextG_eq {d : Nat} : nextG lb d = (match lbGet lb d with | some (g, _) => g + 1 | none => 0) := rfl
def nextO : Option (Nat × List AV) → Nat
  | some (g, _) => g + 1
  | none => 0
theorem nextG_o {d : Nat} : nextG lb d = nextO (lbGet lb d) := by unfold nextG nextO; rfl
theorem nextO_none : nextO none = 0 := rfl
theorem nextO_some {g : Nat} {c : List AV} : nextO (some (g, c)) = g + 1 := rfl
theorem xtrim_eq {l : List Nat} : xtrim l ⟨m, lb, st⟩ = ⟨tmKeep l m, lbKeep (tmKeep l m) lb, st⟩ := rfl

/-! operands -/
theorem xv_t {n : Nat} : xv m (.t n) = tmGet m n := rfl
theorem xv_k {v : AV} : xv m (.k v) = some v := rfl
def consV : Option AV → Option (List AV) → Option (List AV)
  | some v, some l => some (v :: l)
  | _, _ => none
theorem consV_some {v : AV} {l : List AV} : consV (some v) (some l) = some (v :: l) := rfl
theorem xvs_nil : xvs m [] = some [] := rfl
theorem xvs_cons {x : XV} {r : List XV} : xvs m (x :: r) = consV (xv m x) (xvs m r) := by
  simp only [xvs]; cases xv m x <;> cases xvs m r <;> rfl
def liveO (lb : Lb) (st : List AObj) : Option AV → Option AV
  | some v => ifB (liveA lb st v) (some v) none .mk
  | none => none
theorem xl_eq {x : XV} : xl m lb st x = liveO lb st (xv m x) := by
  unfold xl liveO; cases xv m x with
  | none => rfl
  | some v => simp only [ifB]; cases liveA lb st v <;> rfl
theorem liveO_some {v : AV} : liveO lb st (some v) = ifB (liveA lb st v) (some v) none .mk := rfl
theorem liveA_sc {v : Value} : liveA lb st (.sc v) = true := rfl
theorem liveA_sp {j : Nat} : liveA lb st (.sp j) = true := rfl
theorem liveA_gl {j : Nat} : liveA lb st (.gl j) = true := rfl
theorem liveA_fs {n : Nat} {c : List AV} : liveA lb st (.fs c n) = true := rfl
theorem liveA_fp {n : Nat} {c : List AV} : liveA lb st (.fp c n) = true := rfl
theorem liveA_e0 : liveA lb st .e0 = true := rfl
theorem liveA_ifc {t : Nat} {v : AV} : liveA lb st (.ifc t v) = true := rfl
theorem liveA_agg {c : List AV} : liveA lb st (.agg c) = true := rfl
theorem liveA_tup {c : List AV} : liveA lb st (.tup c) = true := rfl
theorem liveA_fn {f : Nat} {a b : List AV} : liveA lb st (.fn f a b) = true := rfl
theorem liveA_mp {o : Nat} : liveA lb st (.mp o) = true := rfl
def liveOb (L : Nat) : Option AObj → Bool
  | some (.arr cells _ _) => decide (cells.length = L)
  | _ => false
theorem liveA_rf {o off L : Nat} : liveA lb st (.rf o off L) = liveOb L st[o]? := by
  simp only [liveA, liveOb]; cases st[o]? with
  | none => rfl
  | some x => cases x <;> simp only [nbeq]
theorem liveA_sl {o off n L : Nat} : liveA lb st (.sl o off n L) = liveOb L st[o]? := by
  simp only [liveA, liveOb]; cases st[o]? with
  | none => rfl
  | some x => cases x <;> simp only [nbeq]
theorem liveOb_arr {L e : Nat} {w : Bool} {c : List AV} : liveOb L (some (.arr c e w)) = decide (c.length = L) := rfl
def liveLp (g : Nat) : Option (Nat × List AV) → Bool
  | some (g', _) => decide (g = g')
  | none => false
theorem liveA_lp {k g off : Nat} : liveA lb st (.lp k g off) = liveLp g (lbGet lb k) := by
  simp only [liveA, liveLp]; cases lbGet lb k with
  | none => rfl
  | some x => simp only [nbeq]
theorem liveLp_some {g g' : Nat} {c : List AV} : liveLp g (some (g', c)) = decide (g = g') := rfl
theorem xo_none : xo m none = some none := rfl
def someO : Option AV → Option (Option AV)
  | some v => some (some v)
  | none => none
theorem xo_some {x : XV} : xo m (some x) = someO (xv m x) := by simp only [xo, someO]; rfl
theorem someO_some {v : AV} : someO (some v) = some (some v) := rfl
def consP (o s : Nat) : Option AV → Option (List (Nat × Nat × AV)) → Option (List (Nat × Nat × AV))
  | some v, some l => some ((o, s, v) :: l)
  | _, _ => none
theorem xps_nil : xps m [] = some [] := rfl
theorem xps_cons {o k : Nat} {x : XV} {r : List (Nat × Nat × XV)} : xps m ((o, k, x) :: r) = consP o k (xv m x) (xps m r) := by
  simp only [xps]; cases xv m x <;> cases xps m r <;> rfl
theorem consP_some {o k : Nat} {v : AV} {l : List (Nat × Nat × AV)} : consP o k (some v) (some l) = some ((o, k, v) :: l) := rfl

/-! one, two values -/
def o1 {α β : Type} (f : α → Option β) : Option α → Option β
  | some a => f a
  | none => none
def o2 {α β γ : Type} (f : α → β → Option γ) : Option α → Option β → Option γ
  | some a, some b => f a b
  | _, _ => none
theorem o1_some {α β : Type} {f : α → Option β} {a : α} : o1 f (some a) = f a := rfl
theorem o2_some {α β γ : Type} {f : α → β → Option γ} {a : α} {b : β} : o2 f (some a) (some b) = f a b := rfl

/-! memory -/
theorem cut_nil {c : List AV} : cut c 0 0 = some [] := by simp [cut, nble]
theorem cut_zero {c : List AV} {a : AV} {n : Nat} : cut (a :: c) 0 (n + 1) = consV (some a) (cut c 0 n) := by
  simp only [cut, nble, List.length_cons, Nat.zero_add, Nat.add_le_add_iff_right, List.drop_zero, List.take_succ_cons]
  cases decide (n ≤ c.length) <;> rfl
theorem cut_succ {c : List AV} {a : AV} {o n : Nat} : cut (a :: c) (o + 1) n = cut c o n := by
  simp only [cut, nble, List.length_cons, List.drop_succ_cons]
  have : (o + 1 + n ≤ c.length + 1) = (o + n ≤ c.length) := by apply propext; omega
  simp only [this]
def rdOb (L off n : Nat) : Option AObj → Option (List AV)
  | some (.arr c _ _) => ifB (decide (c.length = L)) (cut c off n) none .mk
  | _ => none
def rdLp (g off n : Nat) : Option (Nat × List AV) → Option (List AV)
  | some (g', c) => ifB (decide (g = g')) (cut c off n) none .mk
  | none => none
theorem rd_fp {c : List AV} {off n : Nat} : rdCells E lb st (.fp c off) n = cut c off n := rfl
theorem rd_rf {o off L n : Nat} : rdCells E lb st (.rf o off L) n = rdOb L off n st[o]? := by
  simp only [rdCells, rdOb]; cases st[o]? with
  | none => rfl
  | some x => cases x with
    | arr c e w => simp only [nbeq, ifB]; cases decide (c.length = L) <;> rfl
    | map es => rfl
theorem rdOb_arr {L off n e : Nat} {w : Bool} {c : List AV} : rdOb L off n (some (.arr c e w)) = ifB (decide (c.length = L)) (cut c off n) none .mk := rfl
theorem rd_lp {k g off n : Nat} : rdCells E lb st (.lp k g off) n = rdLp g off n (lbGet lb k) := by
  simp only [rdCells, rdLp]; cases lbGet lb k with
  | none => rfl
  | some x => obtain ⟨g', c⟩ := x; simp only [nbeq, ifB]; cases decide (g = g') <;> rfl
theorem rdLp_some {g g' off n : Nat} {c : List AV} : rdLp g off n (some (g', c)) = ifB (decide (g = g')) (cut c off n) none .mk := rfl
theorem rd_gl {g : Nat} : rdCells E lb st (.gl g) 1 = (E.glob g).map ([·]) := rfl
def aggO : Option (List AV) → Option AV
  | some l => some (.agg l)
  | none => none
theorem aggO_some {l : List AV} : aggO (some l) = some (.agg l) := rfl
def oneO : Option (List AV) → Option AV
  | some [v] => some v
  | _ => none
theorem oneO_some {v : AV} : oneO (some [v]) = some v := rfl
theorem xload_some {n : Nat} {p : AV} : xload lb st E (some n) p = aggO (rdCells E lb st p n) := by
  simp only [xload]; cases rdCells E lb st p n <;> rfl
theorem xload_none {p : AV} : xload lb st E none p = oneO (rdCells E lb st p 1) := by
  simp only [xload]; cases rdCells E lb st p 1 with
  | none => rfl
  | some l => cases l with
    | nil => rfl
    | cons a l => cases l <;> rfl
theorem xpart_some {n off : Nat} {c : List AV} : xpart (some n) c off = aggO (cut c off n) := by
  simp only [xpart]; cases cut c off n <;> rfl
theorem xpart_none {off : Nat} {c : List AV} : xpart none c off = c[off]? := rfl
theorem ptrAdd_fp {c : List AV} {o n : Nat} : ptrAdd (.fp c o) n = some (.fp c (o + n)) := rfl
theorem ptrAdd_rf {a o L n : Nat} : ptrAdd (.rf a o L) n = some (.rf a (o + n) L) := rfl
theorem ptrAdd_lp {a g o n : Nat} : ptrAdd (.lp a g o) n = some (.lp a g (o + n)) := rfl

theorem ifB_not {α : Type} {b : Bool} {x y : α} {t : Tag0 (x, y)} : ifB (!b) x y t = ifB b y x .mk := by cases b <;> rfl

/-! operations that change nothing -/
theorem xq_mv {x : XV} : xq m lb st E (.mv x) = xv m x := rfl
def pickO (a b : Option AV) : Option AV → Option AV
  | some (.sc (.bool t)) => ifB t a b .mk
  | _ => none
theorem xq_pick {c a b : XV} : xq m lb st E (.pick c a b) = pickO (xv m a) (xv m b) (xv m c) := by
  simp only [xq, pickO, ifB]
  split
  · rename_i t h; rw [h]; cases t <;> rfl
  · split
    · rename_i h1 _ t h2; exact (h1 _ h2).elim
    · rfl
theorem pickO_b {a b : Option AV} {t : Bool} : pickO a b (some (.sc (.bool t))) = ifB t a b .mk := rfl
theorem pick_tt {a : AV} : ifB true (some a) (none : Option AV) .mk = some a := rfl
theorem xq_build {z : List AV} {ps : List (Nat × Nat × XV)} : xq m lb st E (.build z ps) = aggO (o1 (xfill z) (xps m ps)) := by
  simp only [xq]; cases xps m ps with
  | none => rfl
  | some vs => simp only [o1]; cases xfill z vs <;> rfl
theorem xq_load {n : Option Nat} {x : XV} : xq m lb st E (.load n x) = o1 (xload lb st E n) (xv m x) := by
  simp only [xq]; cases xv m x <;> rfl
def nilckF (v : AV) : Option AV := ifB (isNonNilPtr v) (some v) none .mk
theorem xq_nilck {x : XV} : xq m lb st E (.nilck x) = o1 nilckF (xl m lb st x) := by
  simp only [xq]; cases xl m lb st x with
  | none => rfl
  | some v => simp only [o1, nilckF, ifB]; cases isNonNilPtr v <;> rfl
theorem nilckF_rf {a b c : Nat} : nilckF (.rf a b c) = some (.rf a b c) := rfl
theorem nilckF_lp {a b c : Nat} : nilckF (.lp a b c) = some (.lp a b c) := rfl
theorem nilckF_fp {c : List AV} {n : Nat} : nilckF (.fp c n) = some (.fp c n) := rfl
theorem xq_bin {op : BinOp} {c : EqC} {k : Bool} {x y : XV} : xq m lb st E (.bin op c k x y) = o2 (xbin E op c k) (xl m lb st x) (xl m lb st y) := by
  simp only [xq]; cases xl m lb st x <;> cases xl m lb st y <;> rfl
def notF : Option AV → Option AV
  | some (.sc (.bool b)) => some (.sc (.bool !b))
  | _ => none
theorem xq_not {x : XV} : xq m lb st E (.not x) = notF (xv m x) := by simp only [xq, notF]; rfl
theorem notF_b {b : Bool} : notF (some (.sc (.bool b))) = some (.sc (.bool !b)) := rfl
def negF : Option AV → Option AV
  | some (.sc (.int k n)) => some (.sc (.int k (k.wrap (0 - n))))
  | _ => none
theorem xq_neg {x : XV} : xq m lb st E (.neg x) = negF (xv m x) := by simp only [xq, negF]; rfl
theorem negF_i {k : IntKind} {n : Int} : negF (some (.sc (.int k n))) = some (.sc (.int k (k.wrap (0 - n)))) := rfl
def convF (k : IntKind) : Option AV → Option AV
  | some (.sc (.int _ n)) => some (.sc (.int k (k.wrap n)))
  | _ => none
theorem xq_conv {k : IntKind} {x : XV} : xq m lb st E (.conv k x) = convF k (xv m x) := by simp only [xq, convF]; rfl
theorem convF_i {k l : IntKind} {n : Int} : convF k (some (.sc (.int l n))) = some (.sc (.int k (k.wrap n))) := rfl
def strF (st : List AObj) (v : AV) : Option AV := match xsrc st 1 .sl v with
  | some (cells, _) => (bytesA cells).map fun l => .sc (.string ⟨l.toArray⟩)
  | none => none
theorem xq_str {x : XV} : xq m lb st E (.str x) = o1 (strF st) (xv m x) := by
  simp only [xq]; cases xv m x <;> rfl
def ifcF (t : Nat) (v : AV) : Option AV := ifB v.isLp none (some (.ifc t v)) .mk
theorem xq_ifc {t : Nat} {x : XV} : xq m lb st E (.ifc t x) = o1 (ifcF t) (xv m x) := by
  simp only [xq]; cases xv m x with
  | none => rfl
  | some v => simp only [o1, ifcF, ifB]; cases v.isLp <;> rfl
theorem ifcF_eq {t : Nat} {v : AV} : ifcF t v = ifB v.isLp none (some (.ifc t v)) .mk := rfl
def fnF (f : Nat) (a b : List AV) : Option AV := ifB (a.any AV.isLp || b.any AV.isLp) none (some (.fn f a b)) .mk
theorem xq_fn {f : Nat} {a b : List XV} : xq m lb st E (.fn f a b) = o2 (fnF f) (xvs m a) (xvs m b) := by
  simp only [xq]; cases xvs m a with
  | none => rfl
  | some u => cases xvs m b with
    | none => rfl
    | some v => simp only [o2, fnF, ifB]; cases (u.any AV.isLp || v.any AV.isLp) <;> rfl
theorem fnF_eq {f : Nat} {a b : List AV} : fnF f a b = ifB (a.any AV.isLp || b.any AV.isLp) none (some (.fn f a b)) .mk := rfl
theorem isLp_sc {v : Value} : AV.isLp (.sc v) = false := rfl
theorem isLp_sp {k : Nat} : AV.isLp (.sp k) = false := rfl
theorem isLp_gl {k : Nat} : AV.isLp (.gl k) = false := rfl
theorem isLp_fs {n : Nat} {c : List AV} : AV.isLp (.fs c n) = false := rfl
theorem isLp_fp {n : Nat} {c : List AV} : AV.isLp (.fp c n) = false := rfl
theorem isLp_sl {a b c d : Nat} : AV.isLp (.sl a b c d) = false := rfl
theorem isLp_rf {a b c : Nat} : AV.isLp (.rf a b c) = false := rfl
theorem isLp_e0 : AV.isLp .e0 = false := rfl
theorem isLp_ifc {t : Nat} {v : AV} : AV.isLp (.ifc t v) = false := rfl
theorem isLp_agg {c : List AV} : AV.isLp (.agg c) = false := rfl
theorem isLp_tup {c : List AV} : AV.isLp (.tup c) = false := rfl
theorem isLp_fn {f : Nat} {a b : List AV} : AV.isLp (.fn f a b) = false := rfl
theorem isLp_mp {o : Nat} : AV.isLp (.mp o) = false := rfl
theorem isLp_lp {a b c : Nat} : AV.isLp (.lp a b c) = true := rfl
theorem xq_fa {off : Nat} {x : XV} : xq m lb st E (.fa off x) = o1 (fun p => ptrAdd p off) (xl m lb st x) := by
  simp only [xq]; cases xl m lb st x <;> rfl
def fldF (n : Option Nat) (off : Nat) : Option AV → Option AV
  | some (.agg c) => xpart n c off
  | _ => none
theorem xq_fld {n : Option Nat} {off : Nat} {x : XV} : xq m lb st E (.fld n off x) = fldF n off (xv m x) := by simp only [xq, fldF]; rfl
theorem fldF_agg {n : Option Nat} {off : Nat} {c : List AV} : fldF n off (some (.agg c)) = xpart n c off := rfl
theorem xq_iaS {k : Nat} {x i : XV} : xq m lb st E (.iaS k x i) = o2 (xiaS k) (xl m lb st x) (xv m i) := by
  simp only [xq]; cases xl m lb st x <;> cases xv m i <;> rfl
theorem xq_iaA {n k : Nat} {x i : XV} : xq m lb st E (.iaA n k x i) = o2 (xiaA n k) (xl m lb st x) (xv m i) := by
  simp only [xq]; cases xl m lb st x <;> cases xv m i <;> rfl
theorem xq_ixA {n k : Nat} {a : Option Nat} {x i : XV} : xq m lb st E (.ixA n k a x i) = o2 (xixA n k a) (xv m x) (xv m i) := by
  simp only [xq]; cases xv m x <;> cases xv m i <;> rfl
theorem xq_ixS {x i : XV} : xq m lb st E (.ixS x i) = o2 xixS (xv m x) (xv m i) := by
  simp only [xq]; cases xv m x <;> cases xv m i <;> rfl
theorem xiaS_fs {k n : Nat} {c : List AV} {l : IntKind} {i : Int} : xiaS k (.fs c n) (.sc (.int l i)) = ifB (inB i n) (ifB (decide (c.length ≤ i.toNat * k)) none (some (.fp c (i.toNat * k))) .mk) none .mk := by
  simp only [xiaS, sIntOf, nble, ifB]; cases inB i n <;> cases decide (c.length ≤ i.toNat * k) <;> rfl
theorem xiaS_sl {k o off n L : Nat} {l : IntKind} {i : Int} : xiaS k (.sl o off n L) (.sc (.int l i)) = ifB (inB i n) (some (.rf o (off + i.toNat * k) L)) none .mk := by
  simp only [xiaS, sIntOf, ifB]; cases inB i n <;> rfl
theorem xiaA_eq {n k : Nat} {x : AV} {l : IntKind} {i : Int} : xiaA n k x (.sc (.int l i)) = ifB (inB i n) (ptrAdd x (i.toNat * k)) none .mk := by
  simp only [xiaA, sIntOf, ifB]; cases inB i n <;> rfl
theorem xixA_eq {n k : Nat} {a : Option Nat} {c : List AV} {l : IntKind} {i : Int} : xixA n k a (.agg c) (.sc (.int l i)) = ifB (inB i n) (xpart a c (i.toNat * k)) none .mk := by
  simp only [xixA, sIntOf, ifB]; cases inB i n <;> rfl
theorem inB_eq {i : Int} {n : Nat} : inB i n = (decide (0 ≤ i) && decide (i < (n : Int))) := rfl
theorem xq_look {z : AV} {k : Bool} {x i : XV} : xq m lb st E (.look z k x i) = o2 (xlook st z k) (xv m x) (xv m i) := by
  simp only [xq]; cases xv m x <;> cases xv m i <;> rfl
theorem xq_tas {t : Nat} {z : Option AV} {k : Bool} {x : XV} : xq m lb st E (.tas t z k x) = o1 (xtas t z k) (xv m x) := by
  simp only [xq]; cases xv m x <;> rfl
def extF (i : Nat) : Option AV → Option AV
  | some (.tup vs) => vs[i]?
  | _ => none
theorem xq_ext {x : XV} {i : Nat} : xq m lb st E (.ext x i) = extF i (xv m x) := by simp only [xq, extF]; rfl
theorem extF_tup {i : Nat} {vs : List AV} : extF i (some (.tup vs)) = vs[i]? := rfl
theorem xq_lenL {x : XV} : xq m lb st E (.lenL x) = o1 xlenL (xl m lb st x) := by
  simp only [xq]; cases xl m lb st x <;> rfl
theorem xlenL_nil : xlenL (.sc (.slice none 0 0)) = some (.sc (.int .i64 0)) := rfl
theorem xlenL_fs {c : List AV} {n : Nat} : xlenL (.fs c n) = some (.sc (.int .i64 n)) := rfl
theorem xlenL_sl {o off n L : Nat} : xlenL (.sl o off n L) = some (.sc (.int .i64 n)) := rfl
theorem xlenL_e0 : xlenL .e0 = some (.sc (.int .i64 0)) := rfl
theorem xq_mx {b : Bool} {l : List XV} : xq m lb st E (.mx b l) = o1 (maxA b) (xvs m l) := by
  simp only [xq]; cases xvs m l <;> rfl
theorem maxA_t {k : IntKind} {a b : Int} : maxA true [.sc (.int k a), .sc (.int k b)] = some (.sc (.int k (max a b))) := by
  have : (if b > a then b else a) = max a b := by omega
  simp [maxA, this]
theorem maxA_f {k : IntKind} {a b : Int} : maxA false [.sc (.int k a), .sc (.int k b)] = some (.sc (.int k (min a b))) := by
  have : (if b < a then b else a) = min a b := by omega
  simp [maxA, this]
def slF (st : List AObj) (k e : Nat) (v : Option AV) (l h x : Option (Option AV)) : Option AV :=
  match v, l, h, x with
  | some v, some l, some h, some x => xsl st k e v l h x
  | _, _, _, _ => none
theorem xq_sl {k e : Nat} {x : XV} {l h y : Option XV} : xq m lb st E (.sl k e x l h y) = slF st k e (xl m lb st x) (xo m l) (xo m h) (xo m y) := by
  simp only [xq, slF]; rfl
theorem slF_some {k e : Nat} {v : AV} {l h x : Option AV} : slF st k e (some v) (some l) (some h) (some x) = xsl st k e v l h x := rfl

/-! numbers -/
section
variable {c : EqC} {cst : Bool} {k : IntKind} {p q : Int}
theorem bin_add : xbin E .add c cst (.sc (.int k p)) (.sc (.int k q)) = some (.sc (.int k (k.wrap (p + q)))) := by simp [xbin, binInt]
theorem bin_sub : xbin E .sub c cst (.sc (.int k p)) (.sc (.int k q)) = some (.sc (.int k (k.wrap (p - q)))) := by simp [xbin, binInt]
theorem bin_mul : xbin E .mul c cst (.sc (.int k p)) (.sc (.int k q)) = some (.sc (.int k (k.wrap (p * q)))) := by simp [xbin, binInt]
theorem bin_quo : xbin E .quo c cst (.sc (.int k p)) (.sc (.int k q)) = ifB (decide (q = 0)) none (some (.sc (.int k (k.wrap (p.tdiv q))))) .mk := by
  by_cases h : q = 0 <;> simp [xbin, binInt, h, ifB]
theorem bin_rem : xbin E .rem c cst (.sc (.int k p)) (.sc (.int k q)) = ifB (decide (q = 0)) none (some (.sc (.int k (p.tmod q)))) .mk := by
  by_cases h : q = 0 <;> simp [xbin, binInt, h, ifB]
theorem bin_and : xbin E .and c cst (.sc (.int k p)) (.sc (.int k q)) = some (.sc (.int k (k.wrap (BitVec.ofInt k.bits p &&& BitVec.ofInt k.bits q).toNat))) := by simp [xbin, binInt]
theorem bin_or : xbin E .or c cst (.sc (.int k p)) (.sc (.int k q)) = some (.sc (.int k (k.wrap (BitVec.ofInt k.bits p ||| BitVec.ofInt k.bits q).toNat))) := by simp [xbin, binInt]
theorem bin_xor : xbin E .xor c cst (.sc (.int k p)) (.sc (.int k q)) = some (.sc (.int k (k.wrap (BitVec.ofInt k.bits p ^^^ BitVec.ofInt k.bits q).toNat))) := by simp [xbin, binInt]
theorem bin_andNot : xbin E .andNot c cst (.sc (.int k p)) (.sc (.int k q)) = some (.sc (.int k (k.wrap (BitVec.ofInt k.bits p &&& ~~~BitVec.ofInt k.bits q).toNat))) := by simp [xbin, binInt]
theorem bin_eql : xbin E .eql c cst (.sc (.int k p)) (.sc (.int k q)) = some (.sc (.bool (decide (p = q)))) := by
  have : (p == q) = decide (p = q) := by by_cases h : p = q <;> simp [h]
  simp [xbin, binInt, this]
theorem bin_neq : xbin E .neq c cst (.sc (.int k p)) (.sc (.int k q)) = some (.sc (.bool (!decide (p = q)))) := by
  have : (p != q) = !decide (p = q) := by by_cases h : p = q <;> simp [h]
  simp [xbin, binInt, this]
theorem bin_lss : xbin E .lss c cst (.sc (.int k p)) (.sc (.int k q)) = some (.sc (.bool (decide (p < q)))) := by simp [xbin, binInt]
theorem bin_leq : xbin E .leq c cst (.sc (.int k p)) (.sc (.int k q)) = some (.sc (.bool (decide (p ≤ q)))) := by simp [xbin, binInt]
theorem bin_gtr : xbin E .gtr c cst (.sc (.int k p)) (.sc (.int k q)) = some (.sc (.bool (decide (q < p)))) := by simp [xbin, binInt]
theorem bin_geq : xbin E .geq c cst (.sc (.int k p)) (.sc (.int k q)) = some (.sc (.bool (decide (q ≤ p)))) := by simp [xbin, binInt]
theorem bin_shl {l : IntKind} : xbin E .shl c cst (.sc (.int k p)) (.sc (.int l q)) = ifB (decide (q < 0)) none (some (.sc (.int k (k.wrap (p * 2 ^ (min q.toNat k.bits)))))) .mk := by
  by_cases h : q < 0 <;> simp [xbin, shiftA, h, ifB]
theorem bin_shr {l : IntKind} : xbin E .shr c cst (.sc (.int k p)) (.sc (.int l q)) = ifB (decide (q < 0)) none (some (.sc (.int k (p.fdiv (2 ^ (min q.toNat k.bits)))))) .mk := by
  by_cases h : q < 0 <;> simp [xbin, shiftA, h, ifB]
theorem eql_b {a b : Bool} : xbin E .eql .bool cst (.sc (.bool a)) (.sc (.bool b)) = some (.sc (.bool (a == b))) := rfl
theorem neq_b {a b : Bool} : xbin E .neq .bool cst (.sc (.bool a)) (.sc (.bool b)) = some (.sc (.bool !(a == b))) := rfl
theorem eql_nn : xbin E .eql .iface true (.sc .nilIface) (.sc .nilIface) = some (.sc (.bool true)) := rfl
theorem neq_nn : xbin E .neq .iface true (.sc .nilIface) (.sc .nilIface) = some (.sc (.bool false)) := rfl
theorem eql_in {t : Nat} {v : AV} : xbin E .eql .iface cst (.ifc t v) (.sc .nilIface) = some (.sc (.bool false)) := by cases v <;> rfl
theorem neq_in {t : Nat} {v : AV} : xbin E .neq .iface cst (.ifc t v) (.sc .nilIface) = some (.sc (.bool true)) := by cases v <;> rfl
theorem eql_ni {t : Nat} {v : AV} : xbin E .eql .iface cst (.sc .nilIface) (.ifc t v) = some (.sc (.bool false)) := by cases v <;> rfl
theorem neq_ni {t : Nat} {v : AV} : xbin E .neq .iface cst (.sc .nilIface) (.ifc t v) = some (.sc (.bool true)) := by cases v <;> rfl
theorem eql_ss {t u i j : Nat} : xbin E .eql .iface cst (.ifc t (.sp i)) (.ifc u (.sp j)) = ifB (E.sent i && E.sent j && decide (t = u) && ptrOK E t) (some (.sc (.bool (decide (i = j))))) none .mk := by
  simp only [xbin, isEq, xeq, nbeq, ifB]; cases (E.sent i && E.sent j && decide (t = u) && ptrOK E t) <;> rfl
theorem neq_ss {t u i j : Nat} : xbin E .neq .iface cst (.ifc t (.sp i)) (.ifc u (.sp j)) = ifB (E.sent i && E.sent j && decide (t = u) && ptrOK E t) (some (.sc (.bool (!decide (i = j))))) none .mk := by
  simp only [xbin, isEq, xeq, nbeq, ifB]; cases (E.sent i && E.sent j && decide (t = u) && ptrOK E t) <;> rfl
theorem eql_pn : xbin E .eql .ptr cst (.sc (.pointer none)) (.sc (.pointer none)) = some (.sc (.bool true)) := rfl
theorem neq_pn : xbin E .neq .ptr cst (.sc (.pointer none)) (.sc (.pointer none)) = some (.sc (.bool false)) := rfl
theorem eql_sn : xbin E .eql .slice cst (.sc (.slice none 0 0)) (.sc (.slice none 0 0)) = some (.sc (.bool true)) := rfl
theorem neq_sn : xbin E .neq .slice cst (.sc (.slice none 0 0)) (.sc (.slice none 0 0)) = some (.sc (.bool false)) := rfl
theorem eql_fsn {l : List AV} {n : Nat} : xbin E .eql .slice cst (.fs l n) (.sc (.slice none 0 0)) = some (.sc (.bool false)) := rfl
theorem neq_fsn {l : List AV} {n : Nat} : xbin E .neq .slice cst (.fs l n) (.sc (.slice none 0 0)) = some (.sc (.bool true)) := rfl
theorem eql_sln {o a n L : Nat} : xbin E .eql .slice cst (.sl o a n L) (.sc (.slice none 0 0)) = some (.sc (.bool false)) := rfl
theorem neq_sln {o a n L : Nat} : xbin E .neq .slice cst (.sl o a n L) (.sc (.slice none 0 0)) = some (.sc (.bool true)) := rfl
end

/-! operations that change memory -/
theorem xop_q {x : XQ} : xop m lb st E callf (.q x) = andThen (xq m lb st E x) (fun v => some (v, lb, st)) .mk := rfl
theorem xop_e {x : XE} : xop m lb st E callf (.e x) = xe m lb st E x := rfl
theorem xop_call {x : XV} {l : List XV} : xop m lb st E callf (.call x l) = andThen (xcall m st callf x l) (fun y => ifB y.1.isLp none (some (y.1, lb, y.2)) .mk) .mk := rfl
def callO (st : List AObj) (callf : CallF) : Option AV → Option (List AV) → Option (AV × List AObj)
  | some (.fn g a b), some as => ifB (as.any AV.isLp) none (callf g (a ++ as ++ b) st) .mk
  | _, _ => none
theorem xcall_eq {x : XV} {l : List XV} : xcall m st callf x l = callO st callf (xv m x) (xvs m l) := by
  unfold xcall callO
  cases xv m x with
  | none => rfl
  | some v => cases v <;> first | rfl | (cases xvs m l <;> rfl)
theorem callO_fn {g : Nat} {a b as : List AV} : callO st callf (some (.fn g a b)) (some as) = ifB (as.any AV.isLp) none (callf g (a ++ as ++ b) st) .mk := rfl
theorem xopS_q {x : XQ} : xopS E callf m lb st (.q x) = xq m lb st E x := rfl
theorem xopS_call {x : XV} {l : List XV} : xopS E callf m lb st (.call x l) = xcallV E st callf m x l := rfl
def callVO (st : List AObj) (callf : CallF) : Option AV → Option (List AV) → Option AV
  | some (.fn g a b), some as => ifB (as.any AV.isLp) none (andThen (callf g (a ++ as ++ b) st) (fun y => ifB (stBeq y.2 st && !y.1.isLp) (some y.1) none .mk) .mk) .mk
  | _, _ => none
theorem xcallV_eq {x : XV} {l : List XV} : xcallV E st callf m x l = callVO st callf (xv m x) (xvs m l) := by
  unfold xcallV callVO
  cases xv m x with
  | none => rfl
  | some v => cases v <;> first | rfl | (cases xvs m l <;> rfl)
theorem callVO_fn {g : Nat} {a b as : List AV} : callVO st callf (some (.fn g a b)) (some as) = ifB (as.any AV.isLp) none (andThen (callf g (a ++ as ++ b) st) (fun y => ifB (stBeq y.2 st && !y.1.isLp) (some y.1) none .mk) .mk) .mk := rfl
theorem any_nil : ([] : List AV).any AV.isLp = false := rfl
theorem any_cons {v : AV} {r : List AV} : (v :: r).any AV.isLp = (v.isLp || r.any AV.isLp) := rfl

theorem xe_new {d t : Nat} {l : Bool} {z : List AV} : xe m lb st E (.new d t l z) = some (xnew lb st d t l z) := rfl
theorem xnew_loc {d t : Nat} {z : List AV} : xnew lb st d t true z = (.lp d (nextG lb d) 0, lbSet lb d (nextG lb d) z, st) := rfl
theorem xnew_heap {d t : Nat} {z : List AV} : xnew lb st d t false z = (.rf st.length 0 z.length, lb, st ++ [.arr z t true]) := rfl
def boxF (lb : Lb) (st : List AObj) (d t : Nat) (l : Bool) (n : Nat) (v : AV) : Option (AV × Lb × List AObj) := ifB (decide (v.cells.length = n) && v.cells.all AV.isCell) (some (xnew lb st d t l v.cells)) none .mk
theorem xe_box {d t n : Nat} {l : Bool} {x : XV} : xe m lb st E (.box d t l n x) = o1 (boxF lb st d t l n) (xv m x) := by
  simp only [xe, nbeq]; cases xv m x with
  | none => rfl
  | some v => simp only [o1, boxF, ifB]; cases (decide (v.cells.length = n) && v.cells.all AV.isCell) <;> rfl
theorem boxF_eq {d t n : Nat} {l : Bool} {v : AV} : boxF lb st d t l n v = ifB (decide (v.cells.length = n) && v.cells.all AV.isCell) (some (xnew lb st d t l v.cells)) none .mk := rfl
def bslF (lb : Lb) (st : List AObj) (lit : Bool) (e k len : Nat) (cells : List AV) : Option (AV × Lb × List AObj) := ifB (lit && isFzL cells) (some (.fs cells len, lb, st)) (some (.sl st.length 0 len (len * k), lb, st ++ [.arr cells e true])) .mk
theorem xe_bsl {lit : Bool} {e k len : Nat} {z : List AV} {ps : List (Nat × Nat × XV)} : xe m lb st E (.bsl lit e z k len ps) = o1 (bslF lb st lit e k len) (o1 (xfill (rep z len)) (xps m ps)) := by
  simp only [xe]; cases xps m ps with
  | none => rfl
  | some vs => simp only [o1]; cases xfill (rep z len) vs with
    | none => rfl
    | some c => simp only [bslF, ifB]; cases (lit && isFzL c) <;> rfl
theorem bslF_f {e k len : Nat} {c : List AV} : bslF lb st false e k len c = some (.sl st.length 0 len (len * k), lb, st ++ [.arr c e true]) := rfl
theorem bslF_t {e k len : Nat} {c : List AV} : bslF lb st true e k len c = ifB (isFzL c) (some (.fs c len, lb, st)) (some (.sl st.length 0 len (len * k), lb, st ++ [.arr c e true])) .mk := rfl
def mksF (lb : Lb) (st : List AObj) (e : Nat) (z : List AV) (k b : Nat) (u v : AV) : Option (AV × Lb × List AObj) :=
  match u, v with
  | .sc (.int _ l), .sc (.int _ c) => ifB (decide (0 ≤ l) && decide (l ≤ c) && decide (c.toNat * b ≤ roomA) && decide (c ≤ 9223372036854775807)) (some (.sl st.length 0 l.toNat (c.toNat * k), lb, st ++ [.arr (rep z c.toNat) e true])) none .mk
  | _, _ => none
theorem xe_mks {e k b : Nat} {z : List AV} {x y : XV} : xe m lb st E (.mks e z k b x y) = o2 (mksF lb st e z k b) (xv m x) (xv m y) := by
  simp only [xe, nble]; cases xv m x with
  | none => rfl
  | some u => cases xv m y with
    | none => rfl
    | some v =>
      simp only [o2, mksF]
      cases u with
      | sc a => cases a with
        | int k1 l => cases v with
          | sc b' => cases b' with
            | int k2 c => simp only [sIntOf, ifB]; cases (decide (0 ≤ l) && decide (l ≤ c) && decide (c.toNat * b ≤ roomA) && decide (c ≤ 9223372036854775807)) <;> rfl
            | _ => rfl
          | _ => rfl
        | _ => rfl
      | _ => rfl
theorem mksF_eq {e k b : Nat} {z : List AV} {k1 k2 : IntKind} {l c : Int} : mksF lb st e z k b (.sc (.int k1 l)) (.sc (.int k2 c)) =
    ifB (decide (0 ≤ l) && decide (l ≤ c) && decide (c.toNat * b ≤ roomA) && decide (c ≤ 9223372036854775807)) (some (.sl st.length 0 l.toNat (c.toNat * k), lb, st ++ [.arr (rep z c.toNat) e true])) none .mk := rfl
theorem xe_mkm : xe m lb st E .mkm = some (.mp st.length, lb, st ++ [.map []]) := rfl
def stoR : Option (Lb × List AObj) → Option (AV × Lb × List AObj)
  | some (l, s) => some (.sc undef, l, s)
  | none => none
def stoF (lb : Lb) (st : List AObj) (n : Nat) (p v : AV) : Option (AV × Lb × List AObj) := ifB (decide (v.cells.length = n)) (stoR (wrCells lb st p v.cells)) none .mk
theorem xe_sto {n : Nat} {x y : XV} : xe m lb st E (.sto n x y) = o2 (stoF lb st n) (xv m x) (xv m y) := by
  simp only [xe, nbeq]; cases xv m x with
  | none => rfl
  | some u => cases xv m y with
    | none => rfl
    | some v => simp only [o2, stoF, ifB]; cases decide (v.cells.length = n) with
      | false => rfl
      | true => simp only [cond_true]; cases wrCells lb st u v.cells <;> rfl
theorem stoF_eq {n : Nat} {p v : AV} : stoF lb st n p v = ifB (decide (v.cells.length = n)) (stoR (wrCells lb st p v.cells)) none .mk := rfl
theorem stoR_some {l : Lb} {s : List AObj} : stoR (some (l, s)) = some (.sc undef, l, s) := rfl
def wrOb (lb : Lb) (st : List AObj) (o off L : Nat) (vs : List AV) : Option AObj → Option (Lb × List AObj)
  | some (.arr c e true) => ifB (decide (c.length = L) && decide (off + vs.length ≤ c.length)) (some (lb, st.set o (.arr (splice c off vs) e true))) none .mk
  | _ => none
theorem wr_rf {o off L : Nat} {vs : List AV} : wrCells lb st (.rf o off L) vs = ifB (vs.all AV.isCell) (wrOb lb st o off L vs st[o]?) none .mk := by
  simp only [wrCells, nbeq, nble]
  cases vs.all AV.isCell with
  | false => rfl
  | true =>
    simp only [cond_true, ifB, wrOb]
    cases st[o]? with
    | none => rfl
    | some x => cases x with
      | arr c e w => cases w with
        | true => simp only; cases (decide (c.length = L) && decide (off + vs.length ≤ c.length)) <;> rfl
        | false => rfl
      | map es => rfl
theorem wrOb_arr {o off L e : Nat} {vs c : List AV} : wrOb lb st o off L vs (some (.arr c e true)) = ifB (decide (c.length = L) && decide (off + vs.length ≤ c.length)) (some (lb, st.set o (.arr (splice c off vs) e true))) none .mk := rfl
def wrLp (lb : Lb) (st : List AObj) (k g off : Nat) (vs : List AV) : Option (Nat × List AV) → Option (Lb × List AObj)
  | some (g', c) => ifB (decide (g = g') && decide (off + vs.length ≤ c.length)) (some (lbSet lb k g (splice c off vs), st)) none .mk
  | none => none
theorem wr_lp {k g off : Nat} {vs : List AV} : wrCells lb st (.lp k g off) vs = ifB (vs.all AV.isCell) (wrLp lb st k g off vs (lbGet lb k)) none .mk := by
  simp only [wrCells, nbeq, nble]
  cases vs.all AV.isCell with
  | false => rfl
  | true =>
    simp only [cond_true, ifB, wrLp]
    cases lbGet lb k with
    | none => rfl
    | some x => obtain ⟨g', c⟩ := x; simp only; cases (decide (g = g') && decide (off + vs.length ≤ c.length)) <;> rfl
theorem wrLp_some {k g g' off : Nat} {vs c : List AV} : wrLp lb st k g off vs (some (g', c)) = ifB (decide (g = g') && decide (off + vs.length ≤ c.length)) (some (lbSet lb k g (splice c off vs), st)) none .mk := rfl
def appR (lb : Lb) : Option (AV × List AObj) → Option (AV × Lb × List AObj)
  | some (v, s) => some (v, lb, s)
  | none => none
def appF (lb : Lb) (st : List AObj) (e k b : Nat) (x : AV) : Option (List AV × Nat) → Option (AV × Lb × List AObj)
  | some (news, n) => appR lb (xapp st e k b x news n)
  | none => none
def appG (lb : Lb) (st : List AObj) (e k b : Nat) (c : SrcC) (x y : AV) : Option (AV × Lb × List AObj) := appF lb st e k b x (xsrc st k c y)
theorem xe_app {e k b : Nat} {c : SrcC} {x y : XV} : xe m lb st E (.app e k b c x y) = o2 (appG lb st e k b c) (xv m x) (xv m y) := by
  simp only [xe]; cases xv m x with
  | none => rfl
  | some u => cases xv m y with
    | none => rfl
    | some v => simp only [o2, appG]; cases xsrc st k c v with
      | none => rfl
      | some p => obtain ⟨news, n⟩ := p; simp only [appF]; cases xapp st e k b u news n <;> rfl
theorem appG_eq {e k b : Nat} {c : SrcC} {x y : AV} : appG lb st e k b c x y = appF lb st e k b x (xsrc st k c y) := rfl
theorem appF_some {e k b n : Nat} {x : AV} {news : List AV} : appF lb st e k b x (some (news, n)) = appR lb (xapp st e k b x news n) := rfl
theorem appR_some {v : AV} {s : List AObj} : appR lb (some (v, s)) = some (v, lb, s) := rfl
theorem xsrc_nil {k : Nat} : xsrc st k .sl (.sc (.slice none 0 0)) = some ([], 0) := rfl
theorem xsrc_e0 {k : Nat} : xsrc st k .sl .e0 = some ([], 0) := rfl
theorem xsrc_fs {k n : Nat} {c : List AV} : xsrc st k .sl (.fs c n) = ifB (decide (c.length = n * k)) (some (c, n)) none .mk := by
  simp only [xsrc, nbeq, ifB]; cases decide (c.length = n * k) <;> rfl
def pairN (n : Nat) : Option (List AV) → Option (List AV × Nat)
  | some c => some (c, n)
  | none => none
theorem xsrc_sl {k o off n L : Nat} : xsrc st k .sl (.sl o off n L) = pairN n (rdOb L off (n * k) st[o]?) := by
  simp only [xsrc, rdOb]; cases st[o]? with
  | none => rfl
  | some x => cases x with
    | arr c e w => simp only [nbeq, ifB]; cases decide (c.length = L) with
      | false => rfl
      | true => simp only [cond_true]; cases cut c off (n * k) <;> rfl
    | map es => rfl
theorem pairN_some {n : Nat} {c : List AV} : pairN n (some c) = some (c, n) := rfl
theorem xapp_nil {e k b n : Nat} {news : List AV} : xapp st e k b (.sc (.slice none 0 0)) news n = ifB (news.all AV.isCell) (ifB (decide (n = 0)) (some (.sc (.slice none 0 0), st)) (ifB (decide (n * b ≤ roomA)) (some (.sl st.length 0 n (n * k), st ++ [.arr news e true])) none .mk) .mk) none .mk := by
  simp only [xapp, nbeq, nble, ifB]
  cases news.all AV.isCell with
  | false => rfl
  | true => cases decide (n = 0) <;> cases decide (n * b ≤ roomA) <;> rfl
def appOb (st : List AObj) (e k b o off n' L : Nat) (news : List AV) (n : Nat) : Option AObj → Option (AV × List AObj)
  | some (.arr c e' true) => ifB (decide (c.length = L) && decide (e = e')) (ifB (decide (off + n' * k + n * k ≤ L)) (some (.sl o off (n' + n) L, st.set o (.arr (splice c (off + n' * k) news) e' true)))
      (ifB (decide (off = 0) && decide (n' * k = L) && decide ((n' + n) * b ≤ roomA)) (some (.sl o 0 (n' + n) (L + n * k), st.set o (.arr (c ++ news) e' true))) none .mk) .mk) none .mk
  | _ => none
theorem xapp_sl {e k b o off n' L n : Nat} {news : List AV} : xapp st e k b (.sl o off n' L) news n = ifB (news.all AV.isCell) (appOb st e k b o off n' L news n st[o]?) none .mk := by
  simp only [xapp, nbeq, nble, ifB, appOb]
  cases news.all AV.isCell with
  | false => rfl
  | true =>
    cases st[o]? with
    | none => rfl
    | some x => cases x with
      | arr c e' w => cases w with
        | false => rfl
        | true => cases (decide (c.length = L) && decide (e = e')) with
          | false => rfl
          | true => cases decide (off + n' * k + n * k ≤ L) with
            | true => rfl
            | false => cases (decide (off = 0) && decide (n' * k = L) && decide ((n' + n) * b ≤ roomA)) <;> rfl
      | map es => rfl
theorem appOb_arr {e e' k b o off n' L n : Nat} {news c : List AV} : appOb st e k b o off n' L news n (some (.arr c e' true)) = ifB (decide (c.length = L) && decide (e = e')) (ifB (decide (off + n' * k + n * k ≤ L)) (some (.sl o off (n' + n) L, st.set o (.arr (splice c (off + n' * k) news) e' true)))
      (ifB (decide (off = 0) && decide (n' * k = L) && decide ((n' + n) * b ≤ roomA)) (some (.sl o 0 (n' + n) (L + n * k), st.set o (.arr (c ++ news) e' true))) none .mk) .mk) none .mk := rfl
theorem xfill_nil {c : List AV} : xfill c [] = some c := rfl
theorem xfill_cons {c : List AV} {off size : Nat} {v : AV} {r : List (Nat × Nat × AV)} : xfill c ((off, size, v) :: r) = ifB (decide (v.cells.length = size) && decide (off + size ≤ c.length) && v.cells.all AV.isCell) (xfill (splice c off v.cells) r) none .mk := by
  simp only [xfill, nbeq, nble, ifB]; cases (decide (v.cells.length = size) && decide (off + size ≤ c.length) && v.cells.all AV.isCell) <;> rfl
theorem splice_zero {c : List AV} {vs : List AV} : splice c 0 vs = vs ++ c.drop vs.length := by simp [splice]
theorem splice_succ {a : AV} {c : List AV} {n : Nat} {vs : List AV} : splice (a :: c) (n + 1) vs = a :: splice c n vs := by
  simp only [splice, List.take_succ_cons, List.cons_append]
  rw [show n + 1 + vs.length = (n + vs.length) + 1 by omega, List.drop_succ_cons]
theorem cells_agg {c : List AV} : AV.cells (.agg c) = c := rfl
theorem cells_sc {v : Value} : AV.cells (.sc v) = [.sc v] := rfl
theorem cells_sp {k : Nat} : AV.cells (.sp k) = [.sp k] := rfl
theorem cells_gl {k : Nat} : AV.cells (.gl k) = [.gl k] := rfl
theorem cells_fs {n : Nat} {c : List AV} : AV.cells (.fs c n) = [.fs c n] := rfl
theorem cells_fp {n : Nat} {c : List AV} : AV.cells (.fp c n) = [.fp c n] := rfl
theorem cells_sl {a b c d : Nat} : AV.cells (.sl a b c d) = [.sl a b c d] := rfl
theorem cells_rf {a b c : Nat} : AV.cells (.rf a b c) = [.rf a b c] := rfl
theorem cells_e0 : AV.cells .e0 = [.e0] := rfl
theorem cells_ifc {t : Nat} {v : AV} : AV.cells (.ifc t v) = [.ifc t v] := rfl
theorem cells_fn {f : Nat} {a b : List AV} : AV.cells (.fn f a b) = [.fn f a b] := rfl
theorem cells_mp {o : Nat} : AV.cells (.mp o) = [.mp o] := rfl
theorem cell_sp {k : Nat} : AV.isCell (.sp k) = true := rfl
theorem cell_gl {k : Nat} : AV.isCell (.gl k) = true := rfl
theorem cell_fs {n : Nat} {c : List AV} : AV.isCell (.fs c n) = true := rfl
theorem cell_fp {n : Nat} {c : List AV} : AV.isCell (.fp c n) = true := rfl
theorem cell_sl {a b c d : Nat} : AV.isCell (.sl a b c d) = true := rfl
theorem cell_rf {a b c : Nat} : AV.isCell (.rf a b c) = true := rfl
theorem cell_e0 : AV.isCell .e0 = true := rfl
theorem cell_ifc {t : Nat} {v : AV} : AV.isCell (.ifc t v) = true := rfl
theorem cell_fn {f : Nat} {a b : List AV} : AV.isCell (.fn f a b) = true := rfl
theorem cell_mp {o : Nat} : AV.isCell (.mp o) = true := rfl
theorem cell_int {k : IntKind} {n : Int} : AV.isCell (.sc (.int k n)) = true := rfl
theorem cell_bool {b : Bool} : AV.isCell (.sc (.bool b)) = true := rfl
theorem cell_string {b : ByteArray} : AV.isCell (.sc (.string b)) = true := rfl
theorem cell_slice {a : Option Addr} {n k : Nat} : AV.isCell (.sc (.slice a n k)) = true := rfl
theorem cell_pointer {a : Option Addr} : AV.isCell (.sc (.pointer a)) = true := rfl
theorem cell_nilIface : AV.isCell (.sc .nilIface) = true := rfl
theorem cell_nilFunc : AV.isCell (.sc .nilFunc) = true := rfl
theorem cell_map {r : Option Nat} : AV.isCell (.sc (.map r)) = true := rfl
theorem all_nil {p : AV → Bool} : ([] : List AV).all p = true := rfl
theorem all_cons {p : AV → Bool} {v : AV} {r : List AV} : (v :: r).all p = (p v && r.all p) := rfl
theorem rep_zero {z : List AV} : rep z 0 = [] := rfl
theorem rep_succ {z : List AV} {n : Nat} : rep z (n + 1) = z ++ rep z n := rfl

/-! calls of frozen values -/
def frozen (E : Env) (args : List AV) (st : List AObj) (r : AV) : Option (AV × List AObj) := ifB (args.all (resOff (foldA (frz depthA) st args) depthA)) (some (r, foldA (frz depthA) st args)) none .mk
theorem pureCall_eq {g : Nat} {run : List AV → Option AV} {args : List AV} : pureCall E g run args st = andThen (mapO (res E st depthA) args) (fun as => andThen (run as) (fun r => ifB (flat r) (some (r, st)) (frozen E args st r) .mk) .mk) .mk := by
  unfold pureCall
  cases mapO (res E st depthA) args with
  | none => rfl
  | some as =>
    simp only [andThen]
    cases run as with
    | none => rfl
    | some r =>
      simp only [ifB, frozen]
      cases flat r with
      | true => rfl
      | false => simp only [cond_false]; cases args.all (resOff (foldA (frz depthA) st args) depthA) <;> rfl
theorem frozen_eq {args : List AV} {r : AV} : frozen E args st r = ifB (args.all (resOff (foldA (frz 12) st args) 12)) (some (r, foldA (frz 12) st args)) none .mk := rfl
theorem pure_ret {args : List AV} {r : AV} (h1 : foldA (frz 12) st args = st) (h2 : args.all (resOff st 12) = true) : ifB (flat r) (some (r, st)) (frozen E args st r) .mk = some (r, st) := by
  have : frozen E args st r = some (r, st) := by rw [frozen_eq, h1, h2]; rfl
  rw [this]; cases flat r <;> rfl
theorem depth_eq : depthA = 12 := rfl
theorem mapO_nil {f : AV → Option AV} : mapO f [] = some [] := rfl
theorem mapO_cons {f : AV → Option AV} {v : AV} {r : List AV} : mapO f (v :: r) = consV (f v) (mapO f r) := by
  simp only [mapO]; cases f v <;> cases mapO f r <;> rfl
section
variable {n : Nat}
theorem res_sc {v : Value} : res E st (n + 1) (.sc v) = some (.sc v) := rfl
theorem res_sp {j : Nat} : res E st (n + 1) (.sp j) = some (.sp j) := rfl
theorem res_gl {j : Nat} : res E st (n + 1) (.gl j) = some (.gl j) := rfl
theorem res_fs {j : Nat} {c : List AV} : res E st (n + 1) (.fs c j) = some (.fs c j) := rfl
theorem res_fp {j : Nat} {c : List AV} : res E st (n + 1) (.fp c j) = some (.fp c j) := rfl
theorem res_e0 : res E st (n + 1) .e0 = some .e0 := rfl
def ifcO (t : Nat) : Option AV → Option AV
  | some v => some (.ifc t v)
  | none => none
theorem res_ifc {t : Nat} {v : AV} : res E st (n + 1) (.ifc t v) = ifcO t (res E st n v) := by
  simp only [res]; cases res E st n v <;> rfl
theorem ifcO_some {t : Nat} {v : AV} : ifcO t (some v) = some (.ifc t v) := rfl
theorem res_agg {c : List AV} : res E st (n + 1) (.agg c) = aggO (mapO (res E st n) c) := by
  simp only [res]; cases mapO (res E st n) c <;> rfl
def tupO : Option (List AV) → Option AV
  | some l => some (.tup l)
  | none => none
theorem tupO_some {l : List AV} : tupO (some l) = some (.tup l) := rfl
theorem res_tup {c : List AV} : res E st (n + 1) (.tup c) = tupO (mapO (res E st n) c) := by
  simp only [res]; cases mapO (res E st n) c <;> rfl
def fsO (k : Nat) : Option (List AV) → Option AV
  | some l => some (.fs l k)
  | none => none
theorem fsO_some {k : Nat} {l : List AV} : fsO k (some l) = some (.fs l k) := rfl
def resOb (E : Env) (st : List AObj) (n off k L : Nat) : Option AObj → Option AV
  | some (.arr c e _) => match sizeT E e with
    | some s => ifB (decide (c.length = L)) (fsO k (o1 (mapO (res E st n)) (cut c off (k * s)))) none .mk
    | none => none
  | _ => none
theorem res_sl {o off k L : Nat} : res E st (n + 1) (.sl o off k L) = resOb E st n off k L st[o]? := by
  simp only [res, resOb]; cases st[o]? with
  | none => rfl
  | some x => cases x with
    | arr c e w => simp only; cases sizeT E e with
      | none => rfl
      | some s => simp only [nbeq, ifB]; cases decide (c.length = L) with
        | false => rfl
        | true => simp only [cond_true]; cases cut c off (k * s) with
          | none => rfl
          | some d => simp only [o1]; cases mapO (res E st n) d <;> rfl
    | map es => rfl
theorem resOb_arr {off k L e s : Nat} {w : Bool} {c : List AV} (h : sizeT E e = some s) : resOb E st n off k L (some (.arr c e w)) = ifB (decide (c.length = L)) (fsO k (o1 (mapO (res E st n)) (cut c off (k * s)))) none .mk := by
  simp only [resOb, h]
def fpO (off : Nat) : Option (List AV) → Option AV
  | some l => some (.fp l off)
  | none => none
def resRf (E : Env) (st : List AObj) (n off L : Nat) : Option AObj → Option AV
  | some (.arr c _ _) => ifB (decide (c.length = L)) (fpO off (mapO (res E st n) c)) none .mk
  | _ => none
theorem fpO_some {off : Nat} {l : List AV} : fpO off (some l) = some (.fp l off) := rfl
theorem res_rf {o off L : Nat} : res E st (n + 1) (.rf o off L) = resRf E st n off L st[o]? := by
  simp only [res, resRf]; cases st[o]? with
  | none => rfl
  | some x => cases x with
    | arr c e w => simp only [nbeq, ifB]; cases decide (c.length = L) with
      | false => rfl
      | true => simp only [cond_true]; cases mapO (res E st n) c <;> rfl
    | map es => rfl
theorem resRf_arr {off L e : Nat} {w : Bool} {c : List AV} : resRf E st n off L (some (.arr c e w)) = ifB (decide (c.length = L)) (fpO off (mapO (res E st n) c)) none .mk := rfl
theorem frz_sc {v : Value} : frz (n + 1) st (.sc v) = st := rfl
theorem frz_sp {k : Nat} : frz (n + 1) st (.sp k) = st := rfl
theorem frz_gl {k : Nat} : frz (n + 1) st (.gl k) = st := rfl
theorem frz_fs {k : Nat} {c : List AV} : frz (n + 1) st (.fs c k) = st := rfl
theorem frz_fp {k : Nat} {c : List AV} : frz (n + 1) st (.fp c k) = st := rfl
theorem frz_e0 : frz (n + 1) st .e0 = st := rfl
theorem frz_ifc {t : Nat} {v : AV} : frz (n + 1) st (.ifc t v) = frz n st v := rfl
theorem frz_agg {c : List AV} : frz (n + 1) st (.agg c) = foldA (frz n) st c := rfl
theorem frz_tup {c : List AV} : frz (n + 1) st (.tup c) = foldA (frz n) st c := rfl
def frzOb (n : Nat) (st : List AObj) (o : Nat) : Option AObj → List AObj
  | some (.arr c e true) => foldA (frz n) (st.set o (.arr c e false)) c
  | some (.arr c _ false) => foldA (frz n) st c
  | _ => st
theorem frz_sl {o off k L : Nat} : frz (n + 1) st (.sl o off k L) = frzOb n st o st[o]? := by simp only [frz, frzOb]; rfl
theorem frz_rf {o off L : Nat} : frz (n + 1) st (.rf o off L) = frzOb n st o st[o]? := by simp only [frz, frzOb]; rfl
theorem frzOb_t {o e : Nat} {c : List AV} : frzOb n st o (some (.arr c e true)) = foldA (frz n) (st.set o (.arr c e false)) c := rfl
theorem frzOb_f {o e : Nat} {c : List AV} : frzOb n st o (some (.arr c e false)) = foldA (frz n) st c := rfl
theorem foldA_nil {f : List AObj → AV → List AObj} : foldA f st [] = st := rfl
theorem foldA_cons {f : List AObj → AV → List AObj} {v : AV} {r : List AV} : foldA f st (v :: r) = foldA f (f st v) r := rfl
theorem resOff_sc {v : Value} : resOff st (n + 1) (.sc v) = true := rfl
theorem resOff_sp {k : Nat} : resOff st (n + 1) (.sp k) = true := rfl
theorem resOff_gl {k : Nat} : resOff st (n + 1) (.gl k) = true := rfl
theorem resOff_fs {k : Nat} {c : List AV} : resOff st (n + 1) (.fs c k) = true := rfl
theorem resOff_fp {k : Nat} {c : List AV} : resOff st (n + 1) (.fp c k) = true := rfl
theorem resOff_e0 : resOff st (n + 1) .e0 = true := rfl
theorem resOff_ifc {t : Nat} {v : AV} : resOff st (n + 1) (.ifc t v) = resOff st n v := rfl
theorem resOff_agg {c : List AV} : resOff st (n + 1) (.agg c) = c.all (resOff st n) := rfl
theorem resOff_tup {c : List AV} : resOff st (n + 1) (.tup c) = c.all (resOff st n) := rfl
def offOb (n : Nat) (st : List AObj) : Option AObj → Bool
  | some (.arr c _ false) => c.all (resOff st n)
  | _ => false
theorem resOff_sl {o off k L : Nat} : resOff st (n + 1) (.sl o off k L) = offOb n st st[o]? := by simp only [resOff, offOb]; rfl
theorem resOff_rf {o off L : Nat} : resOff st (n + 1) (.rf o off L) = offOb n st st[o]? := by simp only [resOff, offOb]; rfl
theorem offOb_f {e : Nat} {c : List AV} : offOb n st (some (.arr c e false)) = c.all (resOff st n) := rfl
end
theorem flat_sc {v : Value} : flat (.sc v) = true := rfl
theorem flat_sp {k : Nat} : flat (.sp k) = true := rfl
theorem flat_gl {k : Nat} : flat (.gl k) = true := rfl
theorem flat_ifc {t : Nat} {v : AV} : flat (.ifc t v) = flat v := rfl
theorem flat_agg {c : List AV} : flat (.agg c) = flatL c := rfl
theorem flat_tup {c : List AV} : flat (.tup c) = flatL c := rfl
theorem flat_fs {k : Nat} {c : List AV} : flat (.fs c k) = false := rfl
theorem flat_fp {k : Nat} {c : List AV} : flat (.fp c k) = false := rfl
theorem flat_e0 : flat .e0 = false := rfl
theorem flatL_nil : flatL [] = true := rfl
theorem flatL_cons {v : AV} {r : List AV} : flatL (v :: r) = (flat v && flatL r) := rfl

/-! regions in any order -/
theorem xevD_eq {b : List Nat} {ops : List XOper} : xevD E callf b ops ⟨m, lb, st⟩ = andThen (xlay m ops lb) (fun lb => andThen (xrecs E callf ops ⟨m, lb, st⟩) (fun z => ifB (chainOK b (effsOf 0 z.1) && xcheck E b (effsOf 0 z.1) ((lb, st) :: z.2.1) 0 ops z.1) (some z.2.2) none .mk) .mk) .mk := rfl
section
variable {d' : Option Nat} {g : XG} {r : List XOper}
theorem xlay_nil : xlay m [] lb = some lb := rfl
theorem xlay_new {d t : Nat} {z : List AV} : xlay m (⟨d', g, .e (.new d t true z)⟩ :: r) lb = ifB (tmMentions d m) none (xlay m r (lbSet lb d 0 z)) .mk := by
  simp only [xlay, ifB]; cases tmMentions d m <;> rfl
theorem xlay_newF {d t : Nat} {z : List AV} : xlay m (⟨d', g, .e (.new d t false z)⟩ :: r) lb = xlay m r lb := rfl
theorem xlay_q {x : XQ} : xlay m (⟨d', g, .q x⟩ :: r) lb = xlay m r lb := rfl
theorem xlay_call {x : XV} {l : List XV} : xlay m (⟨d', g, .call x l⟩ :: r) lb = xlay m r lb := rfl
theorem xlay_box {d t n : Nat} {l : Bool} {x : XV} : xlay m (⟨d', g, .e (.box d t l n x)⟩ :: r) lb = xlay m r lb := rfl
theorem xlay_bsl {l : Bool} {e s n : Nat} {z : List AV} {ps : List (Nat × Nat × XV)} : xlay m (⟨d', g, .e (.bsl l e z s n ps)⟩ :: r) lb = xlay m r lb := rfl
theorem xlay_mks {e s b : Nat} {z : List AV} {x y : XV} : xlay m (⟨d', g, .e (.mks e z s b x y)⟩ :: r) lb = xlay m r lb := rfl
theorem xlay_cvs {x : XV} : xlay m (⟨d', g, .e (.cvs x)⟩ :: r) lb = xlay m r lb := rfl
theorem xlay_mkm : xlay m (⟨d', g, .e .mkm⟩ :: r) lb = xlay m r lb := rfl
theorem xlay_sto {n : Nat} {x y : XV} : xlay m (⟨d', g, .e (.sto n x y)⟩ :: r) lb = xlay m r lb := rfl
theorem xlay_mset {x y z : XV} : xlay m (⟨d', g, .e (.mset x y z)⟩ :: r) lb = xlay m r lb := rfl
theorem xlay_app {e s b : Nat} {c : SrcC} {x y : XV} : xlay m (⟨d', g, .e (.app e s b c x y)⟩ :: r) lb = xlay m r lb := rfl
theorem xrecs_nil : xrecs E callf [] s = some ([], [], s) := rfl
theorem xrecs_cons {d : Option Nat} {p : XOp} : xrecs E callf (⟨d, g, p⟩ :: r) ⟨m, lb, st⟩ = andThen (xw m g) (fun w => ifB w
      (andThen (xopD E callf m lb st p) (fun y => andThen (xrecs E callf r ⟨xput m d y.1, y.2.1, y.2.2.1⟩) (fun z => some (⟨true, y.2.2.2, y.1, m⟩ :: z.1, (bif y.2.2.2 then (y.2.1, y.2.2.1) :: z.2.1 else z.2.1), z.2.2)) .mk) .mk)
      (andThen (xrecs E callf r ⟨xput m d (.sc undef), lb, st⟩) (fun z => some (⟨false, false, .sc undef, m⟩ :: z.1, z.2.1, z.2.2)) .mk) .mk) .mk := rfl
end
theorem xput_some {d : Nat} {v : AV} : xput m (some d) v = (d, v) :: tmDel m d := rfl
theorem xput_none {v : AV} : xput m none v = m := rfl
theorem tmDel_nil {t : Nat} : tmDel [] t = [] := rfl
theorem tmDel_cons {k t : Nat} {v : AV} {r : Tm} : tmDel ((k, v) :: r) t = ifB (decide (k = t)) (tmDel r t) ((k, v) :: tmDel r t) .mk := by
  simp only [tmDel, nbeq, ifB]; cases decide (k = t) <;> rfl
theorem xopD_q {x : XQ} : xopD E callf m lb st (.q x) = andThen (xq m lb st E x) (fun v => some (v, lb, st, false)) .mk := rfl
theorem xopD_call {x : XV} {l : List XV} : xopD E callf m lb st (.call x l) = andThen (xcall m st callf x l) (fun y => ifB y.1.isLp none (some (y.1, lb, y.2, true)) .mk) .mk := rfl
theorem xopD_new {d t : Nat} {z : List AV} : xopD E callf m lb st (.e (.new d t true z)) = some (.lp d 0 0, lb, st, false) := rfl
def effR : Option (AV × Lb × List AObj) → Option (AV × Lb × List AObj × Bool)
  | some y => some (y.1, y.2.1, y.2.2, true)
  | none => none
theorem effR_some {v : AV} {l : Lb} {s : List AObj} : effR (some (v, l, s)) = some (v, l, s, true) := rfl
theorem xopD_newF {d t : Nat} {z : List AV} : xopD E callf m lb st (.e (.new d t false z)) = effR (xe m lb st E (.new d t false z)) := rfl
theorem xopD_box {d t n : Nat} {l : Bool} {x : XV} : xopD E callf m lb st (.e (.box d t l n x)) = effR (xe m lb st E (.box d t l n x)) := by
  simp only [xopD, effR, andThen]; cases xe m lb st E (.box d t l n x) <;> rfl
theorem xopD_bsl {l : Bool} {e k n : Nat} {z : List AV} {ps : List (Nat × Nat × XV)} : xopD E callf m lb st (.e (.bsl l e z k n ps)) = effR (xe m lb st E (.bsl l e z k n ps)) := by
  simp only [xopD, effR, andThen]; cases xe m lb st E (.bsl l e z k n ps) <;> rfl
theorem xopD_mks {e k b : Nat} {z : List AV} {x y : XV} : xopD E callf m lb st (.e (.mks e z k b x y)) = effR (xe m lb st E (.mks e z k b x y)) := by
  simp only [xopD, effR, andThen]; cases xe m lb st E (.mks e z k b x y) <;> rfl
theorem xopD_sto {n : Nat} {x y : XV} : xopD E callf m lb st (.e (.sto n x y)) = effR (xe m lb st E (.sto n x y)) := by
  simp only [xopD, effR, andThen]; cases xe m lb st E (.sto n x y) <;> rfl
theorem xopD_mset {x y z : XV} : xopD E callf m lb st (.e (.mset x y z)) = effR (xe m lb st E (.mset x y z)) := by
  simp only [xopD, effR, andThen]; cases xe m lb st E (.mset x y z) <;> rfl
theorem xopD_app {e k b : Nat} {c : SrcC} {x y : XV} : xopD E callf m lb st (.e (.app e k b c x y)) = effR (xe m lb st E (.app e k b c x y)) := by
  simp only [xopD, effR, andThen]; cases xe m lb st E (.app e k b c x y) <;> rfl
theorem xopD_mkm : xopD E callf m lb st (.e .mkm) = effR (xe m lb st E .mkm) := rfl
section
variable {b es : List Nat} {H : List (Lb × List AObj)} {i : Nat} {v : AV} {rs : List Rec}
theorem effs_nil : effsOf i [] = [] := rfl
theorem effs_t {ran : Bool} : effsOf i (⟨ran, true, v, m⟩ :: rs) = i :: effsOf (i + 1) rs := rfl
theorem effs_f {ran : Bool} : effsOf i (⟨ran, false, v, m⟩ :: rs) = effsOf (i + 1) rs := rfl
theorem chain_nil : chainOK b [] = true := rfl
theorem chain_one : chainOK b [i] = true := rfl
theorem chain_cons {j : Nat} {r : List Nat} : chainOK b (i :: j :: r) = (forced b i j && chainOK b (j :: r)) := rfl
theorem forced_eq {j : Nat} : forced b i j = decide ((b.getD j 0) / 2 ^ i % 2 = 1) := by
  unfold forced; rw [Nat.testBit_eq_decide_div_mod_eq]
theorem low_nil : lowOf b [] i = 0 := rfl
theorem low_cons {j : Nat} : lowOf b (j :: es) i = (bif forced b j i then 1 else 0) + lowOf b es i := by
  simp only [lowOf, List.filter_cons]; cases forced b j i <;> simp; omega
theorem high_nil : highOf b [] i = 0 := rfl
theorem high_cons {j : Nat} : highOf b (j :: es) i = (bif forced b i j then 0 else 1) + highOf b es i := by
  simp only [highOf, List.filter_cons]; cases forced b i j <;> simp; omega
theorem xcheck_nil : xcheck E b es H i [] rs = true := by cases rs <;> rfl
theorem xcheck_t {d : Option Nat} {g : XG} {p : XOp} {os : List XOper} {ran : Bool} : xcheck E b es H i (⟨d, g, p⟩ :: os) (⟨ran, true, v, m⟩ :: rs) = xcheck E b es H (i + 1) os rs := by
  simp only [xcheck]; cases ran <;> simp
theorem xcheck_n {d : Option Nat} {g : XG} {p : XOp} {os : List XOper} {e : Bool} : xcheck E b es H i (⟨d, g, p⟩ :: os) (⟨false, e, v, m⟩ :: rs) = xcheck E b es H (i + 1) os rs := by
  simp only [xcheck]; simp
theorem xcheck_q {d : Option Nat} {g : XG} {p : XOp} {os : List XOper} : xcheck E b es H i (⟨d, g, p⟩ :: os) (⟨true, false, v, m⟩ :: rs) = (xstage E m v ((H.drop (lowOf b es i)).take (highOf b es i + 1 - lowOf b es i)) p && xcheck E b es H (i + 1) os rs) := by
  simp only [xcheck]; simp
theorem xstage_q {x : XQ} : xstage E m v H (.q x) = xholds E m x v H := rfl
theorem xstage_new {d t : Nat} {z : List AV} : xstage E m v H (.e (.new d t true z)) = bornAt d z H := rfl
def eqO (v : AV) : Option AV → Bool
  | some u => AV.beq u v
  | none => false
theorem eqO_some {u : AV} : eqO v (some u) = AV.beq u v := rfl
theorem xholds_nil {x : XQ} : xholds E m x v [] = true := rfl
theorem xholds_cons {x : XQ} : xholds E m x v ((lb, st) :: H) = (eqO v (xq m lb st E x) && xholds E m x v H) := by
  simp only [xholds, eqO]; rfl
def bornO (z : List AV) : Option (Nat × List AV) → Bool
  | some (g, c) => Nat.beq g 0 && AV.beqL c z
  | none => false
theorem bornO_some {z c : List AV} {g : Nat} : bornO z (some (g, c)) = (Nat.beq g 0 && AV.beqL c z) := rfl
theorem bornAt_nil {d : Nat} {z : List AV} : bornAt d z [] = true := rfl
theorem bornAt_cons {d : Nat} {z : List AV} : bornAt d z ((lb, st) :: H) = (bornO z (lbGet lb d) && bornAt d z H) := by
  simp only [bornAt, bornO]; rfl
end

/-! ends -/
theorem Done_norm {rs : List XR} {r : AV} : Done E rs r .norm s = ∃ vs, xres E s rs = some vs ∧ res E s.st depthA (packA vs) = some r := by
  simp only [Done]; apply propext; cases xres E s rs <;> simp
theorem Done_ret {rs : List XR} {r : AV} : Done E rs r .ret s = ∃ vs, xres E s rs = some vs ∧ res E s.st depthA (packA vs) = some r := by
  simp only [Done]; apply propext; cases xres E s rs <;> simp
/-- the same as one equation -/
def doneO (E : Env) (st : List AObj) : Option (List AV) → Option AV
  | some vs => res E st 12 (packA vs)
  | none => none
theorem done_norm {rs : List XR} {r : AV} : Done E rs r .norm ⟨m, lb, st⟩ = (doneO E st (xres E ⟨m, lb, st⟩ rs) = some r) := by
  simp only [Done]; apply propext; cases xres E ⟨m, lb, st⟩ rs <;> simp [doneO, depthA]
theorem done_ret {rs : List XR} {r : AV} : Done E rs r .ret ⟨m, lb, st⟩ = (doneO E st (xres E ⟨m, lb, st⟩ rs) = some r) := by
  simp only [Done]; apply propext; cases xres E ⟨m, lb, st⟩ rs <;> simp [doneO, depthA]
theorem doneP_norm {rs : List XR} {P : AV → Prop} : DoneP E rs P .norm ⟨m, lb, st⟩ = optQ P (doneO E st (xres E ⟨m, lb, st⟩ rs)) := by
  simp only [DoneP]; apply propext; cases xres E ⟨m, lb, st⟩ rs with
  | none => simp [doneO, optQ]
  | some vs => simp only [doneO, depthA]; cases res E st 12 (packA vs) <;> simp [optQ]
theorem doneP_ret {rs : List XR} {P : AV → Prop} : DoneP E rs P .ret ⟨m, lb, st⟩ = optQ P (doneO E st (xres E ⟨m, lb, st⟩ rs)) := by
  simp only [DoneP]; apply propext; cases xres E ⟨m, lb, st⟩ rs with
  | none => simp [doneO, optQ]
  | some vs => simp only [doneO, depthA]; cases res E st 12 (packA vs) <;> simp [optQ]
theorem doneO_some {vs : List AV} : doneO E st (some vs) = res E st 12 (packA vs) := rfl
theorem packA_one {v : AV} : packA [v] = v := rfl
theorem packA_two {u v : AV} {r : List AV} : packA (u :: v :: r) = .tup (u :: v :: r) := rfl
def resT (r : Option (List AV)) : Option AV → Option (List AV)
  | some v => ifB v.isLp none (consV (some v) r) .mk
  | none => none
theorem xres_nil : xres E s [] = some [] := rfl
theorem xres_t {t : Nat} {r : List XR} : xres E ⟨m, lb, st⟩ (.t t :: r) = resT (xres E ⟨m, lb, st⟩ r) (tmGet m t) := by
  simp only [xres]; cases tmGet m t with
  | none => rfl
  | some v => simp only [resT, ifB]; cases v.isLp with
    | true => rfl
    | false => simp only [cond_false]; cases xres E ⟨m, lb, st⟩ r <;> rfl
theorem xres_c {t : Nat} {a : Option Nat} {r : List XR} : xres E ⟨m, lb, st⟩ (.c t a :: r) = resT (xres E ⟨m, lb, st⟩ r) (o1 (xload lb st E a) (tmGet m t)) := by
  simp only [xres]; cases tmGet m t with
  | none => rfl
  | some p => simp only [o1]; cases xload lb st E a p with
    | none => rfl
    | some v => simp only [resT, ifB]; cases v.isLp with
      | true => rfl
      | false => simp only [cond_false]; cases xres E ⟨m, lb, st⟩ r <;> rfl
theorem resT_some {r : Option (List AV)} {v : AV} : resT r (some v) = ifB v.isLp none (consV (some v) r) .mk := rfl
theorem doneR_norm {rs : List XR} {v : AV} {st' : List AObj} : DoneR E rs v st' .norm ⟨m, lb, st⟩ = ((xres E ⟨m, lb, st⟩ rs).map packA = some v ∧ st = st') := by
  simp only [DoneR]; apply propext; cases xres E ⟨m, lb, st⟩ rs <;> simp
theorem doneR_ret {rs : List XR} {v : AV} {st' : List AObj} : DoneR E rs v st' .ret ⟨m, lb, st⟩ = ((xres E ⟨m, lb, st⟩ rs).map packA = some v ∧ st = st') := by
  simp only [DoneR]; apply propext; cases xres E ⟨m, lb, st⟩ rs <;> simp
theorem number_nil {i : Nat} : number i [] = [] := rfl
theorem number_cons {i : Nat} {v : AV} {r : List AV} : number i (v :: r) = (i, v) :: number (i + 1) r := rfl
end

theorem eql_e0n {cst : Bool} {E : Env} : xbin E .eql .slice cst .e0 (.sc (.slice none 0 0)) = some (.sc (.bool false)) := rfl
theorem neq_e0n {cst : Bool} {E : Env} : xbin E .neq .slice cst .e0 (.sc (.slice none 0 0)) = some (.sc (.bool true)) := rfl
theorem roomA_eq : roomA = 140737488355328 := rfl
attribute [go_sem] eql_e0n neq_e0n roomA_eq
theorem wrapN (n : Nat) (h : n < 1000000) : IntKind.wrap .i64 (n : Int) = n := wrap64 (by omega)
theorem wl0 : IntKind.wrap .i64 0 = 0 := wrapN 0 (by omega)
theorem wl1 : IntKind.wrap .i64 1 = 1 := wrapN 1 (by omega)
theorem wl2 : IntKind.wrap .i64 2 = 2 := wrapN 2 (by omega)
theorem wl3 : IntKind.wrap .i64 3 = 3 := wrapN 3 (by omega)
theorem wl4 : IntKind.wrap .i64 4 = 4 := wrapN 4 (by omega)
theorem wl5 : IntKind.wrap .i64 5 = 5 := wrapN 5 (by omega)
theorem wl6 : IntKind.wrap .i64 6 = 6 := wrapN 6 (by omega)
theorem wl7 : IntKind.wrap .i64 7 = 7 := wrapN 7 (by omega)
theorem wl8 : IntKind.wrap .i64 8 = 8 := wrapN 8 (by omega)
theorem wl9 : IntKind.wrap .i64 9 = 9 := wrapN 9 (by omega)
attribute [go_sem] wl0 wl1 wl2 wl3 wl4 wl5 wl6 wl7 wl8 wl9
theorem bb_ft : (false == true) = false := rfl
theorem bb_tf : (true == false) = false := rfl
theorem bb_tt : (true == true) = true := rfl
theorem bb_ff : (false == false) = true := rfl
attribute [go_sem] bb_ft bb_tf bb_tt bb_ff

section
variable {E : Env} {Q : AX → St → Prop} {s : St}
theorem condQ_b {a b : XC} {t : Bool} : condQ E a b s Q (some (.sc (.bool t))) = br t (xp E a s Q) (xp E b s Q) := rfl
theorem xp_cond' {c : XV} {a b : XC} {m : Tm} {lb : Lb} {st : List AObj} : xp E (.cond c a b) ⟨m, lb, st⟩ Q = condQ E a b ⟨m, lb, st⟩ Q (xv m c) := xp_cond
theorem xp_regS' {live : List Nat} {ops : List XOper} {m : Tm} {lb : Lb} {st : List AObj} : xp E (.reg live true ops) ⟨m, lb, st⟩ Q = optQ (fun m => Q .norm (xtrim live ⟨m, lb, st⟩)) (xevS E (callL E) lb st ops m) := xp_regS
theorem br_not {b : Bool} {A C : Prop} : br (!b) A C = br b C A := by cases b <;> simp [br]
theorem br_intro {b : Bool} {A C : Prop} (h1 : b = true → A) (h2 : b = false → C) : br b A C := ⟨h1, h2⟩
end

attribute [go_sem] xev_nil xev_q xev_run xev_cons xevS_nil xevS_run xevS_cons xcons_some xcons_none xw_always xw_never xw_on wantO_t wantO_f wantO_u wantO_un tmGet_cons tmGet_nil tmKeep_nil tmKeep_cons keepC_some keepC_none lbGet_cons lbGet_nil lbSet_cons lbSet_nil lbKeep_nil lbKeep_cons
  tmMentions_nil tmMentions_cons isSlot_lp isSlot_sc isSlot_sp isSlot_gl isSlot_fs isSlot_fp isSlot_sl isSlot_rf isSlot_e0 isSlot_ifc isSlot_agg isSlot_tup isSlot_fn isSlot_mp nextG_o nextO_none nextO_some xtrim_eq xv_t xv_k consV_some xvs_nil xvs_cons xl_eq liveO_some
  liveA_sc liveA_sp liveA_gl liveA_fs liveA_fp liveA_e0 liveA_ifc liveA_agg liveA_tup liveA_fn liveA_mp liveA_rf liveA_sl liveOb_arr liveA_lp liveLp_some xo_none xo_some someO_some xps_nil xps_cons consP_some o1_some o2_some
  cut_nil cut_zero cut_succ rd_fp rd_rf rdOb_arr rd_lp rdLp_some rd_gl aggO_some oneO_some xload_some xload_none xpart_some xpart_none ptrAdd_fp ptrAdd_rf ptrAdd_lp
  xq_mv xq_pick pickO_b xq_build xq_load xq_nilck nilckF_rf nilckF_lp nilckF_fp xq_bin xq_not notF_b xq_neg negF_i xq_conv convF_i xq_str xq_ifc ifcF_eq xq_fn fnF_eq isLp_sc isLp_sp isLp_gl isLp_fs isLp_fp isLp_sl isLp_rf isLp_e0 isLp_ifc isLp_agg isLp_tup isLp_fn isLp_mp isLp_lp
  xq_fa xq_fld fldF_agg xq_iaS xq_iaA xq_ixA xq_ixS xiaS_fs xiaS_sl xiaA_eq xixA_eq xq_look xq_tas xq_ext extF_tup xq_lenL xlenL_nil xlenL_fs xlenL_sl xlenL_e0 xq_mx maxA_t maxA_f xq_sl slF_some
  bin_add bin_sub bin_mul bin_quo bin_rem bin_and bin_or bin_xor bin_andNot bin_eql bin_neq bin_lss bin_leq bin_gtr bin_geq bin_shl bin_shr eql_b neq_b eql_nn neq_nn eql_in neq_in eql_ni neq_ni eql_ss neq_ss eql_pn neq_pn eql_sn neq_sn eql_fsn neq_fsn eql_sln neq_sln
  xop_q xop_e xop_call xcall_eq callO_fn xopS_q xopS_call xcallV_eq callVO_fn any_nil any_cons xe_new xnew_loc xnew_heap xe_box boxF_eq xe_bsl bslF_f bslF_t xe_mks mksF_eq xe_mkm xe_sto stoF_eq stoR_some wr_rf wrOb_arr wr_lp wrLp_some xe_app appG_eq appF_some appR_some
  xsrc_nil xsrc_e0 xsrc_fs xsrc_sl pairN_some xapp_nil xapp_sl appOb_arr xfill_nil xfill_cons splice_zero splice_succ cells_agg cells_sc cells_sp cells_gl cells_fs cells_fp cells_sl cells_rf cells_e0 cells_ifc cells_fn cells_mp
  cell_sp cell_gl cell_fs cell_fp cell_sl cell_rf cell_e0 cell_ifc cell_fn cell_mp cell_int cell_bool cell_string cell_slice cell_pointer cell_nilIface cell_nilFunc cell_map all_nil all_cons rep_zero rep_succ
  pureCall_eq frozen_eq depth_eq mapO_nil mapO_cons res_sc res_sp res_gl res_fs res_fp res_e0 res_ifc ifcO_some res_agg res_tup tupO_some fsO_some res_sl fpO_some res_rf resRf_arr frz_sc frz_sp frz_gl frz_fs frz_fp frz_e0 frz_ifc frz_agg frz_tup frz_sl frz_rf frzOb_t frzOb_f foldA_nil foldA_cons
  resOff_sc resOff_sp resOff_gl resOff_fs resOff_fp resOff_e0 resOff_ifc resOff_agg resOff_tup resOff_sl resOff_rf offOb_f flat_sc flat_sp flat_gl flat_ifc flat_agg flat_tup flat_fs flat_fp flat_e0 flatL_nil flatL_cons
  done_norm done_ret doneP_norm doneP_ret doneO_some packA_one packA_two xres_nil xres_t xres_c resT_some doneR_norm doneR_ret number_nil number_cons condQ_b xp_cond' xp_regS' andThen_some andThen_none ifB_true ifB_false ifB_not br_not andThen_ifB optQ_some optQ_ifB
attribute [go_sem] xevD_eq xlay_nil xlay_new xlay_newF xlay_q xlay_call xlay_box xlay_bsl xlay_mks xlay_cvs xlay_mkm xlay_sto xlay_mset xlay_app xrecs_nil xrecs_cons xput_some xput_none tmDel_nil tmDel_cons xopD_q xopD_call xopD_new effR_some xopD_newF xopD_box xopD_bsl xopD_mks xopD_sto xopD_mset xopD_app xopD_mkm
  effs_nil effs_t effs_f chain_nil chain_one chain_cons forced_eq low_nil low_cons high_nil high_cons xcheck_nil xcheck_t xcheck_n xcheck_q xstage_q xstage_new eqO_some xholds_nil xholds_cons bornO_some bornAt_nil bornAt_cons beq_self beqL_self stBeq_self lbBeq_self List.getD_cons_zero List.getD_cons_succ List.take_zero List.take_succ_cons List.take_nil
attribute [go_sem ↓] pure_ret xp_seq xp_reg xp_regD xp_skip xp_exit xp_ret xp_block seqQ_norm seqQ_exit seqQ_ret blockQ_norm blockQ_exit blockQ_ret loopQ_exit loopQ_ret br_true br_false
attribute [go_sem] nbeq decide_true decide_false Bool.and_true Bool.true_and Bool.and_false Bool.false_and Bool.or_false Bool.false_or Bool.or_true Bool.true_or Bool.not_true Bool.not_false cond_true cond_false List.length_cons List.length_nil List.cons_append List.nil_append List.append_nil List.drop_zero List.drop_succ_cons List.drop_nil
  List.getElem?_cons_zero List.getElem?_cons_succ List.set_cons_zero List.set_cons_succ Nat.zero_add Nat.add_zero Int.cast_ofNat_Int Int.toNat_zero Int.toNat_one Nat.mul_one Nat.one_mul Nat.zero_mul Nat.mul_zero inB_eq
end Go.Proofs.YtcfaajaccbadbaaDoor.Ahm
