/- From the abstract machine's answer to a row: what is laid, what is kept. -/
import Derived.Test.YtcfaajaccbadbaaDoorAhmZ
import Derived.Stop.LaidErr
import Derived.LaidHandle
import Derived.LaidEql
set_option linter.unusedSimpArgs false
set_option linter.unusedVariables false
namespace Go.Proofs.YtcfaajaccbadbaaDoor.Ahm
open Go

/-- Each listed sentinel: its variable holds a pointer to a row that bears its text. -/
theorem laid_all {P : Program} {nm : String} {W : World} {ti tp te ts : TypeId} {ms : Array (String × TypeId)} {f : Field}
    (hi : P.underlying ti = some (.interface ms)) (hrow : ∀ u, P.typeName? 3 u = some nm → u = tp)
    (hp : P.underlying tp = some (.pointer te)) (he : P.underlying te = some (.struct #[f])) (hft : f.type = ts) (hfo : f.offset = 0) (hs : P.underlying ts = some .string) (hc : P.cellsOf te = 1) (hcs : P.cellsOf ts = 1) :
    ∀ (l : List (String × List UInt8)), laidMet P (l.map fun x => (x.1, .iface nm (.ptr (.agg [.lit (.string x.2)])))) W → ∀ x ∈ l, ∀ g, P.globalNamed x.1 = some g → (P.globals[g]?).map (·.type) = some ti →
      ∃ (a : Addr) (s : ByteArray) (c : Array Value) (t : TypeId), W.cell? ⟨g, 0, none⟩ = some (.iface tp (.pointer (some a))) ∧ W.cell? a = some (.string s) ∧ s.data.toList = x.2 ∧ W.heap[a.block]? = some (.cells c t (0, 0))
  | [], _, x, hx, _, _, _ => by simp at hx
  | y :: l, h, x, hx, g, hg, ht => by
    rcases List.mem_cons.1 hx with rfl | hx
    · obtain ⟨ps, ⟨g0, t0, cs0, f0, p0, q0, hg0, ht0, hv0, hd0, _, e0⟩, _, hrows⟩ := h
      obtain rfl := Option.some.inj (hg.symm.trans hg0)
      obtain rfl := Option.some.inj (ht.symm.trans ht0)
      subst e0
      obtain ⟨l0⟩ := cs0
      have ok0 : ∀ u v, l0 = [.iface u v] → Value.okWide P W .any 0 u v := fun u v e => by
        subst e
        exact (hrows g 0 (by simp [MemPlace.row])).2 u v (by simpa using World.var?_cell hg0 hv0 0)
      obtain ⟨a0, s0, rfl, hc0, hs0, hz0, rfl⟩ := errorString_of_trod hi hrow hp he hft hfo hs hc hcs hd0 ok0
      obtain ⟨c0, t1, hb0⟩ := (hrows a0.block a0.off (by simp [MemPlace.row])).1
      exact ⟨a0, s0, c0, t1, by simpa using World.var?_cell hg0 hv0 0, hc0, hs0, hb0⟩
    · exact laid_all hi hrow hp he hft hfo hs hc hcs l h.tail x hx g hg ht

theorem mem_of_memN {t : Nat} : ∀ {l : List Nat}, memN l t = true → t ∈ l
  | [], h => by simp [memN] at h
  | x :: r, h => by
    simp only [memN] at h
    cases hb : Nat.beq x t
    · simp only [hb, cond_false] at h; exact List.mem_cons_of_mem _ (mem_of_memN h)
    · rw [Nat.eq_of_beq_eq_true hb]; exact List.mem_cons_self ..

def NT.all {α : Type} (p : Nat → α → Bool) : NT α → Bool
  | .nil => true
  | .node k v l r => p k v && NT.all p l && NT.all p r
theorem NT.find_all {α : Type} {p : Nat → α → Bool} : ∀ {t : NT α} {x : Nat} {v : α}, NT.all p t = true → t.find x = some v → p x v = true
  | .nil, x, v, _, h => by simp [NT.find] at h
  | .node k u l r, x, v, ha, h => by
    simp only [NT.all, Bool.and_eq_true] at ha
    simp only [NT.find] at h
    cases hb : Nat.beq x k
    · simp only [hb, cond_false] at h
      cases hl : Nat.blt x k
      · simp only [hl, cond_false] at h; exact NT.find_all ha.2 h
      · simp only [hl, cond_true] at h; exact NT.find_all ha.1.2 h
    · simp only [hb, cond_true, Option.some.injEq] at h
      rw [Nat.eq_of_beq_eq_true hb, ← h]; exact ha.1.1

/-- The pointer that a sentinel's variable holds. -/
def sentTok (W : World) (g : Nat) : Value :=
  match W.cell? ⟨g, 0, none⟩ with
  | some (.iface _ p) => p
  | _ => undef

theorem Grown.kept {w w' : World} (h : Grown w w') (may : MemPlace → Prop) : World.keptBut w w' may := by
  refine ⟨h.os, h.output, fun i hi => ?_⟩
  rw [h.keep i hi]
  cases w.heap[i]? with
  | none => rfl
  | some o => cases o <;> first | exact ⟨rfl, rfl, rfl, fun _ _ => rfl⟩ | exact .inr ⟨rfl, rfl⟩ | rfl

/-- What is known when nobody has run yet. -/
def FC.start (W : World) (tok : Nat → Value) : FC := ⟨W, fun _ => False, tok⟩

theorem PureSpec.top {E : Env} {g : FuncId} {args : List AV} {r : AV} (h : PureSpec E g args r) {W : World} (hg : GlobOk E (.start W E.tok)) {cargs : Array Value} (ha : FArgs (.start W E.tok) args cargs) :
    Calls E.P g cargs W fun e W' => ∃ c, e = .returned c ∧ Grown W W' ∧ FRep (.start W' E.tok) r c :=
  (h (.start W E.tok) rfl hg (fun b hb => hb.elim) cargs ha).2

theorem FArgs.nil {F : FC} : FArgs F [] #[] := ⟨rfl, fun j x c h => by simp at h⟩
theorem FArgs.one {F : FC} {x : AV} {c : Value} (h : FRep F x c) : FArgs F [x] #[c] := ⟨rfl, fun j y d hy hd => by
  match j with
  | 0 => simp at hy hd; subst hy hd; exact h
  | j + 1 => simp at hy⟩
theorem FArgs.two {F : FC} {x y : AV} {c d : Value} (h : FRep F x c) (h' : FRep F y d) : FArgs F [x, y] #[c, d] := ⟨rfl, fun j z e hz he => by
  match j with
  | 0 => simp at hz he; subst hz he; exact h
  | 1 => simp at hz he; subst hz he; exact h'
  | j + 2 => simp at hz⟩
theorem FArgs.three {F : FC} {x y z : AV} {c d e : Value} (h : FRep F x c) (h' : FRep F y d) (h'' : FRep F z e) : FArgs F [x, y, z] #[c, d, e] := ⟨rfl, fun j u v hu hv => by
  match j with
  | 0 => simp at hu hv; subst hu hv; exact h
  | 1 => simp at hu hv; subst hu hv; exact h'
  | 2 => simp at hu hv; subst hu hv; exact h''
  | j + 3 => simp at hu⟩

end Go.Proofs.YtcfaajaccbadbaaDoor.Ahm
