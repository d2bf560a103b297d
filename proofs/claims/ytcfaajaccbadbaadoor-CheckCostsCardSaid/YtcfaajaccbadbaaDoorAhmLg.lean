/- Slices of many elements, as frozen values. -/
import Derived.Test.YtcfaajaccbadbaaDoorAhmLf
set_option linter.unusedSimpArgs false
set_option linter.unusedVariables false
namespace Go.Proofs.YtcfaajaccbadbaaDoor.Ahm
open Go

/-- A frozen slice of elements. -/
def Sl {α : Type} (f : α → List AV) (v : AV) (l : List α) : Prop := (v = .sc (.slice none 0 0) ∧ l = []) ∨ (v = .e0 ∧ l = []) ∨ v = .fs (l.flatMap f) l.length

section
variable {α : Type} {f : α → List AV} {v : AV} {l : List α}
theorem Sl.fs : Sl f (.fs (l.flatMap f) l.length) l := .inr (.inr rfl)
theorem Sl.nil : Sl f (.sc (.slice none 0 0)) [] := .inl ⟨rfl, rfl⟩
theorem Sl.e0 : Sl f .e0 [] := .inr (.inl ⟨rfl, rfl⟩)
theorem Sl.len (h : Sl f v l) : xlenL v = some (.sc (.int .i64 l.length)) := by
  rcases h with ⟨rfl, rfl⟩ | ⟨rfl, rfl⟩ | rfl <;> rfl
theorem Sl.live (h : Sl f v l) (lb : Lb) (st : List AObj) : liveA lb st v = true := by
  rcases h with ⟨rfl, rfl⟩ | ⟨rfl, rfl⟩ | rfl <;> rfl
theorem Sl.isLp (h : Sl f v l) : AV.isLp v = false := by
  rcases h with ⟨rfl, rfl⟩ | ⟨rfl, rfl⟩ | rfl <;> rfl
theorem Sl.cells (h : Sl f v l) : AV.cells v = [v] := by
  rcases h with ⟨rfl, rfl⟩ | ⟨rfl, rfl⟩ | rfl <;> rfl
theorem Sl.cell (h : Sl f v l) : AV.isCell v = true := by
  rcases h with ⟨rfl, rfl⟩ | ⟨rfl, rfl⟩ | rfl <;> rfl
theorem Sl.slot (h : Sl f v l) (k : Nat) : AV.isSlot k v = false := by
  rcases h with ⟨rfl, rfl⟩ | ⟨rfl, rfl⟩ | rfl <;> rfl
theorem Sl.res (h : Sl f v l) (E : Env) (st : List AObj) (n : Nat) : Ahm.res E st (n + 1) v = some v := by
  rcases h with ⟨rfl, rfl⟩ | ⟨rfl, rfl⟩ | rfl <;> rfl
theorem Sl.frz (h : Sl f v l) (st : List AObj) (n : Nat) : Ahm.frz (n + 1) st v = st := by
  rcases h with ⟨rfl, rfl⟩ | ⟨rfl, rfl⟩ | rfl <;> rfl
theorem Sl.off (h : Sl f v l) (st : List AObj) (n : Nat) : resOff st (n + 1) v = true := by
  rcases h with ⟨rfl, rfl⟩ | ⟨rfl, rfl⟩ | rfl <;> rfl
theorem Sl.fz (h : Sl f v l) : isFz v = true := by
  rcases h with ⟨rfl, rfl⟩ | ⟨rfl, rfl⟩ | rfl <;> rfl

theorem Sl.all (h : Sl f v l) : xlenL v = some (.sc (.int .i64 l.length)) ∧ (∀ lb st, liveA lb st v = true) ∧ AV.isLp v = false ∧ AV.cells v = [v] ∧ AV.isCell v = true ∧ (∀ k, AV.isSlot k v = false) ∧ (∀ E st n, Ahm.res E st (n + 1) v = some v) ∧ (∀ st n, Ahm.frz (n + 1) st v = st) ∧ (∀ st n, resOff st (n + 1) v = true) ∧ isFz v = true :=
  ⟨h.len, h.live, h.isLp, h.cells, h.cell, h.slot, h.res, h.frz, h.off, h.fz⟩

theorem flat_len {s : Nat} (hs : ∀ a, (f a).length = s) : ∀ (l : List α), (l.flatMap f).length = l.length * s
  | [] => by simp
  | a :: r => by simp only [List.flatMap_cons, List.length_append, hs, flat_len hs r, List.length_cons]; rw [Nat.add_mul]; omega

theorem Sl.idx (h : Sl f v l) {s : Nat} (hs : ∀ a, (f a).length = s) (hs0 : 0 < s) {k : IntKind} {i : Int} (h0 : 0 ≤ i ∧ i < l.length) : xiaS s v (.sc (.int k i)) = some (.fp (l.flatMap f) (i.toNat * s)) := by
  rcases h with ⟨rfl, rfl⟩ | ⟨rfl, rfl⟩ | rfl
  · simp at h0; omega
  · simp at h0; omega
  · rw [xiaS_fs, inB_eq]
    have h1 : i.toNat < l.length := by omega
    have h2 : i.toNat * s < l.length * s := Nat.mul_lt_mul_of_pos_right h1 hs0
    simp only [h0, decide_true, Bool.and_self, ifB_true, flat_len hs, show ¬ (l.length * s ≤ i.toNat * s) from by omega, decide_false, ifB_false]

theorem cut_app {a b : List AV} {o n : Nat} : cut (a ++ b) (a.length + o) n = cut b o n := by
  simp only [cut, List.length_append]
  rw [show a.length + o + n = a.length + (o + n) by omega]
  have e : Nat.ble (a.length + (o + n)) (a.length + b.length) = Nat.ble (o + n) b.length := by
    rw [nble, nble]; congr 1; apply propext; omega
  rw [e, List.drop_append, List.drop_eq_nil_of_le (by omega : a.length ≤ a.length + o), List.nil_append, show a.length + o - a.length = o by omega]

theorem cut_pre {a b : List AV} {o n : Nat} (h : o + n ≤ a.length) : cut (a ++ b) o n = cut a o n := by
  simp only [cut, nble, List.length_append, h, decide_true, show o + n ≤ a.length + b.length from by omega, cond_true]
  congr 1
  rw [List.drop_append_of_le_length (by omega), List.take_append_of_le_length (by rw [List.length_drop]; omega)]

theorem cut_flat {s : Nat} (hs : ∀ a, (f a).length = s) : ∀ {l : List α} {i o n : Nat} {a : α}, l[i]? = some a → o + n ≤ s → cut (l.flatMap f) (i * s + o) n = cut (f a) o n
  | [], i, o, n, a, h, _ => by simp at h
  | b :: r, 0, o, n, a, h, hn => by
    simp at h; subst h
    simp only [Nat.zero_mul, Nat.zero_add, List.flatMap_cons]
    exact cut_pre (by rw [hs]; exact hn)
  | b :: r, i + 1, o, n, a, h, hn => by
    simp only [List.flatMap_cons]
    rw [show (i + 1) * s + o = (f b).length + (i * s + o) by rw [hs, Nat.add_mul]; omega, cut_app]
    exact cut_flat hs (by simpa using h) hn
theorem cut_flat0 {s : Nat} (hs : ∀ a, (f a).length = s) {l : List α} {i n : Nat} {a : α} (h : l[i]? = some a) (hn : n ≤ s) : cut (l.flatMap f) (i * s) n = cut (f a) 0 n := by
  have := cut_flat hs (o := 0) (n := n) h (by omega)
  simpa using this
end

/-- ints -/
abbrev fI (n : Int) : List AV := [I n]
abbrev Ints (v : AV) (l : List Int) : Prop := Sl fI v l
theorem fI_len (n : Int) : (fI n).length = 1 := rfl
theorem Sl.idxI {v : AV} {l : List Int} (h : Ints v l) {k : IntKind} {i : Int} (h0 : 0 ≤ i ∧ i < l.length) : xiaS 1 v (.sc (.int k i)) = some (.fp (l.flatMap fI) i.toNat) := by
  have := h.idx fI_len (by omega) (k := k) h0
  simpa using this
theorem cutI {l : List Int} {i : Nat} {a : Int} (h : l[i]? = some a) : cut (l.flatMap fI) i 1 = some [I a] := by
  have := cut_flat0 fI_len (n := 1) h (by omega)
  simp only [Nat.mul_one] at this
  rw [this]; rfl

/-! memory that grows -/
theorem all_flat {α : Type} {f : α → List AV} {p : AV → Bool} (hf : ∀ a, (f a).all p = true) : ∀ (l : List α), (l.flatMap f).all p = true
  | [] => rfl
  | a :: r => by simp only [List.flatMap_cons, List.all_append, hf, all_flat hf r, Bool.and_self]
theorem cut_all {c : List AV} {n : Nat} (h : c.length = n) : cut c 0 n = some c := by
  subst h
  simp [cut, nble]
theorem mapO_app {g : AV → Option AV} : ∀ {a b a' b' : List AV}, mapO g a = some a' → mapO g b = some b' → mapO g (a ++ b) = some (a' ++ b')
  | [], b, a', b', h, k => by simp only [mapO, Option.some.injEq] at h; subst h; exact k
  | x :: r, b, a', b', h, k => by
    simp only [mapO_cons] at h
    cases hx : g x with
    | none => simp [hx, consV] at h
    | some y => cases hr : mapO g r with
      | none => simp [hx, hr, consV] at h
      | some r' =>
        simp only [hx, hr, consV, Option.some.injEq] at h
        subst h
        simp only [List.cons_append, mapO_cons, hx, mapO_app hr k, consV]
theorem mapO_flat {α : Type} {f f' : α → List AV} {g : AV → Option AV} : ∀ {l : List α}, (∀ a ∈ l, mapO g (f a) = some (f' a)) → mapO g (l.flatMap f) = some (l.flatMap f')
  | [], _ => rfl
  | a :: r, h => by
    simp only [List.flatMap_cons]
    exact mapO_app (h a (List.mem_cons_self ..)) (mapO_flat fun b hb => h b (List.mem_cons_of_mem _ hb))
theorem resI {E : Env} {st : List AObj} {n : Nat} (l : List Int) : mapO (res E st (n + 1)) (l.flatMap fI) = some (l.flatMap fI) := mapO_flat fun a _ => rfl
theorem lenI (l : List Int) : (l.flatMap fI).length = l.length := by rw [flat_len fI_len, Nat.mul_one]
theorem cellsI (l : List Int) : (l.flatMap fI).all AV.isCell = true := all_flat (fun a => rfl) l

theorem xapp_grow {st : List AObj} {e s b o n L k : Nat} {c news : List AV} (ho : st[o]? = some (.arr c e true)) (hc : c.length = L) (hL : L = n * s) (hk : 0 < k * s) (hb : (n + k) * b ≤ 140737488355328) (hn : news.all AV.isCell = true) :
    xapp st e s b (.sl o 0 n L) news k = some (.sl o 0 (n + k) (L + k * s), st.set o (.arr (c ++ news) e true)) := by
  rw [xapp_sl, ho, appOb_arr]
  subst hL
  simp only [hn, ifB_true, hc, decide_true, Bool.true_and, roomA_eq, hb, show ¬ (0 + n * s + k * s ≤ n * s) from by omega, decide_false, ifB_false, Bool.and_self]
theorem xapp_first {st : List AObj} {e s b k : Nat} {news : List AV} (hk : k ≠ 0) (hb : k * b ≤ 140737488355328) (hn : news.all AV.isCell = true) :
    xapp st e s b (.sc (.slice none 0 0)) news k = some (.sl st.length 0 k (k * s), st ++ [.arr news e true]) := by
  rw [xapp_nil]
  simp only [hn, ifB_true, hk, decide_false, ifB_false, roomA_eq, hb, decide_true]

/-! a slice that is grown by append, behind other memory -/
def gv (o s k : Nat) : AV := if k = 0 then .sc (.slice none 0 0) else .sl o 0 k (k * s)
def gs (st0 : List AObj) (e k : Nat) (c : List AV) : List AObj := if k = 0 then st0 else st0 ++ [.arr c e true]
theorem gv_zero {o s : Nat} : gv o s 0 = .sc (.slice none 0 0) := rfl
theorem gs_zero {st0 : List AObj} {e : Nat} {c : List AV} : gs st0 e 0 c = st0 := rfl
theorem gv_all {o s k : Nat} : AV.isLp (gv o s k) = false ∧ AV.cells (gv o s k) = [gv o s k] ∧ AV.isCell (gv o s k) = true ∧ (∀ j, AV.isSlot j (gv o s k) = false) := by
  unfold gv; split <;> exact ⟨rfl, rfl, rfl, fun _ => rfl⟩
theorem gv_len {o s k : Nat} : xlenL (gv o s k) = some (.sc (.int .i64 k)) := by
  unfold gv; split
  · rename_i h; subst h; rfl
  · rfl
theorem gv_live {st0 : List AObj} {e s k : Nat} {c : List AV} {lb : Lb} (hc : c.length = k * s) : liveA lb (gs st0 e k c) (gv st0.length s k) = true := by
  unfold gv gs; split
  · rfl
  · rw [liveA_sl]; simp [liveOb, hc]
theorem gapp {st0 : List AObj} {e s b k j : Nat} {c news : List AV} (hc : c.length = k * s) (hj : 0 < j) (hs : 0 < s) (hb : (k + j) * b ≤ 140737488355328) (hn : news.all AV.isCell = true) :
    xapp (gs st0 e k c) e s b (gv st0.length s k) news j = some (gv st0.length s (k + j), gs st0 e (k + j) (bif decide (k = 0) then news else c ++ news)) := by
  by_cases hk : k = 0
  · subst hk
    simp only [gv_zero, gs_zero, Nat.zero_add] at hb ⊢
    rw [xapp_first (by omega) (by omega) hn]
    simp [gv, gs, show j ≠ 0 by omega]
  · have hjs : 0 < j * s := Nat.mul_pos hj hs
    simp only [gv, gs, hk, if_false, decide_false, cond_false, show k + j ≠ 0 by omega]
    rw [xapp_grow (by simp) hc rfl hjs hb hn]
    simp [Nat.add_mul]
theorem gapp1 {st0 : List AObj} {e s b k : Nat} {c news : List AV} (hc : c.length = k * s) (hs : 0 < s) (hb : (k + 1) * b ≤ 140737488355328) (hn : news.all AV.isCell = true) :
    xapp (gs st0 e k c) e s b (gv st0.length s k) news 1 = some (gv st0.length s (k + 1), gs st0 e (k + 1) (c ++ news)) := by
  rw [gapp hc (by omega) hs hb hn]
  by_cases hk : k = 0
  · subst hk
    have : c = [] := List.length_eq_zero_iff.1 (by omega)
    simp [this]
  · simp [hk]
theorem gres {E : Env} {st0 : List AObj} {e s k n : Nat} {c c' : List AV} (hc : c.length = k * s) (hz : sizeT E e = some s) (hm : mapO (res E (gs st0 e k c) n) c = some c') :
    res E (gs st0 e k c) (n + 1) (gv st0.length s k) = some (if k = 0 then .sc (.slice none 0 0) else .fs c' k) := by
  by_cases hk : k = 0
  · subst hk; rfl
  · simp only [gv, hk, if_false]
    rw [res_sl]
    have e1 : (gs st0 e k c)[st0.length]? = some (.arr c e true) := by simp [gs, hk]
    rw [e1, resOb_arr hz]
    simp only [hc, decide_true, ifB_true, cut_all hc, o1, hm, fsO]
/-- what such a slice is at last -/
theorem gsl {α : Type} {f : α → List AV} {l : List α} : Sl f (if l.length = 0 then .sc (.slice none 0 0) else .fs (l.flatMap f) l.length) l := by
  split
  · rename_i h; rw [List.length_eq_zero_iff.1 h]; exact Sl.nil
  · exact Sl.fs

end Go.Proofs.YtcfaajaccbadbaaDoor.Ahm
