/-
  Slices that own their row, in the logic of separate memory; append onto them.
-/
import Derived.Test.YtnjgddckejpddaaGreatDoorSep
import Derived.Deep.AppendSrc
import Derived.Deep.Upon
namespace Go.Proofs.YtnjgddckejpddaaGreatDoor
open Go.RowKit
namespace Sep

/-- A slice value of n elements that reads as the cells xs and owns its row, or has no capacity. -/
def Row (e : TypeId) (sz : Nat) (v : Value) (n : Nat) (xs : List Value) : Hp := fun h =>
  xs.length = n * sz ∧
  (((∃ a, v = .slice a 0 0) ∧ n = 0 ∧ h = fun _ => none) ∨
   ∃ g cap cur, v = .slice (some ⟨g, 0, none⟩) n cap ∧ n ≤ cap ∧ cap ≤ maxLen ∧ cur.size = cap * sz ∧ cur.toList.take (n * sz) = xs ∧ pts g (.cells cur e (0, 0)) h)

theorem star_pure {h : Hl} {A : Hp} : (star (fun h => h = fun _ => none) A) h ↔ A h := by
  have := emp_mul A
  exact iff_of_eq (congrFun this h)

theorem Row.open_ {s : Out} {w : World} {e : TypeId} {sz : Nat} {v : Value} {n : Nat} {xs : List Value} {R : Hp} (h : Sat s w (Row e sz v n xs * R)) :
    xs.length = n * sz ∧
    (((∃ a, v = .slice a 0 0) ∧ n = 0 ∧ Sat s w R) ∨
     ∃ g cap cur, v = .slice (some ⟨g, 0, none⟩) n cap ∧ n ≤ cap ∧ cap ≤ maxLen ∧ cur.size = cap * sz ∧ cur.toList.take (n * sz) = xs ∧ Sat s w (pts g (.cells cur e (0, 0)) * R)) := by
  have hr := h.right
  obtain ⟨ho, x, ⟨a, b, ⟨hl, ha⟩, hb, hd, rfl⟩, hh⟩ := h
  refine ⟨hl, ?_⟩
  rcases ha with ⟨ha, hn, _⟩ | ⟨g, cap, cur, h1, h2, h3, h4, h5, h6⟩
  · exact .inl ⟨ha, hn, hr⟩
  · exact .inr ⟨g, cap, cur, h1, h2, h3, h4, h5, ho, _, ⟨a, b, h6, hb, hd, rfl⟩, hh⟩

theorem Row.shut_none {s : Out} {w : World} (e : TypeId) (sz : Nat) (a : Option Addr) {R : Hp} (h : Sat s w R) : Sat s w (Row e sz (.slice a 0 0) 0 [] * R) := by
  obtain ⟨ho, x, hx, hh⟩ := h
  refine ⟨ho, x, ⟨fun _ => none, x, ⟨by simp, .inl ⟨⟨a, rfl⟩, rfl, rfl⟩⟩, hx, fun k => .inl rfl, rfl⟩, hh⟩

theorem Row.shut {s : Out} {w : World} {e : TypeId} {sz : Nat} {g n cap : Nat} {cur : Array Value} {xs : List Value} {R : Hp}
    (h : Sat s w (pts g (.cells cur e (0, 0)) * R)) (h1 : n ≤ cap) (h2 : cap ≤ maxLen) (h3 : cur.size = cap * sz) (h4 : cur.toList.take (n * sz) = xs) :
    Sat s w (Row e sz (.slice (some ⟨g, 0, none⟩) n cap) n xs * R) := by
  obtain ⟨ho, x, ⟨a, b, ha, hb, hd, rfl⟩, hh⟩ := h
  refine ⟨ho, _, ⟨a, b, ⟨?_, .inr ⟨g, cap, cur, rfl, h1, h2, h3, h4, ha⟩⟩, hb, hd, rfl⟩, hh⟩
  rw [← h4, List.length_take, Array.length_toList, h3]
  exact Nat.min_eq_left (Nat.mul_le_mul_right sz h1)

theorem Row.len {s : Out} {w : World} {e : TypeId} {sz : Nat} {v : Value} {n : Nat} {xs : List Value} {R : Hp} (h : Sat s w (Row e sz v n xs * R)) :
    xs.length = n * sz ∧ n ≤ maxLen ∧ ∃ a cap, v = .slice a n cap ∧ n ≤ cap ∧ cap ≤ maxLen := by
  obtain ⟨hl, ⟨⟨a, rfl⟩, rfl, _⟩ | ⟨g, cap, cur, rfl, h1, h2, _⟩⟩ := Row.open_ h
  · exact ⟨hl, by simp [maxLen], a, 0, rfl, Nat.le_refl _, by simp [maxLen]⟩
  · exact ⟨hl, by omega, _, cap, rfl, h1, h2⟩

/-- A slice value of n elements that reads as the cells xs; nothing is owned. -/
def View (sz : Nat) (w : World) (v : Value) (n : Nat) (xs : List Value) : Prop :=
  xs.length = n * sz ∧ ∃ a c, v = .slice a n c ∧ n ≤ c ∧ c ≤ maxLen ∧ (∀ j u, xs[j]? = some u → ∃ ad, a = some ad ∧ w.cell? (ad.add j) = some u) ∧ (a = none → n = 0)

theorem add_none (g o j : Nat) : (⟨g, o, none⟩ : Addr).add j = ⟨g, o + j, none⟩ := by unfold Addr.add; split <;> simp_all

theorem add_add (a : Addr) (i j : Nat) : (a.add i).add j = a.add (i + j) := by
  unfold Addr.add
  by_cases hi : i = 0
  · subst hi; simp
  · by_cases hj : j = 0
    · subst hj; simp [hi]
    · simp [hi, hj, Nat.add_assoc]

theorem Row.view {s : Out} {w : World} {e : TypeId} {sz : Nat} {v : Value} {n : Nat} {xs : List Value} {R : Hp} (h : Sat s w (Row e sz v n xs * R)) : View sz w v n xs := by
  obtain ⟨hl, ⟨⟨a, rfl⟩, rfl, _⟩ | ⟨g, cap, cur, rfl, h1, h2, h3, h4, hs⟩⟩ := Row.open_ h
  · have hx : xs = [] := by simpa using hl
    subst hx
    exact ⟨by simp, a, 0, rfl, Nat.le_refl _, by simp [maxLen], fun j u hu => by simp at hu, fun _ => rfl⟩
  · refine ⟨hl, some ⟨g, 0, none⟩, cap, rfl, h1, h2, fun j u hu => ⟨_, rfl, ?_⟩, fun h => by cases h⟩
    rw [add_none, Nat.zero_add]
    refine hs.cell ?_
    rw [← h4, List.getElem?_take] at hu
    split at hu
    · simpa using hu
    · cases hu

theorem View.src {P : Program} {sz : Nat} {tx e' : TypeId} (hk : P.underlying tx = some (.slice e')) {w : World} {v : Value} {n : Nat} {xs : List Value} (h : View sz w v n xs) (h1 : ∀ u ∈ xs, u.oneCell' = true) :
    Src P sz tx v n xs w := by
  obtain ⟨hl, a, c, rfl, hn, hc, hx, h0⟩ := h
  cases a with
  | none =>
    obtain rfl := h0 rfl
    have : xs = [] := by simpa using hl
    subst this
    exact Src.ofNil w hk c
  | some ad =>
    refine Src.ofSlice w hk ad n c xs hl (fun j u hu => ?_) h1
    obtain ⟨_, he, hu'⟩ := hx j u hu
    cases he; exact hu'

theorem View.take {sz : Nat} {w : World} {n : Nat} {xs : List Value} {a : Option Addr} {c : Nat} (h : View sz w (.slice a n c) n xs) (k : Nat) (hk : k ≤ n) : View sz w (.slice a k c) k (xs.take (k * sz)) := by
  obtain ⟨hl, _, _, he, hn, hc, hx, h0⟩ := h
  cases he
  refine ⟨?_, a, c, rfl, by omega, hc, fun j u hu => ?_, fun e => by have := h0 e; omega⟩
  · rw [List.length_take, hl]; exact Nat.min_eq_left (Nat.mul_le_mul_right sz hk)
  · rw [List.getElem?_take] at hu
    split at hu
    · exact hx j u hu
    · cases hu

def writes (cur : Array Value) : Nat → List Value → Array Value
  | _, [] => cur
  | o, v :: r => writes (cur.setIfInBounds o v) (o + 1) r

theorem writes_size : ∀ (l : List Value) (o : Nat) (cur : Array Value), (writes cur o l).size = cur.size
  | [], _, _ => rfl
  | v :: r, o, cur => by rw [writes, writes_size r]; simp

theorem writes_take : ∀ (l : List Value) (o : Nat) (cur : Array Value), o + l.length ≤ cur.size → (writes cur o l).toList.take (o + l.length) = cur.toList.take o ++ l
  | [], o, cur, _ => by simp [writes]
  | v :: r, o, cur, h => by
    simp only [List.length_cons] at h
    have ih := writes_take r (o + 1) (cur.setIfInBounds o v) (by simp; omega)
    rw [writes, List.length_cons, show o + (r.length + 1) = o + 1 + r.length by omega, ih]
    have h2 : (cur.setIfInBounds o v).toList.take (o + 1) = cur.toList.take o ++ [v] := by
      rw [Array.toList_setIfInBounds, List.take_add_one, List.take_set_of_le (Nat.le_refl _)]
      simp [show o < cur.size by omega]
    rw [h2, List.append_assoc]; rfl

theorem Sat.setCells {s : Out} {b : Nat} {e : TypeId} {f : Nat × Nat} {R : Hp} : ∀ (l : List Value) (o : Nat) {w : World} {cur : Array Value}, Sat s w (pts b (.cells cur e f) * R) →
    Sat s (w.setCells b o l) (pts b (.cells (writes cur o l) e f) * R)
  | [], _, _, _, h => h
  | v :: r, o, _, _, h => Sat.setCells r (o + 1) (h.setCell v)

/-- The cells of a list of structs. -/
def cellsOf {α : Type} (enc : α → List Value) (l : List α) : List Value := l.flatMap enc

theorem cellsOf_length {α : Type} {enc : α → List Value} {sz : Nat} (he : ∀ x, (enc x).length = sz) : ∀ l : List α, (cellsOf enc l).length = l.length * sz
  | [] => by simp [cellsOf]
  | a :: l => by
    have ih := cellsOf_length he l
    simp only [cellsOf, List.flatMap_cons, List.length_append, he, List.length_cons] at ih ⊢
    rw [ih, Nat.add_mul]; omega

theorem cellsOf_get {α : Type} {enc : α → List Value} {sz : Nat} (he : ∀ x, (enc x).length = sz) : ∀ (l : List α) (i j : Nat), j < sz → (cellsOf enc l)[i * sz + j]? = (l[i]?).bind fun x => (enc x)[j]?
  | [], i, j, _ => by simp [cellsOf]
  | a :: l, 0, j, hj => by
    simp only [cellsOf, List.flatMap_cons, Nat.zero_mul, Nat.zero_add]
    rw [List.getElem?_append_left (by rw [he]; exact hj)]; rfl
  | a :: l, i + 1, j, hj => by
    have ih := cellsOf_get he l i j hj
    simp only [cellsOf, List.flatMap_cons] at ih ⊢
    rw [List.getElem?_append_right (by rw [he, Nat.add_mul]; omega), he, show (i + 1) * sz + j - sz = i * sz + j by rw [Nat.add_mul]; omega, ih]; rfl

theorem cellsOf_append {α : Type} (enc : α → List Value) (l m : List α) : cellsOf enc (l ++ m) = cellsOf enc l ++ cellsOf enc m := by simp [cellsOf]

/-- A cell of a struct in a row. -/
theorem Row.at {α : Type} {enc : α → List Value} {sz : Nat} (he : ∀ x, (enc x).length = sz) {s : Out} {w : World} {e : TypeId} {g n cap : Nat} {l : List α} {R : Hp}
    (h : Sat s w (Row e sz (.slice (some ⟨g, 0, none⟩) n cap) n (cellsOf enc l) * R)) {i : Nat} {x : α} (hx : l[i]? = some x) {j : Nat} {u : Value} (hu : (enc x)[j]? = some u) :
    w.cell? ⟨g, i * sz + j, none⟩ = some u := by
  obtain ⟨hl, a, c, hv, hnc, hc, hx', h0⟩ := Row.view h
  have hj : j < sz := by
    rcases Nat.lt_or_ge j sz with h | h
    · exact h
    · rw [List.getElem?_eq_none (by rw [he]; exact h)] at hu; cases hu
  have h5 := cellsOf_get he l i j hj
  rw [hx] at h5
  simp only [Option.bind_some, hu] at h5
  obtain ⟨ad, ha, hc'⟩ := hx' _ _ h5
  injection hv with h1 h2 h3
  rw [← h1] at ha
  cases ha
  rw [add_none, Nat.zero_add] at hc'
  exact hc'

/-- The type's row in the program's table. -/
structure Elem (P : Program) (t e : TypeId) (sz : Nat) (i : TypeInfo) (z : Value) : Prop where
  ht : P.underlying t = some (.slice e)
  hi : P.info? e = some i
  hz : i.zero = some z
  hs : i.size = sz
  hzs : z.cells.size = sz
  pos : 0 < sz

theorem grow_fits {need cap b : Nat} (h : cap < need) (hb : need * b ≤ 140737488355328) : Builtin.nextslicecap need cap * b ≤ 281474976710656 := by
  have h1 := Nat.mul_le_mul_right b (nextslicecap_le h)
  have h2 : 2 * need * b = 2 * (need * b) := Nat.mul_assoc ..
  omega

theorem run_firstCells_zero {P : Program} (size : Nat) (a : Option Addr) (c : Nat) (w : World) : (Builtin.firstCells size 0 (.slice a 0 c)).run P w = .ok #[] w := by
  cases a <;> simp [Builtin.firstCells, loadCells, loadCellsFrom]

/-- append(v, x...) -/
theorem Row.append {P : Program} {t e : TypeId} {sz : Nat} {i : TypeInfo} {z : Value} (E : Elem P t e sz i z) {s : Out} {w : World} {v x : Value} {n m : Nat} {xs news : List Value} {R : Hp}
    (h : Sat s w (Row e sz v n xs * R)) {tx : TypeId} (ty : TypeId) (hx : Src P sz tx x m news w) (h63 : n + m ≤ maxLen) (hby : (n + m) * i.bytes ≤ 140737488355328) :
    ∃ v' w', (Builtin.append_ #[t, tx] ty #[v, x]).run P w = .ok v' w' ∧ w.heap.size ≤ w'.heap.size ∧ Sat s w' (Row e sz v' (n + m) (xs ++ news) * R) := by
  have hxl := hx.newsLen
  have hm63 : n + m ≤ 9223372036854775807 := by unfold maxLen at h63; omega
  obtain ⟨hl, ⟨⟨a, rfl⟩, rfl, hr⟩ | ⟨g, cap, cur, rfl, h1, h2, h3, h4, hr⟩⟩ := Row.open_ h
  · have hxs : xs = [] := by simpa using hl
    subst hxs
    rcases Nat.eq_zero_or_pos m with rfl | hm
    · have hn : news = [] := by simpa using hxl
      subst hn
      exact ⟨_, _, run_append_nothing w t tx ty e i E.ht E.hi a 0 0 (Nat.le_refl _) x (by rw [E.hs]; exact hx), Nat.le_refl _, Row.shut_none e sz a hr⟩
    · refine ⟨_, _, run_append_grow_src w t tx ty e i z E.ht E.hi E.hz a 0 0 [] (run_firstCells_zero _ _ _ _) x m news (by rw [E.hs]; exact hx) (by omega) (by omega) (grow_fits (by omega) hby), by simp, ?_⟩
      have hge := grownCap_ge w (0 + m) 0 e
      refine Row.shut (hr.drew.alloc _) (by omega) (grownCap_le_maxLen w _ _ e h63) ?_ ?_
      · simp only [List.nil_append, Array.size_append, List.size_toArray, hxl, size_zeroCells, E.hzs]
        rw [← Nat.add_mul]; congr 1; omega
      · simp only [List.nil_append, Array.toList_append]
        rw [List.take_append_of_le_length (by rw [hxl]; simp)]
        rw [Nat.zero_add, ← hxl]; simp
  · by_cases hroom : n + m ≤ cap
    · have hfit : n * sz + news.length ≤ cur.size := by
        rw [hxl, h3, ← Nat.add_mul]; exact Nat.mul_le_mul_right sz hroom
      have hb := hr.get
      refine ⟨_, _, run_append_room_src w t tx ty e i E.ht E.hi g 0 n cap x m news (by rw [E.hs]; exact hx) hroom (fun j hj => ?_) (fun j hj => hr.free), ?_, ?_⟩
      · rw [E.hs, hr.cell (v := cur[0 + n * sz + j]'(by omega)) (by simp)]; rfl
      · rw [E.hs]
        have : ∀ (l : List Value) (o : Nat) (w : World), (w.setCells g o l).heap.size = w.heap.size := by
          intro l; induction l with
          | nil => intro o w; rfl
          | cons v l ih => intro o w; rw [World.setCells, ih]; simp
        rw [this]; exact Nat.le_refl _
      · rw [E.hs]
        refine Row.shut (hr.setCells news (0 + n * sz)) hroom h2 (by rw [writes_size]; exact h3) ?_
        rw [Nat.zero_add, Nat.add_mul, ← hxl, writes_take _ _ _ hfit, h4]
    · refine ⟨_, _, run_append_grow_src w t tx ty e i z E.ht E.hi E.hz (some ⟨g, 0, none⟩) n cap xs ?_ x m news (by rw [E.hs]; exact hx) (by omega) (by omega) (grow_fits (by omega) hby), by simp, ?_⟩
      · have hv := (Row.view h).2
        refine run_firstCells_some w.drew i.size n _ n cap xs (by rw [E.hs]; exact hl) (fun j u hu => ?_)
        obtain ⟨_, _, he, _, _, hx', _⟩ := hv
        cases he
        obtain ⟨_, hA, hu'⟩ := hx' j u hu
        cases hA
        simpa using hu'
      · have hge := grownCap_ge w (n + m) cap e
        have hr2 := hr.right
        refine Row.shut (hr2.drew.alloc _) (by omega) (grownCap_le_maxLen w _ _ e h63) ?_ ?_
        · simp only [Array.size_append, List.size_toArray, List.length_append, hl, hxl, size_zeroCells, E.hzs]
          rw [← Nat.add_mul, ← Nat.add_mul]; congr 1; omega
        · simp only [Array.toList_append]
          rw [List.take_append_of_le_length (by simp [hl, hxl, Nat.add_mul])]
          rw [List.take_of_length_le (by simp [hl, hxl, Nat.add_mul])]

end Sep
#print axioms Sep.Row.append
end Go.Proofs.YtnjgddckejpddaaGreatDoor
