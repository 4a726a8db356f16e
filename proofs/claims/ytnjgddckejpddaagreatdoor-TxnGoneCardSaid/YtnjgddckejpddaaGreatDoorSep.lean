/-
  A small logic of separate memory over the model's world: what a part of memory holds, and the rest beside it.
-/
import Derived.WalkKit
import Derived.Deep.Draws
namespace Go.Proofs.YtnjgddckejpddaaGreatDoor
open Go.RowKit
namespace Sep

theorem hid {p : Prop} (h : p) : Hid p := h

/-- A part of memory: some blocks, with what they hold. -/
abbrev Hl := Nat → Option Obj
/-- A property of a part of memory. -/
def Hp := Hl → Prop

def Hl.un (a b : Hl) : Hl := fun k => match a k with | some o => some o | none => b k
def Hl.disj (a b : Hl) : Prop := ∀ k, a k = none ∨ b k = none

theorem Hp.ext {A B : Hp} (h : ∀ x, A x ↔ B x) : A = B := funext fun x => propext (h x)

def star (A B : Hp) : Hp := fun h => ∃ a b, A a ∧ B b ∧ a.disj b ∧ h = a.un b
def emp : Hp := fun h => h = fun _ => none
def pts (b : Nat) (o : Obj) : Hp := fun h => h = fun k => if k = b then some o else none
def ex {α : Sort _} (A : α → Hp) : Hp := fun h => ∃ x, A x h
def pure_ (p : Prop) : Hp := fun h => p ∧ h = fun _ => none

instance : Mul Hp := ⟨star⟩
theorem mul_def (A B : Hp) : A * B = star A B := rfl

theorem un_comm {a b : Hl} (h : a.disj b) : a.un b = b.un a := by
  funext k
  rcases h k with h | h <;> simp only [Hl.un, h] <;> (split <;> simp_all)

theorem un_assoc (a b c : Hl) : (a.un b).un c = a.un (b.un c) := by
  funext k
  simp only [Hl.un]
  cases a k <;> rfl

theorem disj_comm {a b : Hl} (h : a.disj b) : b.disj a := fun k => (h k).symm

theorem disj_un_left {a b c : Hl} : (a.un b).disj c ↔ a.disj c ∧ b.disj c := by
  constructor
  · intro h
    refine ⟨fun k => ?_, fun k => ?_⟩
    · rcases h k with h | h
      · left; simp only [Hl.un] at h; cases ha : a k with
        | none => rfl
        | some o => simp [ha] at h
      · exact .inr h
    · rcases h k with h | h
      · simp only [Hl.un] at h; cases ha : a k with
        | none => simp [ha] at h; exact .inl h
        | some o => simp [ha] at h
      · exact .inr h
  · rintro ⟨h1, h2⟩ k
    rcases h1 k with h1 | h1
    · rcases h2 k with h2 | h2
      · left; simp [Hl.un, h1, h2]
      · exact .inr h2
    · exact .inr h1

theorem disj_un_right {a b c : Hl} : a.disj (b.un c) ↔ a.disj b ∧ a.disj c := by
  constructor
  · intro h; have := disj_un_left.1 (disj_comm h); exact ⟨disj_comm this.1, disj_comm this.2⟩
  · intro h; exact disj_comm (disj_un_left.2 ⟨disj_comm h.1, disj_comm h.2⟩)

theorem mul_comm (A B : Hp) : A * B = B * A := by
  refine Hp.ext fun h => ⟨?_, ?_⟩ <;>
    (rintro ⟨a, b, ha, hb, hd, rfl⟩; exact ⟨b, a, hb, ha, disj_comm hd, un_comm hd⟩)

theorem mul_assoc (A B C : Hp) : A * B * C = A * (B * C) := by
  refine Hp.ext fun h => ⟨?_, ?_⟩
  · rintro ⟨ab, c, ⟨a, b, ha, hb, hd, rfl⟩, hc, hd2, rfl⟩
    have h2 := disj_un_left.1 hd2
    exact ⟨a, b.un c, ha, ⟨b, c, hb, hc, h2.2, rfl⟩, disj_un_right.2 ⟨hd, h2.1⟩, un_assoc _ _ _⟩
  · rintro ⟨a, bc, ha, ⟨b, c, hb, hc, hd, rfl⟩, hd2, rfl⟩
    have h2 := disj_un_right.1 hd2
    exact ⟨a.un b, c, ⟨a, b, ha, hb, h2.1, rfl⟩, hc, disj_un_left.2 ⟨h2.2, hd⟩, (un_assoc _ _ _).symm⟩

theorem emp_mul (A : Hp) : emp * A = A := by
  refine Hp.ext fun h => ⟨?_, ?_⟩
  · rintro ⟨a, b, rfl, hb, _, rfl⟩
    have : Hl.un (fun _ => none) b = b := rfl
    rw [this]; exact hb
  · intro hA; exact ⟨fun _ => none, h, rfl, hA, fun k => .inl rfl, rfl⟩

theorem mul_emp (A : Hp) : A * emp = A := by rw [mul_comm, emp_mul]

instance : Std.Associative (α := Hp) (· * ·) := ⟨mul_assoc⟩
instance : Std.Commutative (α := Hp) (· * ·) := ⟨mul_comm⟩

theorem ex_mul {α : Sort _} (A : α → Hp) (B : Hp) : ex A * B = ex fun x => A x * B := by
  refine Hp.ext fun h => ⟨?_, ?_⟩
  · rintro ⟨a, b, ⟨x, ha⟩, hb, hd, rfl⟩; exact ⟨x, a, b, ha, hb, hd, rfl⟩
  · rintro ⟨x, a, b, ha, hb, hd, rfl⟩; exact ⟨a, b, ⟨x, ha⟩, hb, hd, rfl⟩

/-- What lies outside memory, and does not turn. -/
structure Out where
  os : Os
  tape : Nat → Question → Nat
  output : Array (Nat × ByteArray)

def out (w : World) : Out := ⟨w.os, w.tape, w.output⟩

/-- Some part of the world's memory has the property. -/
def Sat (s : Out) (w : World) (A : Hp) : Prop := out w = s ∧ ∃ h, A h ∧ ∀ b o, h b = some o → w.heap[b]? = some o

theorem Sat.ex_iff {s : Out} {w : World} {α : Sort _} {A : α → Hp} : Sat s w (ex A) ↔ ∃ x, Sat s w (A x) := by
  constructor
  · rintro ⟨hs, h, ⟨x, hx⟩, hh⟩; exact ⟨x, hs, h, hx, hh⟩
  · rintro ⟨x, hs, h, hx, hh⟩; exact ⟨hs, h, ⟨x, hx⟩, hh⟩

theorem Sat.pure_iff {s : Out} {w : World} {p : Prop} {A : Hp} : Sat s w (pure_ p * A) ↔ p ∧ Sat s w A := by
  constructor
  · rintro ⟨hs, h, ⟨a, b, ⟨hp, rfl⟩, hb, _, rfl⟩, hh⟩; exact ⟨hp, hs, b, hb, fun k o hk => hh k o hk⟩
  · rintro ⟨hp, hs, h, hA, hh⟩
    exact ⟨hs, h, ⟨fun _ => none, h, ⟨hp, rfl⟩, hA, fun k => .inl rfl, rfl⟩, hh⟩

theorem Sat.right {s : Out} {w : World} {A B : Hp} (h : Sat s w (A * B)) : Sat s w B := by
  obtain ⟨hs, _, ⟨a, b, ha, hb, hd, rfl⟩, hh⟩ := h
  refine ⟨hs, b, hb, fun k o hk => hh k o ?_⟩
  rcases hd k with h | h
  · simp [Hl.un, h, hk]
  · rw [h] at hk; cases hk

theorem Sat.left {s : Out} {w : World} {A B : Hp} (h : Sat s w (A * B)) : Sat s w A := by
  rw [mul_comm] at h; exact h.right

theorem Sat.get {s : Out} {w : World} {b : Nat} {o : Obj} {R : Hp} (h : Sat s w (pts b o * R)) : w.heap[b]? = some o := by
  obtain ⟨_, _, rfl, hh⟩ := h.left
  exact hh b o (by simp)

theorem Sat.get1 {s : Out} {w : World} {b : Nat} {o : Obj} (h : Sat s w (pts b o)) : w.heap[b]? = some o := by
  obtain ⟨_, _, rfl, hh⟩ := h
  exact hh b o (by simp)

/-- Two blocks that stand beside each other are two. -/
theorem Sat.ne {s : Out} {w : World} {a b : Nat} {o p : Obj} {R : Hp} (h : Sat s w (pts a o * (pts b p * R))) : a ≠ b := by
  rintro rfl
  obtain ⟨_, _, ⟨x, y, rfl, ⟨u, v, rfl, _, _, rfl⟩, hd, rfl⟩, _⟩ := h
  have := hd a
  simp [Hl.un] at this

/-- What is the same outside, and of whatever the part holds. -/
theorem Sat.turn {s : Out} {w w' : World} {A : Hp} (h : Sat s w A) (ho : out w' = out w) (hk : ∀ k, k < w.heap.size → w'.heap[k]? = w.heap[k]?) : Sat s w' A := by
  obtain ⟨hs, x, hx, hh⟩ := h
  refine ⟨ho.trans hs, x, hx, fun b o hb => ?_⟩
  have h1 := hh b o hb
  have hlt : b < w.heap.size := by
    rcases Nat.lt_or_ge b w.heap.size with h' | h'
    · exact h'
    · simp [Array.getElem?_eq_none h'] at h1
  rw [hk b hlt]; exact h1

theorem Sat.below {s : Out} {w w' : World} {A : Hp} (h : Sat s w A) (hb : Below w.heap.size w w') : Sat s w' A :=
  h.turn (by simp [out, hb.os, hb.tape, hb.output]) hb.block

theorem Sat.drew {s : Out} {w : World} {A : Hp} (h : Sat s w A) : Sat s w.drew A := h.turn rfl fun _ _ => rfl
theorem Sat.drewN {s : Out} {w : World} {A : Hp} (h : Sat s w A) (n : Nat) : Sat s (w.drewN n) A := h.turn rfl fun _ _ => rfl

/-- The part without one block, and that block turned. -/
theorem Sat.turn1 {s : Out} {w w' : World} {b : Nat} {o o' : Obj} {R : Hp} (h : Sat s w (pts b o * R)) (ho : out w' = out w) (hb : w'.heap[b]? = some o')
    (hk : ∀ k, k < w.heap.size → k ≠ b → w'.heap[k]? = w.heap[k]?) : Sat s w' (pts b o' * R) := by
  obtain ⟨hs, _, ⟨x, y, rfl, hy, hd, rfl⟩, hh⟩ := h
  have hyb : y b = none := by have := hd b; simpa using this
  refine ⟨ho.trans hs, _, ⟨_, y, rfl, hy, ?_, rfl⟩, ?_⟩
  · intro k
    by_cases e : k = b
    · subst e; exact .inr hyb
    · left; simp [e]
  · intro k p hp
    by_cases e : k = b
    · subst e; simp [Hl.un] at hp; rw [hb, hp]
    · have h1 : y k = some p := by simpa [Hl.un, e] using hp
      have h2 := hh k p (by simp [Hl.un, e, h1])
      have hlt : k < w.heap.size := by
        rcases Nat.lt_or_ge k w.heap.size with h' | h'
        · exact h'
        · simp [Array.getElem?_eq_none h'] at h2
      rw [hk k hlt e]; exact h2

/-- New blocks stand beside all that was there. -/
theorem Sat.new1 {s : Out} {w w' : World} {b : Nat} {o : Obj} {R : Hp} (h : Sat s w R) (ho : out w' = out w) (hge : w.heap.size ≤ b) (hb : w'.heap[b]? = some o)
    (hk : ∀ k, k < w.heap.size → w'.heap[k]? = w.heap[k]?) : Sat s w' (pts b o * R) := by
  obtain ⟨hs, y, hy, hh⟩ := h
  have hlt : ∀ k p, y k = some p → k < w.heap.size := by
    intro k p hp
    have h2 := hh k p hp
    rcases Nat.lt_or_ge k w.heap.size with h' | h'
    · exact h'
    · simp [Array.getElem?_eq_none h'] at h2
  refine ⟨ho.trans hs, _, ⟨_, y, rfl, hy, ?_, rfl⟩, ?_⟩
  · intro k
    by_cases e : k = b
    · right
      cases hyk : y k with
      | none => rfl
      | some p => have := hlt k p hyk; omega
    · left; simp [e]
  · intro k p hp
    by_cases e : k = b
    · subst e; simp [Hl.un] at hp; rw [hb, hp]
    · have h1 : y k = some p := by simpa [Hl.un, e] using hp
      rw [hk k (hlt k p h1)]; exact hh k p h1

theorem Sat.alloc {s : Out} {w : World} {R : Hp} (h : Sat s w R) (o : Obj) : Sat s (w.alloc o) (pts w.heap.size o * R) :=
  h.new1 rfl (Nat.le_refl _) (by show (w.heap.push o)[w.heap.size]? = some o; simp) fun k hk => Below.heap_alloc _ _ _ hk

theorem Sat.setCell {s : Out} {w : World} {b off : Nat} {c : Array Value} {e : TypeId} {f : Nat × Nat} {R : Hp} (h : Sat s w (pts b (.cells c e f) * R)) (v : Value) :
    Sat s (w.setCell ⟨b, off, none⟩ v) (pts b (.cells (c.setIfInBounds off v) e f) * R) :=
  h.turn1 rfl (by have := h.get; simp [World.setCell, Array.getElem?_modify, this]) fun k _ hk => Below.heap_setCell _ _ _ _ (by simpa using hk)

theorem Sat.setObj {s : Out} {w : World} {b : Nat} {o : Obj} {R : Hp} (h : Sat s w (pts b o * R)) (o' : Obj) :
    Sat s { w with heap := w.heap.setIfInBounds b o' } (pts b o' * R) :=
  h.turn1 rfl (by
    have h1 := h.get
    have hlt : b < w.heap.size := by
      rcases Nat.lt_or_ge b w.heap.size with h' | h'
      · exact h'
      · simp [Array.getElem?_eq_none h'] at h1
    simp [hlt]) fun k _ hk => by simp [Array.getElem?_setIfInBounds]; intro e; exact absurd e.symm hk

theorem Sat.cell {s : Out} {w : World} {b off : Nat} {c : Array Value} {e : TypeId} {f : Nat × Nat} {R : Hp} {v : Value} (h : Sat s w (pts b (.cells c e f) * R)) (hv : c[off]? = some v) :
    w.cell? ⟨b, off, none⟩ = some v := by
  have := h.get; simp [World.cell?, this, hv]

theorem Sat.free {s : Out} {w : World} {b off : Nat} {c : Array Value} {e : TypeId} {R : Hp} (h : Sat s w (pts b (.cells c e (0, 0)) * R)) :
    w.frozen? ⟨b, off, none⟩ = false := by
  have := h.get; simp [World.frozen?, this]

theorem Sat.lt {s : Out} {w : World} {b : Nat} {o : Obj} {R : Hp} (h : Sat s w (pts b o * R)) : b < w.heap.size := by
  have h1 := h.get
  rcases Nat.lt_or_ge b w.heap.size with h' | h'
  · exact h'
  · simp [Array.getElem?_eq_none h'] at h1

/-- All that was there when a call began. -/
def Old (W : World) : Hp := fun h => h = fun k => W.heap[k]?

theorem Sat.old (W : World) : Sat (out W) W (Old W) := ⟨rfl, _, rfl, fun _ _ h => h⟩

theorem Sat.old_below {W w : World} {R : Hp} (h : Sat (out W) w (Old W * R)) : Below W.heap.size W w := by
  obtain ⟨hs, _, rfl, hh⟩ := h.left
  have hb : ∀ k, k < W.heap.size → w.heap[k]? = W.heap[k]? := fun k hk => by
    have : W.heap[k]? = some W.heap[k] := by simp [hk]
    rw [this]; exact hh k _ this
  have hs' : w.os = W.os ∧ w.tape = W.tape ∧ w.output = W.output := by simpa [out] using hs
  refine ⟨hs'.1, hs'.2.1, hs'.2.2, ?_, hb⟩
  rcases Nat.eq_zero_or_pos W.heap.size with h0 | h0
  · omega
  · have h1 := hb (W.heap.size - 1) (by omega)
    have h2 : W.heap[W.heap.size - 1]? = some W.heap[W.heap.size - 1] := by simp
    rw [h2] at h1
    rcases Nat.lt_or_ge (W.heap.size - 1) w.heap.size with h' | h'
    · omega
    · simp [Array.getElem?_eq_none h'] at h1

theorem Sat.old_only {W w : World} (h : Sat (out W) w (Old W)) : Below W.heap.size W w := by
  rw [← mul_emp (Old W)] at h
  exact h.old_below

/-- New memory that has a property; all that was there is as it was. -/
def Fresh (W w : World) (A : Hp) : Prop := Sat (out W) w (A * Old W)

theorem Fresh.below {W w : World} {A : Hp} (h : Fresh W w A) : Below W.heap.size W w := by
  unfold Fresh at h
  rw [mul_comm] at h
  exact Sat.old_below h

theorem Sat.fresh {s : Out} {W w : World} {A R : Hp} (h : Sat s W R) (hf : Fresh W w A) : Sat s w (A * R) := by
  obtain ⟨ho, x, hx, hh⟩ := h
  obtain ⟨ho2, _, ⟨a, b, ha, rfl, hd, rfl⟩, hh2⟩ := hf
  refine ⟨ho2.trans ho, _, ⟨a, x, ha, hx, fun k => ?_, rfl⟩, fun k p hp => ?_⟩
  · rcases hd k with h | h
    · exact .inl h
    · right
      cases hk : x k with
      | none => rfl
      | some p => have := hh k p hk; simp only [h] at this; cases this
  · simp only [Hl.un] at hp
    cases hk : a k with
    | some q => rw [hk] at hp; exact hh2 k p (by simp only [Hl.un, hk]; exact hp)
    | none =>
      rw [hk] at hp
      exact hh2 k p (by simp only [Hl.un, hk]; exact hh k p hp)

theorem Fresh.start (W : World) : Fresh W W emp := by unfold Fresh; rw [emp_mul]; exact Sat.old W

/-- A function's contract: what it asks of a part of memory, what it leaves there. -/
def Tr (P : Program) (f : FuncId) (args : Array Value) (A : Hp) (B : Value → Hp) : Prop :=
  ∀ s w R, Sat s w (A * R) → Calls P f args w fun e w' => ∃ v, e = .returned v ∧ Sat s w' (B v * R)

theorem Tr.mono {P : Program} {f : FuncId} {args : Array Value} {A : Hp} {B B' : Value → Hp} (h : Tr P f args A B) (hb : ∀ v s w R, Sat s w (B v * R) → Sat s w (B' v * R)) : Tr P f args A B' :=
  fun s w R hs => (h s w R hs).mono fun _ w' ⟨v, he, hv⟩ => ⟨v, he, hb v s w' R hv⟩

end Sep
#print axioms Sep.Sat.old_below
end Go.Proofs.YtnjgddckejpddaaGreatDoor
