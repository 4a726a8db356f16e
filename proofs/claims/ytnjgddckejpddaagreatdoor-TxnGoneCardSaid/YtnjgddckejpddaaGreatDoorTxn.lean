/-
  Requests that are under way: their memory; names, first.
-/
import Derived.Test.YtnjgddckejpddaaGreatDoorText
import Derived.Test.YtnjgddckejpddaaGreatDoorWork
namespace Go.Proofs.YtnjgddckejpddaaGreatDoor
open Go.RowKit Go.Proofs.YtnjgddckejpddaaGreatDoor.Sep

/-- A try: its stamp, the keys that are to be read, what was read. -/
structure TryS where
  stamp : Nat
  todo : List ByteArray
  got : List (ByteArray × (ByteArray × Bool))

abbrev mv (x : ByteArray × Bool) : Value := .agg #[.string x.1, .bool x.2]

/-- A request's memory, laid open. -/
abbrev TxnO (tb bs bb : Nat) (r : Req) (tries : Nat) (trying over : Bool) (stamp : Int) (todo got : Value) : Hp :=
  pts tb (.cells #[.pointer (some ⟨bs, 0, none⟩), .pointer (some ⟨bb, 0, none⟩), .int .i64 r.kind, .string r.name, .string r.text, .int .i64 r.value, .int .i64 tries, .bool trying, .bool over, .int .i64 stamp, todo, got] 68 (0, 0))

/-- A request that tries. -/
def TxnTry (tb bs bb : Nat) (r : Req) (tries : Nat) (τ : TryS) : Hp := fun h => ∃ tv gb ges gc, Holds .string ges gc (amap mv τ.got) ∧
  (TxnO tb bs bb r tries true false τ.stamp tv (.map (some gb)) * (Row 9 1 tv τ.todo.length (strs τ.todo) * pts gb (.map ges gc))) h

/-- A request that does not try. -/
def TxnIdle (tb bs bb : Nat) (r : Req) (tries : Nat) (over : Bool) : Hp := fun h => ∃ stamp todo got, TxnO tb bs bb r tries false over stamp todo got h

theorem TxnTry.open_ {s : Out} {w : World} {tb bs bb : Nat} {r : Req} {tries : Nat} {τ : TryS} {R : Hp} (h : Sat s w (TxnTry tb bs bb r tries τ * R)) : ∃ tv gb ges gc, Holds .string ges gc (amap mv τ.got) ∧
    Sat s w (TxnO tb bs bb r tries true false τ.stamp tv (.map (some gb)) * (Row 9 1 tv τ.todo.length (strs τ.todo) * (pts gb (.map ges gc) * R))) := by
  obtain ⟨ho, x, ⟨a, b, ⟨tv, gb, ges, gc, h1, h4⟩, hb, hd, rfl⟩, hh⟩ := h
  refine ⟨tv, gb, ges, gc, h1, ?_⟩
  have : Sat s w (TxnO tb bs bb r tries true false τ.stamp tv (.map (some gb)) * (Row 9 1 tv τ.todo.length (strs τ.todo) * pts gb (.map ges gc)) * R) := ⟨ho, _, ⟨a, b, h4, hb, hd, rfl⟩, hh⟩
  simpa only [mul_assoc] using this

theorem TxnTry.shut {s : Out} {w : World} {tb bs bb : Nat} {r : Req} {tries : Nat} {τ : TryS} {R : Hp} {tv : Value} {gb : Nat} {ges : Array MapEntry} {gc : Nat} (h1 : Holds .string ges gc (amap mv τ.got))
    (h : Sat s w (TxnO tb bs bb r tries true false τ.stamp tv (.map (some gb)) * (Row 9 1 tv τ.todo.length (strs τ.todo) * (pts gb (.map ges gc) * R)))) : Sat s w (TxnTry tb bs bb r tries τ * R) := by
  have h2 : Sat s w (TxnO tb bs bb r tries true false τ.stamp tv (.map (some gb)) * (Row 9 1 tv τ.todo.length (strs τ.todo) * pts gb (.map ges gc)) * R) := by simpa only [mul_assoc] using h
  obtain ⟨ho, x, ⟨a, b, h4, hb, hd, rfl⟩, hh⟩ := h2
  exact ⟨ho, _, ⟨a, b, ⟨tv, gb, ges, gc, h1, h4⟩, hb, hd, rfl⟩, hh⟩

theorem TxnIdle.open_ {s : Out} {w : World} {tb bs bb : Nat} {r : Req} {tries : Nat} {over : Bool} {R : Hp} (h : Sat s w (TxnIdle tb bs bb r tries over * R)) : ∃ stamp todo got,
    Sat s w (TxnO tb bs bb r tries false over stamp todo got * R) := by
  obtain ⟨ho, x, ⟨a, b, ⟨st, td, gt, h4⟩, hb, hd, rfl⟩, hh⟩ := h
  exact ⟨st, td, gt, ho, _, ⟨a, b, h4, hb, hd, rfl⟩, hh⟩

theorem TxnIdle.shut {s : Out} {w : World} {tb bs bb : Nat} {r : Req} {tries : Nat} {over : Bool} {R : Hp} {stamp : Int} {todo got : Value}
    (h : Sat s w (TxnO tb bs bb r tries false over stamp todo got * R)) : Sat s w (TxnIdle tb bs bb r tries over * R) := by
  obtain ⟨ho, x, ⟨a, b, h4, hb, hd, rfl⟩, hh⟩ := h
  exact ⟨ho, _, ⟨a, b, ⟨stamp, todo, got, h4⟩, hb, hd, rfl⟩, hh⟩

/-- What was read at a key. -/
def TryS.val (τ : TryS) (k : ByteArray) : ByteArray × Bool := (aget k τ.got).getD (⟨#[]⟩, false)

namespace P
theorem iMaybe : (Tryz.prog.info? 87).map (fun i => i.zero) = some (some (.agg #[.string ⟨#[]⟩, .bool false])) := by kernel_rfl
end P

theorem field_maybe (x : ByteArray) (y : Bool) (W : World) : (Instr.field 87 (.agg #[.string x, .bool y]) 0).run Tryz.prog W = .ok (.string x) W := by kernel_rfl

/-- What a look-up of what was read gives. -/
theorem got_look {w : World} {gb : Nat} {ges : Array MapEntry} {gc : Nat} {τ : TryS} (hb : w.heap[gb]? = some (.map ges gc)) (h : Holds .string ges gc (amap mv τ.got)) (key : ByteArray) :
    (Instr.lookup 66 (.map (some gb)) (.string key) false).run Tryz.prog w = .ok (.agg #[.string (τ.val key).1, .bool (τ.val key).2]) w := by
  obtain ⟨i, hi, hz⟩ := zero_of P.iMaybe
  refine (lookup_run P.skeys (mt := 66) Tryz.underlying66 hi hz hb h key).trans ?_
  rw [aget_amap]
  unfold TryS.val
  cases aget key τ.got <;> rfl

set_option maxRecDepth 100000 in
set_option maxHeartbeats 400000 in
theorem names_calls (HSp : SplitSpec) {s : Out} {w : World} {tb bs bb : Nat} {r : Req} {tries : Nat} {τ : TryS} {R : Hp} (key : ByteArray) (h : Sat s w (TxnTry tb bs bb r tries τ * R)) (hs : (τ.val key).1.size ≤ 1048576) :
    Calls Tryz.prog 53 #[.pointer (some ⟨tb, 0, none⟩), .string key] w fun e w' => ∃ v, e = .returned v ∧ Fresh w w' (Row 9 1 v (parts (τ.val key).1).length (strs (parts (τ.val key).1))) := by
  obtain ⟨tv, gb, ges, gc, h1, h2⟩ := TxnTry.open_ h
  have c11 : w.cell? ⟨tb, 11, none⟩ = some (.map (some gb)) := h2.cell rfl
  have hl := got_look h2.right.right.get h1 key
  have HP := hid (Parts_calls HSp (τ.val key).1 w hs)
  clear h h1 h2 hs
  generalize hx : (τ.val key).1 = x at *
  generalize (τ.val key).2 = y at *
  clear hx
  have hf0 := field_maybe x y
  go_enter Tryz.func53, Tryz.ntmps53
  go_wp2_with (go_at_call 17; (with_reducible refine HP.out.mono ?_); rintro e w' ⟨v, rfl, hf⟩)
  go_ret
  exact ⟨v, rfl, hf⟩

/-- The keys that are read first. -/
def firstKeys (r : Req) : List ByteArray :=
  if r.kind = 4 then [⟨#[102]⟩ ++ r.name] else if r.kind = 5 ∨ r.kind = 6 then [⟨#[101]⟩] else if r.kind = 7 then [⟨#[100]⟩, ⟨#[101]⟩] else [⟨#[100]⟩]

theorem fresh_strs (w : World) (l : List ByteArray) (h : l.length ≤ 1099511627776) : Fresh w (w.alloc (.cells (strs l).toArray 9)) (Row 9 1 (.slice (some ⟨w.heap.size, 0, none⟩) l.length l.length) l.length (strs l)) := by
  refine Row.shut ((Sat.old w).alloc _) (Nat.le_refl _) (by unfold maxLen; omega) (by simp [strs]) ?_
  simp [strs]
  exact List.take_of_length_le (by simp)

set_option maxRecDepth 100000 in
set_option maxHeartbeats 400000 in
theorem first_calls {s : Out} {w : World} {tb bs bb : Nat} {r : Req} {tries : Nat} {trying over : Bool} {stamp : Int} {todo got : Value} {R : Hp} (h : Sat s w (TxnO tb bs bb r tries trying over stamp todo got * R)) (hs : r.name.size ≤ 1048576) :
    Calls Tryz.prog 39 #[.pointer (some ⟨tb, 0, none⟩)] w fun e w' => ∃ v, e = .returned v ∧ Fresh w w' (Row 9 1 v (firstKeys r).length (strs (firstKeys r))) := by
  have c2 : w.cell? ⟨tb, 2, none⟩ = some (.int .i64 r.kind) := h.cell rfl
  have c3 : w.cell? ⟨tb, 3, none⟩ = some (.string r.name) := h.cell rfl
  have HF := hid (fresh_strs w)
  obtain ⟨kind, name, text, value⟩ := r
  dsimp only at *
  clear h
  unfold firstKeys
  dsimp only
  rcases Decidable.em (kind = 4) with hk | h4
  · subst hk
    go_enter Tryz.func39, Tryz.ntmps39
    go_wp2
    go_ret
    exact ⟨_, rfl, HF.out [(⟨#[102]⟩ : ByteArray) ++ name] (by simp)⟩
  rcases Decidable.em (kind = 5) with hk | h5
  · subst hk
    go_enter Tryz.func39, Tryz.ntmps39
    go_wp2
    go_ret
    exact ⟨_, rfl, HF.out [⟨#[101]⟩] (by simp)⟩
  rcases Decidable.em (kind = 6) with hk | h6
  · subst hk
    go_enter Tryz.func39, Tryz.ntmps39
    go_wp2
    go_ret
    exact ⟨_, rfl, HF.out [⟨#[101]⟩] (by simp)⟩
  rcases Decidable.em (kind = 7) with hk | h7
  · subst hk
    go_enter Tryz.func39, Tryz.ntmps39
    go_wp2
    go_ret
    exact ⟨_, rfl, HF.out [⟨#[100]⟩, ⟨#[101]⟩] (by simp)⟩
  · simp only [h4, h5, h6, h7, or_self, if_false]
    go_enter Tryz.func39, Tryz.ntmps39
    go_wp2
    go_ret
    exact ⟨_, rfl, HF.out [⟨#[100]⟩] (by simp)⟩

end Go.Proofs.YtnjgddckejpddaaGreatDoor
