/-
  Requests that are under way: set.
-/
import Derived.Test.YtnjgddckejpddaaGreatDoorTxnC
import Derived.Test.YtnjgddckejpddaaGreatDoorNames
namespace Go.Proofs.YtnjgddckejpddaaGreatDoor
open Go.RowKit Go.Proofs.YtnjgddckejpddaaGreatDoor.Sep

/-- Is a name there? -/
def hasB (l : List ByteArray) (x : ByteArray) : Bool := l.any fun y => decide (y = x)

/-- slices.Contains -/
def ContainsSpec : Prop := ∀ (W : World) (v : Value) (l : List ByteArray) (x : ByteArray), View 1 W v l.length (strs l) → l.length ≤ 1048576 →
  Calls Tryz.prog 52 #[v, .string x] W fun e w' => e = .returned (.bool (hasB l x)) ∧ w' = W

theorem elemBytes_Write : (Tryz.prog.info? 73).map (fun i => (i.zero, i.size, i.bytes)) = some (some (.agg #[.string ⟨#[]⟩, .string ⟨#[]⟩, .bool false]), 3, 40) := by kernel_rfl

theorem elem_Write : ∃ i z, Elem Tryz.prog 89 73 3 i z ∧ i.bytes = 40 := by
  have h := elemBytes_Write
  cases hi : Tryz.prog.info? 73 with
  | none => rw [hi] at h; cases h
  | some i =>
    rw [hi] at h
    simp only [Option.map_some, Option.some.injEq, Prod.mk.injEq] at h
    exact ⟨i, _, ⟨Tryz.underlying89, hi, h.1, h.2.1, rfl, by decide⟩, h.2.2⟩

/-- What a set writes, or why it does not. -/
def SetOk (names : List ByteArray) (name all off value : ByteArray) (most : Int) (ws : List Wr) (e : Int) : Prop :=
  if hasB names name = true then ws = [⟨off ++ name, value, false⟩] ∧ e = 0
  else if most ≤ names.length then ws = [] ∧ e = 10
  else ∃ l', WithOk names name l' ∧ ws = [⟨off ++ name, value, false⟩, ⟨all, join l', false⟩] ∧ e = 0

theorem fresh_write (w : World) (x : Wr) : Fresh w (w.alloc (.cells #[.string x.key, .string x.val, .bool x.gone] 73)) (Row 73 3 (.slice (some ⟨w.heap.size, 0, none⟩) 1 1) 1 (cellsOf Wr.cells [x])) := by
  refine Row.shut ((Sat.old w).alloc _) (Nat.le_refl _) (by decide) (by simp) ?_
  simp [cellsOf, Wr.cells]

/-- append(l, x), x a write in a block of its own. -/
theorem append_write {s : Out} {W : World} {v : Value} {n : Nat} {ws : List Wr} {R : Hp} (x : Wr) (hn : ws.length = n) (hn2 : n ≤ 1048576) (h : Sat s W (Row 73 3 v n (cellsOf Wr.cells ws) * R)) :
    ∃ v2 w2, (Builtin.append_ #[89, 89] 89 #[v, .slice (some ⟨W.heap.size, 0, none⟩) 1 1]).run Tryz.prog (W.alloc (.cells #[.string x.key, .string x.val, .bool x.gone] 73)) = .ok v2 w2 ∧
      Sat s w2 (Row 73 3 v2 (n + 1) (cellsOf Wr.cells (ws ++ [x])) * R) := by
  obtain ⟨i, z, E, hby⟩ := elem_Write
  have h6 := h.alloc (.cells #[.string x.key, .string x.val, .bool x.gone] 73)
  rw [show pts W.heap.size (.cells #[.string x.key, .string x.val, .bool x.gone] 73) * (Row 73 3 v n (cellsOf Wr.cells ws) * R) = Row 73 3 v n (cellsOf Wr.cells ws) * (pts W.heap.size (.cells #[.string x.key, .string x.val, .bool x.gone] 73) * R) by ac_rfl] at h6
  have hsrc : Src Tryz.prog 3 89 (.slice (some ⟨W.heap.size, 0, none⟩) 1 1) 1 (Wr.cells x) (W.alloc (.cells #[.string x.key, .string x.val, .bool x.gone] 73)) := by
    refine Src.ofSlice _ (e' := 73) Tryz.underlying89 _ 1 1 _ rfl (fun j u hu => ?_) (fun u hu => ?_)
    · rw [add_none, Nat.zero_add]
      exact h6.right.cell (by simpa [Wr.cells] using hu)
    · simp only [Wr.cells, List.mem_cons, List.not_mem_nil, or_false] at hu
      rcases hu with rfl | rfl | rfl <;> rfl
  obtain ⟨v2, w2, hrun, _, hsat⟩ := Row.append E h6 89 hsrc (by unfold maxLen; omega) (by rw [hby]; omega)
  refine ⟨v2, w2, hrun, ?_⟩
  rw [show Row 73 3 v2 (n + 1) (cellsOf Wr.cells ws ++ Wr.cells x) * (pts W.heap.size (.cells #[.string x.key, .string x.val, .bool x.gone] 73) * R) = pts W.heap.size (.cells #[.string x.key, .string x.val, .bool x.gone] 73) * (Row 73 3 v2 (n + 1) (cellsOf Wr.cells ws ++ Wr.cells x) * R) by ac_rfl] at hsat
  have h8 := hsat.right
  rw [cellsOf_append]
  simpa [cellsOf] using h8

set_option maxRecDepth 100000 in
set_option maxHeartbeats 1000000 in
theorem set_calls (HSp : SplitSpec) (HSo : SortSpec) (HCo : CompactSpec) (HCt : ContainsSpec) {s : Out} {w : World} {tb bs bb : Nat} {r : Req} {tries : Nat} {τ : TryS} {R : Hp} (all off value : ByteArray) (most : Int)
    (h : Sat s w (TxnTry tb bs bb r tries τ * R)) (hs : (τ.val all).1.size ≤ 900000) (hn : r.name.size ≤ 1048576) (ho : off.size ≤ 1048576)
    (hj : ∀ l', WithOk (parts (τ.val all).1) r.name l' → l'.length ≤ 1048576 ∧ (join l').size ≤ 1048576) :
    Calls Tryz.prog 57 #[.pointer (some ⟨tb, 0, none⟩), .string all, .string off, .string value, .int .i64 most] w fun e w' => ∃ v ws ec, e = .returned (.tuple #[v, .int .i64 ec]) ∧
      SetOk (parts (τ.val all).1) r.name all off value most ws ec ∧ Fresh w w' (Row 73 3 v ws.length (cellsOf Wr.cells ws)) := by
  have hf0 := fresh_write w ⟨off ++ r.name, value, false⟩
  have h1 := h.fresh hf0
  rw [show Row 73 3 (.slice (some ⟨w.heap.size, 0, none⟩) 1 1) 1 (cellsOf Wr.cells [⟨off ++ r.name, value, false⟩]) * (TxnTry tb bs bb r tries τ * R) = TxnTry tb bs bb r tries τ * (Row 73 3 (.slice (some ⟨w.heap.size, 0, none⟩) 1 1) 1 (cellsOf Wr.cells [⟨off ++ r.name, value, false⟩]) * R) by ac_rfl] at h1
  have HN := hid (names_calls HSp all h1 (by omega))
  obtain ⟨tv, gb, ges, gc, _, h2⟩ := TxnTry.open_ h
  have htb : tb < w.heap.size := h2.lt
  have c3 : w.cell? ⟨tb, 3, none⟩ = some (.string r.name) := h2.cell rfl
  have hpl : (parts (τ.val all).1).length ≤ 900001 := by
    rw [parts_length]; have := pieces_le (τ.val all).1; omega
  generalize hnm : parts (τ.val all).1 = nm at *
  clear h h1 h2 hs hnm
  have HF0 := hid hf0
  have c3x : (w.alloc (.cells #[.string (off ++ r.name), .string value, .bool false] 73)).cell? ⟨tb, 3, none⟩ = some (.string r.name) := (hf0.below.cell htb).trans c3
  have hlt1 : tb < (w.alloc (.cells #[.string (off ++ r.name), .string value, .bool false] 73)).heap.size := Nat.lt_of_lt_of_le htb hf0.below.size
  have HJ := hid hj
  have HPL := hid hpl
  clear hf0 hj hpl
  have HCA : Hid (∀ W v, View 1 W v nm.length (strs nm) → Calls Tryz.prog 52 #[v, .string r.name] W fun e w' => e = .returned (.bool (hasB nm r.name)) ∧ w' = W) :=
    fun W v h => HCt W v nm r.name h (by have := HPL.out; omega)
  have HWA : Hid (∀ W v, View 1 W v nm.length (strs nm) → Calls Tryz.prog 75 #[v, .string r.name] W fun e w' => ∃ v' l', e = .returned v' ∧ WithOk nm r.name l' ∧ Fresh W w' (Row 9 1 v' l'.length (strs l'))) :=
    fun W v h => with_calls HSo HCo nm r.name v W h (by have := HPL.out; omega)
  have HLA : Hid (∀ W v l', WithOk nm r.name l' → View 1 W v l'.length (strs l') → Calls Tryz.prog 74 #[.string all, v] W fun e w' => e = .returned (.agg #[.string all, .string (join l'), .bool false]) ∧ Below W.heap.size W w') :=
    fun W v l' ho h => list_calls all l' v W h (by have := (HJ.out l' ho).1; omega) (HJ.out l' ho).2
  have HAW : Hid (∀ W (l' : List ByteArray), Sat (out w) W (Row 73 3 (.slice (some ⟨w.heap.size, 0, none⟩) 1 1) 1 (cellsOf Wr.cells [⟨off ++ r.name, value, false⟩]) * Old w) →
      ∃ v2 w2, (Builtin.append_ #[89, 89] 89 #[.slice (some ⟨w.heap.size, 0, none⟩) 1 1, .slice (some ⟨W.heap.size, 0, none⟩) 1 1]).run Tryz.prog (W.alloc (.cells #[.string all, .string (join l'), .bool false] 73)) = .ok v2 w2 ∧
      Sat (out w) w2 (Row 73 3 v2 2 (cellsOf Wr.cells [⟨off ++ r.name, value, false⟩, ⟨all, join l', false⟩]) * Old w)) :=
    fun W l' h => append_write (n := 1) ⟨all, join l', false⟩ rfl (by omega) h
  unfold SetOk
  clear HCt HSo HCo HSp HJ
  have hcase : (hasB nm r.name = true) ∨ (hasB nm r.name = false ∧ most ≤ nm.length) ∨ (hasB nm r.name = false ∧ ¬ most ≤ nm.length) := by
    cases hasB nm r.name <;> simp <;> omega
  have HNL : Hid (nm.length ≤ 900001) := HPL
  have hnl := HNL.out
  rcases hcase with hh | ⟨hh, hm⟩ | ⟨hh, hm⟩
  all_goals
    simp only [hh] at HCA ⊢
    go_enter Tryz.func57, Tryz.ntmps57
    go_wp2_with (first
      | (go_at_call 53; (with_reducible refine HN.out.mono ?_); rintro e w2 ⟨v, rfl, hf⟩
         obtain ⟨_, _, a, cap, rfl, _, _⟩ := Row.len hf
         have hv := Row.view hf
         have c3' : w2.cell? ⟨tb, 3, none⟩ = some (.string r.name) := (hf.below.cell hlt1).trans c3x
         have HCtN := hid (HCA.out w2 _ hv)
         have HWN := hid (HWA.out w2 _ hv)
         have HS2 := hid (Sat.below HF0.out hf.below)
         clear hf hv)
      | (go_at_call 52; (with_reducible refine HCtN.out.mono ?_); rintro e w' ⟨rfl, hw⟩; subst hw)
      | (go_at_call 75; (with_reducible refine HWN.out.mono ?_); rintro e w3 ⟨v3, l', rfl, hwo, hf3⟩
         have HLN := hid (HLA.out w3 _ l' hwo (Row.view hf3))
         have HS3 := hid (HS2.out.below hf3.below)
         clear hf3)
      | (go_at_call 74; (with_reducible refine HLN.out.mono ?_); rintro e w4 ⟨rfl, hb4⟩
         obtain ⟨v2, w2', hrun, hsat⟩ := HAW.out w4 l' (HS3.out.below hb4)
         have HSat := hid hsat
         clear hsat hb4)
      | (at_builtin; refine wpList_append_run rfl rfl rfl rfl hrun ?_))
  · go_ret2
    exact ⟨_, [⟨off ++ r.name, value, false⟩], 0, rfl, by simp, HS2.out⟩
  · go_ret2
    exact ⟨_, [], 10, rfl, by simp, Row.shut_none _ _ _ (HS2.out.right)⟩
  · go_ret2
    exact ⟨_, _, 0, rfl, by simp; exact ⟨l', hwo, rfl⟩, HSat.out⟩

end Go.Proofs.YtnjgddckejpddaaGreatDoor
