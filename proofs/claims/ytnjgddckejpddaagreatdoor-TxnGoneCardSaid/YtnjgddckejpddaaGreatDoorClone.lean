/-
  slices.Clone, at the element types that the program uses.
-/
import Derived.Test.YtnjgddckejpddaaGreatDoorStoreC
import Derived.Test.YtnjgddckejpddaaGreatDoorOps
namespace Go.Proofs.YtnjgddckejpddaaGreatDoor
open Go.RowKit Go.Proofs.YtnjgddckejpddaaGreatDoor.Sep

set_option maxRecDepth 100000 in
set_option maxHeartbeats 400000 in
theorem clone_nil_store_version (c : Nat) (w : World) :
    Calls Tryz.prog 61 #[.slice none 0 c] w fun e w' => e = .returned (.slice none 0 0) ∧ w = w' := by
  have he := fun w : World => Lib.run_eql_slice_nil (P := Tryz.prog) w 76 75 none 0 c 0 0 Tryz.underlying76
  go_enter Tryz.func61, Tryz.ntmps61
  go_wp2
  go_ret
  exact ⟨rfl, rfl⟩

set_option maxRecDepth 100000 in
set_option maxHeartbeats 400000 in
theorem clone_some_store_version (ad : Addr) (n c : Nat) (v' : Value) (w w' : World) 
   (hrun : (Builtin.append_ #[76, 76] 76 #[.slice (some ⟨w.heap.size, 0, none⟩) 0 0, .slice (some ad) n c]).run Tryz.prog (w.alloc (.cells #[] 75)) = .ok v' w') :
    Calls Tryz.prog 61 #[.slice (some ad) n c] w fun e w1 => e = .returned v' ∧ w' = w1 := by
  have he := fun w : World => Lib.run_eql_slice_nil (P := Tryz.prog) w 76 75 (some ad) n c 0 0 Tryz.underlying76
  go_enter Tryz.func61, Tryz.ntmps61
  go_wp2_with (at_builtin; refine wpList_append_run rfl rfl rfl rfl hrun ?_)
  go_ret
  exact ⟨rfl, rfl⟩

theorem elemBytes_store_version : (Tryz.prog.info? 75).map (fun i => (i.zero, i.size, i.bytes)) = some (some (.agg #[.string ⟨#[]⟩, .string ⟨#[]⟩, .bool false, .int .i64 0]), 4, 48) := by kernel_rfl

theorem elem_store_version : ∃ i z, Elem Tryz.prog 76 75 4 i z ∧ i.bytes = 48 := by
  have h := elemBytes_store_version
  cases hi : Tryz.prog.info? 75 with
  | none => rw [hi] at h; cases h
  | some i =>
    rw [hi] at h
    simp only [Option.map_some, Option.some.injEq, Prod.mk.injEq] at h
    exact ⟨i, _, ⟨Tryz.underlying76, hi, h.1, h.2.1, rfl, by decide⟩, h.2.2⟩

theorem clone_store_version (v : Value) (n : Nat) (xs : List Value) (w : World) (hv : View 4 w v n xs) (h1 : ∀ u ∈ xs, u.oneCell' = true) (hn : n ≤ 1099511627776) :
    Calls Tryz.prog 61 #[v] w fun e w' => ∃ v', e = .returned v' ∧ Fresh w w' (Row 75 4 v' n xs) := by
  obtain ⟨i, z, E, hby⟩ := elem_store_version
  have hv' := hv
  obtain ⟨hl, a, c, rfl, hnc, hc, hx, h0⟩ := hv
  cases a with
  | none =>
    obtain rfl := h0 rfl
    have : xs = [] := by simpa using hl
    subst this
    refine (clone_nil_store_version c w).mono ?_
    rintro e w' ⟨rfl, rfl⟩
    exact ⟨_, rfl, Row.shut_none _ _ _ (Sat.old w)⟩
  | some ad =>
    have hs0 : Sat (out w) (w.alloc (.cells #[] 75)) (Row 75 4 (.slice (some ⟨w.heap.size, 0, none⟩) 0 0) 0 [] * Old w) := by
      refine Row.shut_none _ _ _ ?_
      exact ((Sat.old w).alloc (.cells #[] 75)).right
    have hsrc : Src Tryz.prog 4 76 (.slice (some ad) n c) n xs (w.alloc (.cells #[] 75)) := by
      refine View.src (e' := 75) Tryz.underlying76 ⟨hl, some ad, c, rfl, hnc, hc, fun j u hu => ?_, fun h => by cases h⟩ h1
      obtain ⟨ad', he, hu'⟩ := hx j u hu
      refine ⟨ad', he, ?_⟩
      have hlt := World.block_lt_of_cell? _ _ hu'
      rw [World.cell?_alloc_lt _ _ _ hlt]; exact hu'
    obtain ⟨v', w', hrun, hsz, hsat⟩ := Row.append E hs0 76 hsrc (by unfold maxLen; omega) (by rw [hby]; omega)
    refine (clone_some_store_version ad n c v' w w' hrun).mono ?_
    rintro e w1 ⟨rfl, rfl⟩
    exact ⟨v', rfl, by unfold Fresh; simpa using hsat⟩

set_option maxRecDepth 100000 in
set_option maxHeartbeats 400000 in
theorem clone_nil_string (c : Nat) (w : World) :
    Calls Tryz.prog 30 #[.slice none 0 c] w fun e w' => e = .returned (.slice none 0 0) ∧ w = w' := by
  have he := fun w : World => Lib.run_eql_slice_nil (P := Tryz.prog) w 33 9 none 0 c 0 0 Tryz.underlying33
  go_enter Tryz.func30, Tryz.ntmps30
  go_wp2
  go_ret
  exact ⟨rfl, rfl⟩

set_option maxRecDepth 100000 in
set_option maxHeartbeats 400000 in
theorem clone_some_string (ad : Addr) (n c : Nat) (v' : Value) (w w' : World) 
   (hrun : (Builtin.append_ #[33, 33] 33 #[.slice (some ⟨w.heap.size, 0, none⟩) 0 0, .slice (some ad) n c]).run Tryz.prog (w.alloc (.cells #[] 9)) = .ok v' w') :
    Calls Tryz.prog 30 #[.slice (some ad) n c] w fun e w1 => e = .returned v' ∧ w' = w1 := by
  have he := fun w : World => Lib.run_eql_slice_nil (P := Tryz.prog) w 33 9 (some ad) n c 0 0 Tryz.underlying33
  go_enter Tryz.func30, Tryz.ntmps30
  go_wp2_with (at_builtin; refine wpList_append_run rfl rfl rfl rfl hrun ?_)
  go_ret
  exact ⟨rfl, rfl⟩

theorem elemBytes_string : (Tryz.prog.info? 9).map (fun i => (i.zero, i.size, i.bytes)) = some (some (.string ⟨#[]⟩), 1, 16) := by kernel_rfl

theorem elem_string : ∃ i z, Elem Tryz.prog 33 9 1 i z ∧ i.bytes = 16 := by
  have h := elemBytes_string
  cases hi : Tryz.prog.info? 9 with
  | none => rw [hi] at h; cases h
  | some i =>
    rw [hi] at h
    simp only [Option.map_some, Option.some.injEq, Prod.mk.injEq] at h
    exact ⟨i, _, ⟨Tryz.underlying33, hi, h.1, h.2.1, rfl, by decide⟩, h.2.2⟩

theorem clone_string (v : Value) (n : Nat) (xs : List Value) (w : World) (hv : View 1 w v n xs) (h1 : ∀ u ∈ xs, u.oneCell' = true) (hn : n ≤ 1099511627776) :
    Calls Tryz.prog 30 #[v] w fun e w' => ∃ v', e = .returned v' ∧ Fresh w w' (Row 9 1 v' n xs) := by
  obtain ⟨i, z, E, hby⟩ := elem_string
  have hv' := hv
  obtain ⟨hl, a, c, rfl, hnc, hc, hx, h0⟩ := hv
  cases a with
  | none =>
    obtain rfl := h0 rfl
    have : xs = [] := by simpa using hl
    subst this
    refine (clone_nil_string c w).mono ?_
    rintro e w' ⟨rfl, rfl⟩
    exact ⟨_, rfl, Row.shut_none _ _ _ (Sat.old w)⟩
  | some ad =>
    have hs0 : Sat (out w) (w.alloc (.cells #[] 9)) (Row 9 1 (.slice (some ⟨w.heap.size, 0, none⟩) 0 0) 0 [] * Old w) := by
      refine Row.shut_none _ _ _ ?_
      exact ((Sat.old w).alloc (.cells #[] 9)).right
    have hsrc : Src Tryz.prog 1 33 (.slice (some ad) n c) n xs (w.alloc (.cells #[] 9)) := by
      refine View.src (e' := 9) Tryz.underlying33 ⟨hl, some ad, c, rfl, hnc, hc, fun j u hu => ?_, fun h => by cases h⟩ h1
      obtain ⟨ad', he, hu'⟩ := hx j u hu
      refine ⟨ad', he, ?_⟩
      have hlt := World.block_lt_of_cell? _ _ hu'
      rw [World.cell?_alloc_lt _ _ _ hlt]; exact hu'
    obtain ⟨v', w', hrun, hsz, hsat⟩ := Row.append E hs0 33 hsrc (by unfold maxLen; omega) (by rw [hby]; omega)
    refine (clone_some_string ad n c v' w w' hrun).mono ?_
    rintro e w1 ⟨rfl, rfl⟩
    exact ⟨v', rfl, by unfold Fresh; simpa using hsat⟩

set_option maxRecDepth 100000 in
set_option maxHeartbeats 400000 in
theorem clone_nil_byte (c : Nat) (w : World) :
    Calls Tryz.prog 94 #[.slice none 0 c] w fun e w' => e = .returned (.slice none 0 0) ∧ w = w' := by
  have he := fun w : World => Lib.run_eql_slice_nil (P := Tryz.prog) w 37 5 none 0 c 0 0 Tryz.underlying37
  go_enter Tryz.func94, Tryz.ntmps94
  go_wp2
  go_ret
  exact ⟨rfl, rfl⟩

set_option maxRecDepth 100000 in
set_option maxHeartbeats 400000 in
theorem clone_some_byte (ad : Addr) (n c : Nat) (v' : Value) (w w' : World) 
   (hrun : (Builtin.append_ #[37, 37] 37 #[.slice (some ⟨w.heap.size, 0, none⟩) 0 0, .slice (some ad) n c]).run Tryz.prog (w.alloc (.cells #[] 5)) = .ok v' w') :
    Calls Tryz.prog 94 #[.slice (some ad) n c] w fun e w1 => e = .returned v' ∧ w' = w1 := by
  have he := fun w : World => Lib.run_eql_slice_nil (P := Tryz.prog) w 37 5 (some ad) n c 0 0 Tryz.underlying37
  go_enter Tryz.func94, Tryz.ntmps94
  go_wp2_with (at_builtin; refine wpList_append_run rfl rfl rfl rfl hrun ?_)
  go_ret
  exact ⟨rfl, rfl⟩

theorem elemBytes_byte : (Tryz.prog.info? 5).map (fun i => (i.zero, i.size, i.bytes)) = some (some (.int .u8 0), 1, 1) := by kernel_rfl

theorem elem_byte : ∃ i z, Elem Tryz.prog 37 5 1 i z ∧ i.bytes = 1 := by
  have h := elemBytes_byte
  cases hi : Tryz.prog.info? 5 with
  | none => rw [hi] at h; cases h
  | some i =>
    rw [hi] at h
    simp only [Option.map_some, Option.some.injEq, Prod.mk.injEq] at h
    exact ⟨i, _, ⟨Tryz.underlying37, hi, h.1, h.2.1, rfl, by decide⟩, h.2.2⟩

theorem clone_byte (v : Value) (n : Nat) (xs : List Value) (w : World) (hv : View 1 w v n xs) (h1 : ∀ u ∈ xs, u.oneCell' = true) (hn : n ≤ 1099511627776) :
    Calls Tryz.prog 94 #[v] w fun e w' => ∃ v', e = .returned v' ∧ Fresh w w' (Row 5 1 v' n xs) := by
  obtain ⟨i, z, E, hby⟩ := elem_byte
  have hv' := hv
  obtain ⟨hl, a, c, rfl, hnc, hc, hx, h0⟩ := hv
  cases a with
  | none =>
    obtain rfl := h0 rfl
    have : xs = [] := by simpa using hl
    subst this
    refine (clone_nil_byte c w).mono ?_
    rintro e w' ⟨rfl, rfl⟩
    exact ⟨_, rfl, Row.shut_none _ _ _ (Sat.old w)⟩
  | some ad =>
    have hs0 : Sat (out w) (w.alloc (.cells #[] 5)) (Row 5 1 (.slice (some ⟨w.heap.size, 0, none⟩) 0 0) 0 [] * Old w) := by
      refine Row.shut_none _ _ _ ?_
      exact ((Sat.old w).alloc (.cells #[] 5)).right
    have hsrc : Src Tryz.prog 1 37 (.slice (some ad) n c) n xs (w.alloc (.cells #[] 5)) := by
      refine View.src (e' := 5) Tryz.underlying37 ⟨hl, some ad, c, rfl, hnc, hc, fun j u hu => ?_, fun h => by cases h⟩ h1
      obtain ⟨ad', he, hu'⟩ := hx j u hu
      refine ⟨ad', he, ?_⟩
      have hlt := World.block_lt_of_cell? _ _ hu'
      rw [World.cell?_alloc_lt _ _ _ hlt]; exact hu'
    obtain ⟨v', w', hrun, hsz, hsat⟩ := Row.append E hs0 37 hsrc (by unfold maxLen; omega) (by rw [hby]; omega)
    refine (clone_some_byte ad n c v' w w' hrun).mono ?_
    rintro e w1 ⟨rfl, rfl⟩
    exact ⟨v', rfl, by unfold Fresh; simpa using hsat⟩

set_option maxRecDepth 100000 in
set_option maxHeartbeats 400000 in
theorem clone_nil_int (c : Nat) (w : World) :
    Calls Tryz.prog 112 #[.slice none 0 c] w fun e w' => e = .returned (.slice none 0 0) ∧ w = w' := by
  have he := fun w : World => Lib.run_eql_slice_nil (P := Tryz.prog) w 22 3 none 0 c 0 0 Tryz.underlying22
  go_enter Tryz.func112, Tryz.ntmps112
  go_wp2
  go_ret
  exact ⟨rfl, rfl⟩

set_option maxRecDepth 100000 in
set_option maxHeartbeats 400000 in
theorem clone_some_int (ad : Addr) (n c : Nat) (v' : Value) (w w' : World) 
   (hrun : (Builtin.append_ #[22, 22] 22 #[.slice (some ⟨w.heap.size, 0, none⟩) 0 0, .slice (some ad) n c]).run Tryz.prog (w.alloc (.cells #[] 3)) = .ok v' w') :
    Calls Tryz.prog 112 #[.slice (some ad) n c] w fun e w1 => e = .returned v' ∧ w' = w1 := by
  have he := fun w : World => Lib.run_eql_slice_nil (P := Tryz.prog) w 22 3 (some ad) n c 0 0 Tryz.underlying22
  go_enter Tryz.func112, Tryz.ntmps112
  go_wp2_with (at_builtin; refine wpList_append_run rfl rfl rfl rfl hrun ?_)
  go_ret
  exact ⟨rfl, rfl⟩

theorem elemBytes_int : (Tryz.prog.info? 3).map (fun i => (i.zero, i.size, i.bytes)) = some (some (.int .i64 0), 1, 8) := by kernel_rfl

theorem elem_int : ∃ i z, Elem Tryz.prog 22 3 1 i z ∧ i.bytes = 8 := by
  have h := elemBytes_int
  cases hi : Tryz.prog.info? 3 with
  | none => rw [hi] at h; cases h
  | some i =>
    rw [hi] at h
    simp only [Option.map_some, Option.some.injEq, Prod.mk.injEq] at h
    exact ⟨i, _, ⟨Tryz.underlying22, hi, h.1, h.2.1, rfl, by decide⟩, h.2.2⟩

theorem clone_int (v : Value) (n : Nat) (xs : List Value) (w : World) (hv : View 1 w v n xs) (h1 : ∀ u ∈ xs, u.oneCell' = true) (hn : n ≤ 1099511627776) :
    Calls Tryz.prog 112 #[v] w fun e w' => ∃ v', e = .returned v' ∧ Fresh w w' (Row 3 1 v' n xs) := by
  obtain ⟨i, z, E, hby⟩ := elem_int
  have hv' := hv
  obtain ⟨hl, a, c, rfl, hnc, hc, hx, h0⟩ := hv
  cases a with
  | none =>
    obtain rfl := h0 rfl
    have : xs = [] := by simpa using hl
    subst this
    refine (clone_nil_int c w).mono ?_
    rintro e w' ⟨rfl, rfl⟩
    exact ⟨_, rfl, Row.shut_none _ _ _ (Sat.old w)⟩
  | some ad =>
    have hs0 : Sat (out w) (w.alloc (.cells #[] 3)) (Row 3 1 (.slice (some ⟨w.heap.size, 0, none⟩) 0 0) 0 [] * Old w) := by
      refine Row.shut_none _ _ _ ?_
      exact ((Sat.old w).alloc (.cells #[] 3)).right
    have hsrc : Src Tryz.prog 1 22 (.slice (some ad) n c) n xs (w.alloc (.cells #[] 3)) := by
      refine View.src (e' := 3) Tryz.underlying22 ⟨hl, some ad, c, rfl, hnc, hc, fun j u hu => ?_, fun h => by cases h⟩ h1
      obtain ⟨ad', he, hu'⟩ := hx j u hu
      refine ⟨ad', he, ?_⟩
      have hlt := World.block_lt_of_cell? _ _ hu'
      rw [World.cell?_alloc_lt _ _ _ hlt]; exact hu'
    obtain ⟨v', w', hrun, hsz, hsat⟩ := Row.append E hs0 22 hsrc (by unfold maxLen; omega) (by rw [hby]; omega)
    refine (clone_some_int ad n c v' w w' hrun).mono ?_
    rintro e w1 ⟨rfl, rfl⟩
    exact ⟨v', rfl, by unfold Fresh; simpa using hsat⟩

set_option maxRecDepth 100000 in
set_option maxHeartbeats 400000 in
theorem clone_nil_api_Diag (c : Nat) (w : World) :
    Calls Tryz.prog 92 #[.slice none 0 c] w fun e w' => e = .returned (.slice none 0 0) ∧ w = w' := by
  have he := fun w : World => Lib.run_eql_slice_nil (P := Tryz.prog) w 38 153 none 0 c 0 0 Tryz.underlying38
  go_enter Tryz.func92, Tryz.ntmps92
  go_wp2
  go_ret
  exact ⟨rfl, rfl⟩

set_option maxRecDepth 100000 in
set_option maxHeartbeats 400000 in
theorem clone_some_api_Diag (ad : Addr) (n c : Nat) (v' : Value) (w w' : World) 
   (hrun : (Builtin.append_ #[38, 38] 38 #[.slice (some ⟨w.heap.size, 0, none⟩) 0 0, .slice (some ad) n c]).run Tryz.prog (w.alloc (.cells #[] 153)) = .ok v' w') :
    Calls Tryz.prog 92 #[.slice (some ad) n c] w fun e w1 => e = .returned v' ∧ w' = w1 := by
  have he := fun w : World => Lib.run_eql_slice_nil (P := Tryz.prog) w 38 153 (some ad) n c 0 0 Tryz.underlying38
  go_enter Tryz.func92, Tryz.ntmps92
  go_wp2_with (at_builtin; refine wpList_append_run rfl rfl rfl rfl hrun ?_)
  go_ret
  exact ⟨rfl, rfl⟩

theorem elemBytes_api_Diag : (Tryz.prog.info? 153).map (fun i => (i.zero, i.size, i.bytes)) = some (some (.agg #[.string ⟨#[]⟩, .int .i64 0, .int .i64 0]), 3, 32) := by kernel_rfl

theorem elem_api_Diag : ∃ i z, Elem Tryz.prog 38 153 3 i z ∧ i.bytes = 32 := by
  have h := elemBytes_api_Diag
  cases hi : Tryz.prog.info? 153 with
  | none => rw [hi] at h; cases h
  | some i =>
    rw [hi] at h
    simp only [Option.map_some, Option.some.injEq, Prod.mk.injEq] at h
    exact ⟨i, _, ⟨Tryz.underlying38, hi, h.1, h.2.1, rfl, by decide⟩, h.2.2⟩

theorem clone_api_Diag (v : Value) (n : Nat) (xs : List Value) (w : World) (hv : View 3 w v n xs) (h1 : ∀ u ∈ xs, u.oneCell' = true) (hn : n ≤ 1099511627776) :
    Calls Tryz.prog 92 #[v] w fun e w' => ∃ v', e = .returned v' ∧ Fresh w w' (Row 153 3 v' n xs) := by
  obtain ⟨i, z, E, hby⟩ := elem_api_Diag
  have hv' := hv
  obtain ⟨hl, a, c, rfl, hnc, hc, hx, h0⟩ := hv
  cases a with
  | none =>
    obtain rfl := h0 rfl
    have : xs = [] := by simpa using hl
    subst this
    refine (clone_nil_api_Diag c w).mono ?_
    rintro e w' ⟨rfl, rfl⟩
    exact ⟨_, rfl, Row.shut_none _ _ _ (Sat.old w)⟩
  | some ad =>
    have hs0 : Sat (out w) (w.alloc (.cells #[] 153)) (Row 153 3 (.slice (some ⟨w.heap.size, 0, none⟩) 0 0) 0 [] * Old w) := by
      refine Row.shut_none _ _ _ ?_
      exact ((Sat.old w).alloc (.cells #[] 153)).right
    have hsrc : Src Tryz.prog 3 38 (.slice (some ad) n c) n xs (w.alloc (.cells #[] 153)) := by
      refine View.src (e' := 153) Tryz.underlying38 ⟨hl, some ad, c, rfl, hnc, hc, fun j u hu => ?_, fun h => by cases h⟩ h1
      obtain ⟨ad', he, hu'⟩ := hx j u hu
      refine ⟨ad', he, ?_⟩
      have hlt := World.block_lt_of_cell? _ _ hu'
      rw [World.cell?_alloc_lt _ _ _ hlt]; exact hu'
    obtain ⟨v', w', hrun, hsz, hsat⟩ := Row.append E hs0 38 hsrc (by unfold maxLen; omega) (by rw [hby]; omega)
    refine (clone_some_api_Diag ad n c v' w w' hrun).mono ?_
    rintro e w1 ⟨rfl, rfl⟩
    exact ⟨v', rfl, by unfold Fresh; simpa using hsat⟩

end Go.Proofs.YtnjgddckejpddaaGreatDoor
