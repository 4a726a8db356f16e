/-
  Names as a text: txn.Join, txn.Parts.
-/
import Derived.Test.YtnjgddckejpddaaGreatDoorLine
import Derived.Lib.SplitLaws
namespace Go.Proofs.YtnjgddckejpddaaGreatDoor
open Go.RowKit Go.Proofs.YtnjgddckejpddaaGreatDoor.Sep

/-- The pieces of a text between its newlines. -/
def pieces (s : ByteArray) : List ByteArray := Lib.splitB ⟨#[10]⟩ 0 (Lib.countB s ⟨#[10]⟩) s

theorem pieces_length (s : ByteArray) : (pieces s).length = Lib.countB s ⟨#[10]⟩ + 1 := Lib.splitB_all ⟨#[10]⟩ (by decide) 0 _ s rfl

theorem pieces_le (s : ByteArray) : (pieces s).length ≤ s.size + 1 := by
  rw [pieces_length]
  have := Lib.countB_le ⟨#[10]⟩ (by decide) s.size s (Nat.le_refl _)
  omega

/-- strings.Split(s, "\n") -/
def SplitSpec : Prop := ∀ (s : ByteArray) (W : World), s.size < 4294967281 →
  Calls Tryz.prog 29 #[.string s, .string ⟨#[10]⟩] W fun e w' => e = .returned (.slice (some ⟨W.heap.size, 0, none⟩) (pieces s).length (pieces s).length) ∧ w' = W.alloc (.cells ((pieces s).map Value.string).toArray 9)

/-- The words of a text. -/
def parts (s : ByteArray) : List ByteArray := (pieces s).dropLast

theorem parts_length (s : ByteArray) : (parts s).length = (pieces s).length - 1 := by simp [parts]

/-- Words as a text. -/
def join : List ByteArray → ByteArray
  | [] => ⟨#[]⟩
  | x :: l => x ++ ⟨#[10]⟩ ++ join l

abbrev strs (l : List ByteArray) : List Value := l.map Value.string

theorem one_strs (l : List ByteArray) : ∀ u ∈ strs l, u.oneCell' = true := by
  intro u hu
  obtain ⟨x, _, rfl⟩ := List.mem_map.1 hu
  rfl

set_option maxRecDepth 100000 in
set_option maxHeartbeats 400000 in
theorem Parts_calls (HSp : SplitSpec) (s : ByteArray) (w : World) (hs : s.size ≤ 1048576) :
    Calls Tryz.prog 17 #[.string s] w fun e w' => ∃ v, e = .returned v ∧ Fresh w w' (Row 9 1 v (parts s).length (strs (parts s))) := by
  have HS := hid (HSp s w (by omega))
  have hle := pieces_le s
  have hpos : 1 ≤ (pieces s).length := by rw [pieces_length]; omega
  have hpl := parts_length s
  have hrow : Fresh w (w.alloc (.cells ((pieces s).map Value.string).toArray 9)) (Row 9 1 (.slice (some ⟨w.heap.size, 0, none⟩) (pieces s).length (pieces s).length) (pieces s).length (strs (pieces s))) := by
    refine Row.shut ((Sat.old w).alloc _) (Nat.le_refl _) (by unfold maxLen; omega) (by simp) ?_
    simp [strs]
    exact List.take_of_length_le (by simp)
  have hview := (Row.view hrow).take ((pieces s).length - 1) (by omega)
  have htk : (strs (pieces s)).take (((pieces s).length - 1) * 1) = strs (parts s) := by
    rw [Nat.mul_one]; simp [strs, parts, List.dropLast_eq_take]
  rw [htk] at hview
  rw [hpl]
  have HC := hid (clone_string _ _ _ _ hview (one_strs _) (by omega))
  have HB := hid hrow.below
  clear hrow hview htk
  generalize hn : (pieces s).length = n at *
  generalize (pieces s).map Value.string = ps at *
  generalize strs (parts s) = qs at *
  clear hn hpl
  go_enter Tryz.func17, Tryz.ntmps17
  go_wp2_with (first
    | (go_at_call 29; (with_reducible refine HS.out.mono ?_); rintro e w' ⟨rfl, rfl⟩)
    | (go_at_call 30; (with_reducible refine HC.out.mono ?_); rintro e w' ⟨v, rfl, hf⟩))
  go_ret
  refine ⟨v, rfl, ?_⟩
  exact ((Sat.old w).below HB.out).fresh hf

theorem join_append : ∀ (l m : List ByteArray), join (l ++ m) = join l ++ join m
  | [], m => (ByteArray.empty_append (b := join m)).symm
  | x :: l, m => by rw [List.cons_append, join, join, join_append l m]; simp only [ByteArray.append_assoc]

theorem join_take (l : List ByteArray) (k : Nat) (x : ByteArray) (h : l[k]? = some x) : join (l.take (k + 1)) = join (l.take k) ++ (x ++ ⟨#[10]⟩) := by
  rw [List.take_add_one, h, join_append]
  simp [join]
  exact ByteArray.append_empty

theorem join_take_size (l : List ByteArray) (k : Nat) (x : ByteArray) (h : l[k]? = some x) : (join (l.take k)).size + (x.size + 1) ≤ (join l).size := by
  have h1 : l = l.take (k + 1) ++ l.drop (k + 1) := (List.take_append_drop _ _).symm
  have h2 := congrArg (fun m => (join m).size) h1
  simp only [join_append, join_take l k x h, ByteArray.size_append] at h2
  have h3 : (⟨#[10]⟩ : ByteArray).size = 1 := rfl
  omega

set_option maxRecDepth 100000 in
set_option maxHeartbeats 400000 in
theorem Join_calls (l : List ByteArray) (v : Value) (w : World) (hv : View 1 w v l.length (strs l)) (hl : l.length ≤ 1099511627776) (hsz : (join l).size ≤ 1048576) :
    Calls Tryz.prog 22 #[v] w fun e w' => e = .returned (.string (join l)) ∧ w = w' := by
  obtain ⟨_, a, c, rfl, hn, hc, hx, _⟩ := hv
  have HX : Hid (∀ k x, l[k]? = some x → ∃ ad, a = some ad ∧ w.cell? (ad.add k) = some (.string x)) := fun k x h => hx k _ (by simp [strs, h])
  have HJ := hid (join_take l)
  have HZ : Hid (∀ k x, l[k]? = some x → (join (l.take k)).size + (x.size + 1) ≤ 1048576) := fun k x h => Nat.le_trans (join_take_size l k x h) hsz
  have HE : Hid (join (l.take l.length) = join l) := by unfold Hid; rw [List.take_length]
  have H0 : Hid (join (l.take 0) = ⟨#[]⟩) := rfl
  have Hget : Hid (∀ k, k < l.length → ∃ x, l[k]? = some x) := fun k hk => ⟨l[k], by simp [hk]⟩
  clear hx
  generalize hL : l.length = n at *
  clear hL
  go_enter Tryz.func22, Tryz.ntmps22
  go_wp2
  go_loop [3, 8] (fun o i => ∃ k : Nat, k ≤ n ∧ o = .string (join (l.take k)) ∧ i = .int .i64 k) (fun _ i => n - (intOf i).toNat)
  case atStart => exact ⟨0, by omega, by rw [H0.out], rfl⟩
  case round =>
    obtain ⟨k, hk, rfl, rfl⟩ := hrel
    by_cases hlt : k < n
    · obtain ⟨x, hx⟩ := Hget.out k hlt
      obtain ⟨ad, rfl, hcell⟩ := HX.out k x hx
      have HJ2 := hid (HJ.out k x hx)
      have hz := HZ.out k x hx
      clear hx
      generalize hjk : join (l.take k) = jk at *
      clear hjk
      go_wp2
      go_round
      case rel => exact ⟨k + 1, by omega, by rw [HJ2.out], by go_num⟩
      case measure => simp [intOf]; omega
    · have hkn : k = n := by omega
      subst hkn
      have HE2 := HE
      generalize join (l.take k) = jk at *
      go_wp2
      go_ret
      exact ⟨congrArg (fun s => Ending.returned (.string s)) HE2.out, rfl⟩

end Go.Proofs.YtnjgddckejpddaaGreatDoor
