/-
  Words: line.digit, inner, front, Word.
-/
import Derived.Test.YtnjgddckejpddaaGreatDoorView
namespace Go.Proofs.YtnjgddckejpddaaGreatDoor
open Go.RowKit Go.Proofs.YtnjgddckejpddaaGreatDoor.Sep

def digitB (c : Nat) : Bool := decide (48 ≤ c) && decide (c ≤ 57)
def innerB (c : Nat) : Bool := decide (97 ≤ c) && decide (c ≤ 122) || decide (c = 95) || digitB c

set_option maxHeartbeats 400000 in
theorem digit_calls (c : Nat) (w : World) : Calls Tryz.prog 49 #[.int .u8 c] w fun e w' => e = .returned (.bool (digitB c)) ∧ w = w' := by
  unfold digitB
  by_cases h1 : 48 ≤ c <;> by_cases h2 : c ≤ 57
  all_goals
    go_enter Tryz.func49, Tryz.ntmps49
    go_wp2
    all_goals
      go_ret
      refine ⟨?_, rfl⟩
      simp [h1, h2] <;> omega

set_option maxHeartbeats 400000 in
theorem inner_calls (c : Nat) (w : World) : Calls Tryz.prog 51 #[.int .u8 c] w fun e w' => e = .returned (.bool (innerB c)) ∧ w = w' := by
  have HD := hid (digit_calls c w)
  unfold innerB
  by_cases h1 : 97 ≤ c <;> by_cases h2 : c ≤ 122 <;> by_cases h3 : c = 95
  all_goals
    go_enter Tryz.func51, Tryz.ntmps51
    go_wp2_with (go_at_call 49; (with_reducible refine HD.out.mono ?_); rintro e w' ⟨rfl, rfl⟩)
    all_goals
      go_ret
      refine ⟨?_, rfl⟩
      simp [h1, h2, h3] <;> omega

/-- A string's bytes. -/
def nats (s : ByteArray) : List Nat := s.data.toList.map (·.toNat)

theorem nats_length (s : ByteArray) : (nats s).length = s.size := by simp [nats]

/-- How many bytes of a kind a text begins with. -/
def frontN (p : Nat → Bool) (s : ByteArray) : Nat := ((nats s).takeWhile p).length

theorem takeWhile_step {p : Nat → Bool} : ∀ (l : List Nat) (k : Nat) (x : Nat), k ≤ (l.takeWhile p).length → l[k]? = some x → (p x = true → k + 1 ≤ (l.takeWhile p).length) ∧ (p x = false → (l.takeWhile p).length = k)
  | [], k, x, _, h => by simp at h
  | y :: l, 0, x, _, h => by
    simp at h; subst h
    rw [List.takeWhile_cons]
    constructor <;> intro h <;> simp [h]
  | y :: l, k + 1, x, hk, h => by
    simp at h
    rw [List.takeWhile_cons] at hk ⊢
    split at hk
    · rename_i hy
      simp only [List.length_cons] at hk
      obtain ⟨h1, h2⟩ := takeWhile_step (p := p) l k x (by omega) h
      rw [if_pos hy]
      simp only [List.length_cons]
      exact ⟨fun hx => by have := h1 hx; omega, fun hx => by have := h2 hx; omega⟩
    · simp at hk

theorem frontN_le (p : Nat → Bool) (s : ByteArray) : frontN p s ≤ s.size := by
  rw [← nats_length]; exact List.Sublist.length_le (List.takeWhile_sublist _)

theorem index_run {P : Program} {t : TypeId} (ht : P.underlying t = some .string) (s : ByteArray) (k x : Nat) (h : (nats s)[k]? = some x) (W : World) :
    (Instr.index t (.string s) (.int .i64 k)).run P W = .ok (.int .u8 x) W := by
  simp only [nats, List.getElem?_map, Option.map_eq_some_iff] at h
  obtain ⟨b, hb, rfl⟩ := h
  simp only [Array.getElem?_toList] at hb
  have hb' : s[k]? = some b := by
    obtain ⟨hk, he⟩ := Array.getElem?_eq_some_iff.1 hb
    have hk' : k < s.size := hk
    rw [getElem?_pos s k hk']
    exact congrArg some he
  simp [Instr.index, run_underlying ht, asIntOf, hb']

set_option maxRecDepth 100000 in
set_option maxHeartbeats 800000 in
theorem front_calls (p : Nat → Bool) (fid : FuncId) (hf : fid = 51 ∨ fid = 49) (s : ByteArray) (w : World) (hs : s.size ≤ 1099511627776) (hp : ∀ c : Nat, Calls Tryz.prog fid #[.int .u8 c] w fun e w' => e = .returned (.bool (p c)) ∧ w = w') :
    Calls Tryz.prog 50 #[.string s, .func (.func fid) #[] #[]] w fun e w' => e = .returned (.int .i64 (frontN p s)) ∧ w = w' := by
  have Hle := hid (frontN_le p s)
  have Hst := hid (takeWhile_step (p := p) (nats s))
  have Hix : Hid (∀ (k x : Nat), (nats s)[k]? = some x → ∀ W, (Instr.index 9 (.string s) (.int .i64 k)).run Tryz.prog W = .ok (.int .u8 x) W) := fun k x h W => index_run Tryz.underlying9 s k x h W
  have Hget : Hid (∀ k, k < s.size → ∃ x, (nats s)[k]? = some x) := fun k hk => ⟨(nats s)[k]'(by rw [nats_length]; exact hk), by simp⟩
  have HF : ((nats s).takeWhile p).length = frontN p s := rfl
  have HP := hid hp
  clear hp
  rw [HF] at Hst
  clear HF
  generalize frontN p s = fr at *
  rcases hf with rfl | rfl
  all_goals
    go_enter Tryz.func50, Tryz.ntmps50
    go_wp2
    go_loop [5] (fun i => ∃ k : Nat, k ≤ s.size ∧ k ≤ fr ∧ i = .int .i64 k) (fun i => s.size - (intOf i).toNat)
    case atStart => exact ⟨0, by omega, by omega, rfl⟩
    case round =>
      obtain ⟨k, hk, hk2, rfl⟩ := hrel
      by_cases hlt : k < s.size
      · obtain ⟨x, hx⟩ := Hget.out k hlt
        have hi := Hix.out k x hx
        obtain ⟨s1, s2⟩ := Hst.out k x hk2 hx
        have HC := hid (HP.out x)
        cases hpx : p x
        · have S2 := hid (s2 hpx)
          rw [hpx] at HC
          clear s1 s2 hx hk2 hpx
          go_wp2_with ((first | go_at_call 51 | go_at_call 49); (with_reducible refine HC.out.mono ?_); rintro e w' ⟨rfl, rfl⟩)
          go_ret
          exact ⟨ret_int (by rw [S2.out]), rfl⟩
        · have S1 := hid (s1 hpx)
          rw [hpx] at HC
          clear s1 s2 hx hk2 hpx
          go_wp2_with ((first | go_at_call 51 | go_at_call 49); (with_reducible refine HC.out.mono ?_); rintro e w' ⟨rfl, rfl⟩)
          go_round
          case rel => exact ⟨k + 1, by omega, S1.out, by go_num⟩
          case measure => simp [intOf]; omega
      · have hkn : k = s.size := by omega
        have S2 : Hid (fr = k) := by unfold Hid; have := Hle.out; omega
        clear hk2
        go_wp2
        go_ret
        exact ⟨ret_int (by rw [S2.out]; omega), rfl⟩

/-- A text without its first byte. -/
def tail1 (s : ByteArray) : ByteArray := s.extract 1 s.size

theorem nats_tail {s : ByteArray} {c : Nat} {r : List Nat} (h : nats s = c :: r) : nats (tail1 s) = r := by
  have h1 : (tail1 s).data.toList = s.data.toList.tail := by
    unfold tail1
    rw [ByteArray.data_extract, Array.toList_extract]
    have : s.size = s.data.toList.length := by simp
    rw [this]
    cases s.data.toList <;> simp [List.extract]
  unfold nats at h ⊢
  rw [h1, List.map_tail, h, List.tail_cons]

theorem slice1_run {P : Program} {t : TypeId} (ht : P.underlying t = some .string) (s : ByteArray) (h : 1 ≤ s.size) (W : World) :
    (Instr.slice t (.string s) (some (.int .i64 1)) none none).run P W = .ok (.string (tail1 s)) W := by
  have h2 : (1 : Int) ≤ s.size := by omega
  simp [Instr.slice, run_underlying ht, Instr.sliceBounds, Instr.sliceBound, asIntOf, h2, tail1]

theorem str_empty {s : ByteArray} (h : s.size ≠ 0) : s.toList.isEmpty = false := by
  rw [← Go.decide_eq_emptyBytes s]
  exact decide_eq_false fun e => h (congrArg ByteArray.size e)

theorem str_nil {s : ByteArray} (h : s.size = 0) : s = ⟨#[]⟩ := by
  obtain ⟨a⟩ := s
  have : a.size = 0 := h
  simp_all

theorem str_eq (a b : ByteArray) : (a.toList == b.toList) = decide (a = b) := by
  rw [ByteArray.toList_eq, ByteArray.toList_eq]
  by_cases h : a = b
  · simp [h]
  · rw [decide_eq_false h]
    exact beq_eq_false_iff_ne.2 fun e => h (Go.WideShapes.bytes_inj e)

/-- a == b of texts -/
theorem eql_string_run {P : Program} {t : TypeId} (_ht : P.underlying t = some .string) (a b : ByteArray) (W : World) : (binOp .eql t (.string a) (.string b)).run P W = .ok (.bool (decide (a = b))) W := by
  rw [← str_eq]
  simp [go_sem]

/-- May a text be a word? -/
def wordB (s : ByteArray) : Bool :=
  match nats s with
  | [] => false
  | c :: r => decide (s.size ≤ 12) && !digitB c && decide (frontN innerB s = s.size) && (decide (c ≠ 114) || decide (r.length = 0) || decide (frontN digitB (tail1 s) ≠ r.length))

set_option maxRecDepth 100000 in
set_option maxHeartbeats 800000 in
theorem word_calls (s : ByteArray) (w : World) (hs : s.size ≤ 1099511627776) :
    Calls Tryz.prog 35 #[.string s] w fun e w' => e = .returned (.bool (wordB s)) ∧ w = w' := by
  unfold wordB
  cases hn : nats s with
  | nil =>
    have h0 : s = ⟨#[]⟩ := by
      have : s.data = #[] := by simpa [nats] using hn
      cases s; simp_all
    subst h0
    dsimp only
    go_enter Tryz.func35, Tryz.ntmps35
    go_wp2
    go_ret
    exact ⟨rfl, rfl⟩
  | cons c r =>
    dsimp only
    have hlen : s.size = r.length + 1 := by rw [← nats_length, hn]; rfl
    have htl := nats_tail hn
    have hi : ∀ W, (Instr.index 9 (.string s) (.int .i64 0)).run Tryz.prog W = .ok (.int .u8 c) W := fun W => index_run Tryz.underlying9 s 0 c (by rw [hn]; rfl) W
    have hsl := slice1_run Tryz.underlying9 s (by omega)
    have htz : (tail1 s).size = r.length := by rw [← nats_length, htl]
    have hne2 := str_empty (s := s) (by omega)
    have hle := frontN_le innerB s
    have hle2 := frontN_le digitB (tail1 s)
    have HD := hid (digit_calls c w)
    have HF := hid (front_calls innerB 51 (.inl rfl) s w hs (fun c => inner_calls c w))
    have HG := hid (front_calls digitB 49 (.inr rfl) (tail1 s) w (by omega) (fun c => digit_calls c w))
    clear hn htl
    generalize tail1 s = s2 at *
    generalize r.length = n at *
    generalize frontN innerB s = fi at *
    generalize frontN digitB s2 = fd at *
    cases hd : digitB c
    all_goals rw [hd] at HD
    all_goals
      go_enter Tryz.func35, Tryz.ntmps35
      go_wp2_with (first
        | (go_at_call 49; (with_reducible refine HD.out.mono ?_); rintro e w' ⟨rfl, rfl⟩)
        | (go_at_call 50; (with_reducible refine HF.out.mono ?_); rintro e w' ⟨rfl, rfl⟩)
        | (go_at_call 50; (with_reducible refine HG.out.mono ?_); rintro e w' ⟨rfl, rfl⟩))
      all_goals
        go_ret
        refine ⟨?_, rfl⟩
        first | (simp; done) | (simp; omega) | (simp [*]; done) | (simp [*]; omega) | (clear HF HG HD hi hsl hd; simp_all; done) | (clear HF HG HD hi hsl hd; simp_all; omega) | (clear HF HG HD hi hsl hd; refine congrArg (fun b => Ending.returned (.bool b)) ?_; rw [Bool.eq_iff_iff]; simp_all; omega)

end Go.Proofs.YtnjgddckejpddaaGreatDoor
