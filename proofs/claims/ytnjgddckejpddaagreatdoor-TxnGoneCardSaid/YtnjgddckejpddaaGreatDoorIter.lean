/-
  A range over a map: what its next step may give.
-/
import Derived.Test.YtnjgddckejpddaaGreatDoorMap
namespace Go.Proofs.YtnjgddckejpddaaGreatDoor
open Go.RowKit
namespace Sep

/-- How far a range over a map has come: what was met, what is left. -/
structure Ranging {K : Type} (enc : K → Value) (es : Array MapEntry) (c : Nat) (l : List (K × Value)) (seen : Array Nat) (left : List MapEntry) : Prop where
  holds : Holds enc es c l
  part : ∃ done : List MapEntry, seen.toList = done.map (·.born) ∧ es.toList.Perm (done ++ left)

theorem Ranging.start {K : Type} {enc : K → Value} {es : Array MapEntry} {c : Nat} {l : List (K × Value)} (h : Holds enc es c l) : Ranging enc es c l #[] es.toList :=
  ⟨h, [], rfl, .refl _⟩

theorem Ranging.mem {K : Type} {enc : K → Value} {es : Array MapEntry} {c : Nat} {l : List (K × Value)} {seen : Array Nat} {left : List MapEntry} (h : Ranging enc es c l seen left) {e : MapEntry} (he : e ∈ left) :
    e ∈ es.toList ∧ ∃ p ∈ l, e.key = enc p.1 ∧ e.val = p.2 := by
  obtain ⟨hh, done, hs, hp⟩ := h
  have hm : e ∈ es.toList := hp.mem_iff.2 (List.mem_append.2 (.inr he))
  refine ⟨hm, ?_⟩
  have : (e.key, e.val) ∈ es.toList.map (fun e => (e.key, e.val)) := List.mem_map_of_mem (f := fun e : MapEntry => (e.key, e.val)) hm
  rw [hh.kv] at this
  obtain ⟨p, hp1, hp2⟩ := List.mem_map.1 this
  simp only [Prod.mk.injEq] at hp2
  exact ⟨p, hp1, hp2.1.symm, hp2.2.symm⟩

theorem Ranging.nodup {K : Type} {enc : K → Value} {es : Array MapEntry} {c : Nat} {l : List (K × Value)} {seen : Array Nat} {left : List MapEntry} (h : Ranging enc es c l seen left) : (es.toList.map (·.born)).Nodup :=
  h.holds.born.imp (fun h => Nat.ne_of_lt h)

/-- The entries that were not met yet are those that are left. -/
theorem Ranging.filter {K : Type} {enc : K → Value} {es : Array MapEntry} {c : Nat} {l : List (K × Value)} {seen : Array Nat} {left : List MapEntry} (h : Ranging enc es c l seen left) (e : MapEntry) :
    e ∈ es.filter (fun e => !seen.contains e.born) ↔ e ∈ left := by
  have hnd := h.nodup
  obtain ⟨hh, done, hs, hp⟩ := h
  have hnd2 : ((done ++ left).map (·.born)).Nodup := (hp.map _).nodup_iff.1 hnd
  rw [List.map_append, List.nodup_append] at hnd2
  have hc : ∀ b, seen.contains b = true ↔ b ∈ done.map (·.born) := fun b => by
    rw [← hs]; simp
  rw [← Array.mem_toList_iff, Array.toList_filter, List.mem_filter]
  constructor
  · rintro ⟨hm, hn⟩
    rcases List.mem_append.1 (hp.mem_iff.1 hm) with hd | hl
    · exact absurd ((hc e.born).2 (List.mem_map_of_mem hd)) (by simpa using hn)
    · exact hl
  · intro hl
    refine ⟨hp.mem_iff.2 (List.mem_append.2 (.inr hl)), ?_⟩
    have : ¬ seen.contains e.born = true := fun hx => hnd2.2.2 _ ((hc _).1 hx) _ (List.mem_map_of_mem hl) rfl
    simpa using this

theorem run_getObj_iter {P : Program} {w : World} {b : Nat} {m : Option Nat} {c : Nat} {seen : Array Nat} {st : Nat} (h : w.heap[b]? = some (.mapIter m c seen st)) : (getObj b).run P w = .ok (.mapIter m c seen st) w := by
  simp only [getObj, Sem.run, h]

theorem run_setObj_iter {P : Program} {w : World} {b : Nat} {m : Option Nat} {c : Nat} {seen : Array Nat} {st : Nat} (h : w.heap[b]? = some (.mapIter m c seen st)) (o : Obj) :
    (setObj b o).run P w = .ok () { w with heap := w.heap.setIfInBounds b o } := by
  simp only [setObj, Sem.run, h]

theorem next_cases {P : Program} {K : Type} {enc : K → Value} {es : Array MapEntry} {c : Nat} {l : List (K × Value)} {seen : Array Nat} {left : List MapEntry} (h : Ranging enc es c l seen left)
    {s : Out} {w : World} {it b : Nat} {R : Hp} (hs : Sat s w (pts it (.mapIter (some b) c seen c) * (pts b (.map es c) * R))) (ty : TypeId) :
    (left = [] ∧ ∃ n, (Instr.next (.pointer (some ⟨it, 0, none⟩)) false ty).run P w = .ok (.tuple #[.bool false]) (w.drewN n)) ∨
    ∃ e left' w', left.Perm (e :: left') ∧ Ranging enc es c l (seen.push e.born) left' ∧
      (Instr.next (.pointer (some ⟨it, 0, none⟩)) false ty).run P w = .ok (.tuple #[.bool true, e.key, e.val]) w' ∧
      Sat s w' (pts it (.mapIter (some b) c (seen.push e.born) c) * (pts b (.map es c) * R)) ∧ w'.heap.size = w.heap.size ∧ (∀ B, B ≤ it → Below B w w') ∧
      (Instr.entry (.pointer (some ⟨it, 0, none⟩))).run P w' = .ok (.tuple #[e.key, e.val]) w' := by
  have hit := hs.get
  have hmap : w.heap[b]? = some (.map es c) := by
    have h2 := hs
    rw [show pts it (.mapIter (some b) c seen c) * (pts b (.map es c) * R) = pts b (.map es c) * (pts it (.mapIter (some b) c seen c) * R) by ac_rfl] at h2
    exact h2.get
  have hfil := h.filter
  generalize hl0 : es.filter (fun e => !seen.contains e.born) = l0 at hfil
  have hlt : ∀ e ∈ l0, e.born < c := fun e he => h.holds.clk e (h.mem ((hfil e).1 he)).1
  have hold : l0.filter (fun e => decide (e.born < c)) = l0 := by
    rw [Array.filter_eq_self]; intro e he; simpa using hlt e he
  have hnew : l0.filter (fun e => decide (c ≤ e.born)) = #[] := by
    rw [Array.filter_eq_empty_iff]; intro e he; have := hlt e he; simp; omega
  have hchk : (!seen.isEmpty && !es.isEmpty && es.all fun e => decide (c ≤ e.born)) = false := by
    cases hem : es.isEmpty with
    | true => simp
    | false =>
      have : ¬ (es.all fun e => decide (c ≤ e.born)) = true := by
        intro hall
        obtain ⟨e, he⟩ : ∃ e, e ∈ es.toList := by
          cases hx : es.toList with
          | nil => simp [← Array.toList_eq_nil_iff, hx] at hem
          | cons e _ => exact ⟨e, by simp⟩
        have h1 := h.holds.clk e he
        rw [Array.all_eq_true'] at hall
        have := hall e (by simpa using he)
        simp at this; omega
      simp only [Bool.not_eq_true] at this
      simp [this]
  by_cases hemp : l0 = #[]
  · left
    refine ⟨?_, 0, ?_⟩
    · cases hl : left with
      | nil => rfl
      | cons e t => exact absurd ((hfil e).2 (by rw [hl]; simp)) (by rw [hemp]; simp)
    · subst hemp
      simp only [Instr.next, Sem.run_bind, run_getObj_iter hit, Result.andThen_ok, run_getObj_map hmap, hl0, ge_iff_le, hchk, Bool.false_eq_true, if_false]
      simp [Question.forced]
      rfl
  · right
    have hne : l0.isEmpty = false := by simpa using hemp
    have hsz : 0 < l0.size := Array.size_pos_iff.2 hemp
    -- which one is picked
    have key : ∀ (j : Nat) (hj : j < l0.size) (w1 : World), (w1 = w ∨ w1 = w.drew) →
        ∃ left' w', left.Perm (l0[j] :: left') ∧ Ranging enc es c l (seen.push l0[j].born) left' ∧ w' = { w1 with heap := w.heap.setIfInBounds it (.mapIter (some b) c (seen.push l0[j].born) c) } ∧
          Sat s w' (pts it (.mapIter (some b) c (seen.push l0[j].born) c) * (pts b (.map es c) * R)) ∧ w'.heap.size = w.heap.size ∧ (∀ B, B ≤ it → Below B w w') ∧
          (Instr.entry (.pointer (some ⟨it, 0, none⟩))).run P w' = .ok (.tuple #[l0[j].key, l0[j].val]) w' := by
      intro j hj w1 hw1
      have hmem : l0[j] ∈ left := (hfil _).1 (Array.getElem_mem hj)
      generalize l0[j] = e at hmem ⊢
      obtain ⟨a1, a2, ha⟩ := List.append_of_mem hmem
      have hperm : left.Perm (e :: (a1 ++ a2)) := by rw [ha]; exact List.perm_middle
      have hs' : Sat s { w1 with heap := w.heap.setIfInBounds it (.mapIter (some b) c (seen.push e.born) c) } (pts it (.mapIter (some b) c (seen.push e.born) c) * (pts b (.map es c) * R)) := by
        have h3 := hs.setObj (.mapIter (some b) c (seen.push e.born) c)
        exact h3.turn (by rcases hw1 with rfl | rfl <;> rfl) (fun k hk => rfl)
      refine ⟨a1 ++ a2, _, hperm, ⟨h.holds, ?_⟩, rfl, hs', by simp, ?_, ?_⟩
      · obtain ⟨done, hd1, hd2⟩ := h.part
        refine ⟨done ++ [e], by simp [hd1], hd2.trans ?_⟩
        rw [List.append_assoc]
        exact List.Perm.append_left _ hperm
      · intro B hB
        have h1 : ∀ k, k < B → (w.heap.setIfInBounds it (.mapIter (some b) c (seen.push e.born) c))[k]? = w.heap[k]? := fun k hk => by
          rw [Array.getElem?_setIfInBounds, if_neg (by omega)]
        rcases hw1 with rfl | rfl <;> exact ⟨rfl, rfl, rfl, by simp, h1⟩
      · have hb1 : Sat s { w1 with heap := w.heap.setIfInBounds it (.mapIter (some b) c (seen.push e.born) c) } (pts b (.map es c) * (pts it (.mapIter (some b) c (seen.push e.born) c) * R)) := by
          have h3 := hs'
          rwa [show pts it (.mapIter (some b) c (seen.push e.born) c) * (pts b (.map es c) * R) = pts b (.map es c) * (pts it (.mapIter (some b) c (seen.push e.born) c) * R) by ac_rfl] at h3
        have hfind : es.find? (fun x => x.born == e.born) = some e := by
          have hem : e ∈ es.toList := (h.mem hmem).1
          have hnd := h.nodup
          rw [← Array.find?_toList]
          clear hs hs' hb1 hit hmap hl0 hfil hchk hold hnew hlt hperm ha hmem h
          generalize es.toList = q at hem hnd
          induction q with
          | nil => cases hem
          | cons x q ih =>
            simp only [List.map_cons, List.nodup_cons] at hnd
            rw [List.find?_cons]
            rcases List.mem_cons.1 hem with rfl | hq
            · simp
            · have : (x.born == e.born) = false := by
                rw [beq_eq_false_iff_ne]; intro hx; exact hnd.1 (hx ▸ List.mem_map_of_mem hq)
              rw [this]; exact ih hq hnd.2
        simp only [Instr.entry, Sem.run_bind, run_getObj_iter hs'.get, Result.andThen_ok]
        simp [run_getObj_map hb1.get, hfind]
    have hcand : (if l0.isEmpty = true then #[none] else #[]) ++ Array.map some l0 = l0.map some := by simp [hne]
    have hrun : ∀ (j : Nat) (hj : j < l0.size) (w1 : World), (w1 = w ∨ w1 = w.drew) → (choose (.mapNext l0.size)).run P w = .ok j w1 →
        (Instr.next (.pointer (some ⟨it, 0, none⟩)) false ty).run P w = .ok (.tuple #[.bool true, l0[j].key, l0[j].val]) { w1 with heap := w.heap.setIfInBounds it (.mapIter (some b) c (seen.push l0[j].born) c) } := by
      intro j hj w1 hw1 hch
      have hit1 : w1.heap[it]? = some (.mapIter (some b) c seen c) := by rcases hw1 with rfl | rfl <;> exact hit
      have hheap : w1.heap = w.heap := by rcases hw1 with rfl | rfl <;> rfl
      simp only [Instr.next, Sem.run_bind, run_getObj_iter hit, Result.andThen_ok, run_getObj_map hmap, hl0, ge_iff_le, hchk, Bool.false_eq_true, if_false, hold, hnew, Array.append_empty, hcand, Array.size_map, hch]
      simp [hj, run_setObj_iter hit1, hheap]
    by_cases hf : (Question.mapNext l0.size).forced = true
    · have h1 : (choose (.mapNext l0.size)).run P w = .ok 0 w := by simp [hf]
      obtain ⟨left', w', k1, k2, k3, k4, k5, k6, k7⟩ := key 0 hsz w (.inl rfl)
      exact ⟨_, left', w', k1, k2, by rw [k3]; exact hrun 0 hsz w (.inl rfl) h1, k4, k5, k6, k7⟩
    · have hj : (Question.mapNext l0.size).cut (w.tape w.drawn (.mapNext l0.size)) < l0.size := Nat.mod_lt _ hsz
      have h1 : (choose (.mapNext l0.size)).run P w = .ok ((Question.mapNext l0.size).cut (w.tape w.drawn (.mapNext l0.size))) w.drew := by simp [hf]
      obtain ⟨left', w', k1, k2, k3, k4, k5, k6, k7⟩ := key _ hj w.drew (.inr rfl)
      exact ⟨_, left', w', k1, k2, by rw [k3]; exact hrun _ hj w.drew (.inr rfl) h1, k4, k5, k6, k7⟩

theorem range_run {P : Program} {mt kt et : TypeId} (hm : P.underlying mt = some (.map kt et)) {w : World} {b : Nat} {es : Array MapEntry} {c : Nat} (hb : w.heap[b]? = some (.map es c)) :
    (Instr.range mt (.map (some b))).run P w = .ok (.pointer (some ⟨w.heap.size, 0, none⟩)) (w.alloc (.mapIter (some b) c #[] c)) := by
  simp only [Instr.range, Sem.run_bind, run_underlying hm, Result.andThen_ok, run_getObj_map hb]
  simp

theorem _root_.Go.RowKit.Below.drewN' {B : Nat} {a w : World} (h : Below B a w) (n : Nat) : Below B a (w.drewN n) := ⟨h.os, h.tape, h.output, h.size, h.block⟩

/-- Two blocks that are known. -/
theorem Sat.two {w : World} {a b : Nat} {o p : Obj} (hne : a ≠ b) (ha : w.heap[a]? = some o) (hb : w.heap[b]? = some p) : Sat (out w) w (pts a o * (pts b p * emp)) := by
  rw [mul_emp]
  refine ⟨rfl, _, ⟨_, _, rfl, rfl, fun k => ?_, rfl⟩, fun k q hq => ?_⟩
  · by_cases e : k = a
    · right; simp [e, hne]
    · left; simp [e]
  · simp only [Hl.un] at hq
    by_cases e : k = a
    · subst e; simp at hq; rw [ha, hq]
    · simp only [e, if_false] at hq
      by_cases e2 : k = b
      · subst e2; simp at hq; rw [hb, hq]
      · simp [e2] at hq

end Sep
#print axioms Sep.next_cases
end Go.Proofs.YtnjgddckejpddaaGreatDoor
