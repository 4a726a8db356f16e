/-
  Maps as lists of pairs: look-up, store, delete, length, and a range over one.
-/
import Derived.Test.YtnjgddckejpddaaGreatDoorRow
namespace Go.Proofs.YtnjgddckejpddaaGreatDoor
open Go.RowKit
namespace Sep

/-- A kind of keys: strings, integers. -/
structure KeyKind (P : Program) (kt : TypeId) (K : Type) [DecidableEq K] where
  enc : K → Value
  desc : TypeDesc
  und : P.underlying kt = some desc
  same : ∀ a b, Instr.sameNow desc (enc a) (enc b) = some (decide (a = b))
  ck : ∀ e a (w : World), (Instr.checkKey e 10000 kt (enc a)).run P w = .ok () w
  sb : ∀ a, Instr.sameBits 10000 (enc a) (enc a) = true

theorem beq_dec (a b : ByteArray) : (a == b) = decide (a = b) := by
  have h : (a == b) = (a.data == b.data) := by
    cases a; cases b; rfl
  rw [h, Bool.eq_iff_iff]
  simp
  constructor
  · intro h; cases a; cases b; simp_all
  · intro h; rw [h]

theorem ck_str {P : Program} {kt : TypeId} (h : P.underlying kt = some .string) (n : Nat) (e : Bool) (a : ByteArray) (w : World) : (Instr.checkKey e (n + 1) kt (.string a)).run P w = .ok () w := by
  simp only [Instr.checkKey, Sem.run_bind, run_underlying h, Result.andThen_ok]; rfl

theorem ck_int {P : Program} {kt : TypeId} (h : P.underlying kt = some (.int .i64)) (n : Nat) (e : Bool) (a : Int) (w : World) : (Instr.checkKey e (n + 1) kt (.int .i64 a)).run P w = .ok () w := by
  simp only [Instr.checkKey, Sem.run_bind, run_underlying h, Result.andThen_ok]; rfl

def strKeys (P : Program) (kt : TypeId) (h : P.underlying kt = some .string) : KeyKind P kt ByteArray where
  enc := .string
  desc := .string
  und := h
  same a b := by simp only [Instr.sameNow, beq_dec]
  ck e a w := ck_str h 9999 e a w
  sb a := by simp [Instr.sameBits, beq_dec]

def intKeys (P : Program) (kt : TypeId) (h : P.underlying kt = some (.int .i64)) : KeyKind P kt Int where
  enc := .int .i64
  desc := .int .i64
  und := h
  same a b := by
    simp only [Instr.sameNow, if_true, Option.some.injEq]
    rw [Bool.eq_iff_iff]; simp
  ck e a w := ck_int h 9999 e a w
  sb a := by simp [Instr.sameBits]

section alist
variable {K V : Type} [DecidableEq K]

/-- The pair of a key: its place, its value. -/
def aidx (k : K) : List (K × V) → Nat → Option (Nat × V)
  | [], _ => none
  | (j, v) :: l, i => if k = j then some (i, v) else aidx k l (i + 1)

def aget (k : K) : List (K × V) → Option V
  | [] => none
  | (j, v) :: l => if k = j then some v else aget k l

def aset (k : K) (v : V) : List (K × V) → List (K × V)
  | [] => [(k, v)]
  | (j, u) :: l => if k = j then (j, v) :: l else (j, u) :: aset k v l

def adel (k : K) : List (K × V) → List (K × V)
  | [] => []
  | (j, u) :: l => if k = j then l else (j, u) :: adel k l

def amap {U : Type} (f : V → U) (l : List (K × V)) : List (K × U) := l.map fun p => (p.1, f p.2)

theorem aget_amap {U : Type} (f : V → U) (k : K) : ∀ l : List (K × V), aget k (amap f l) = (aget k l).map f
  | [] => rfl
  | (j, v) :: l => by
    have ih := aget_amap f k l
    simp only [amap, List.map_cons, aget] at ih ⊢
    split
    · rfl
    · exact ih

theorem aset_amap {U : Type} (f : V → U) (k : K) (v : V) : ∀ l : List (K × V), aset k (f v) (amap f l) = amap f (aset k v l)
  | [] => rfl
  | (j, u) :: l => by
    have ih := aset_amap f k v l
    simp only [amap, List.map_cons, aset] at ih ⊢
    split
    · rfl
    · simp only [List.map_cons, ih]

theorem adel_amap {U : Type} (f : V → U) (k : K) : ∀ l : List (K × V), adel k (amap f l) = amap f (adel k l)
  | [] => rfl
  | (j, u) :: l => by
    have ih := adel_amap f k l
    simp only [amap, List.map_cons, adel] at ih ⊢
    split
    · rfl
    · simp only [List.map_cons, ih]

theorem aidx_get (k : K) : ∀ (l : List (K × V)) (i : Nat), (aidx k l i).map (·.2) = aget k l
  | [], _ => rfl
  | (j, v) :: l, i => by
    unfold aidx aget
    split
    · rfl
    · exact aidx_get k l (i + 1)

theorem aidx_shift (k : K) : ∀ (l : List (K × V)) (i : Nat), aidx k l (i + 1) = (aidx k l i).map fun p => (p.1 + 1, p.2)
  | [], _ => rfl
  | (j, v) :: l, i => by
    unfold aidx
    split
    · rfl
    · exact aidx_shift k l (i + 1)

/-- All that a list's members say, one beside the other. -/
def bigstar {α : Type} (f : α → Hp) : List α → Hp
  | [] => emp
  | a :: l => f a * bigstar f l

theorem bigstar_append {α : Type} (f : α → Hp) : ∀ l m : List α, bigstar f (l ++ m) = bigstar f l * bigstar f m
  | [], m => by simp only [List.nil_append, bigstar, emp_mul]
  | a :: l, m => by simp only [List.cons_append, bigstar, bigstar_append f l m]; ac_rfl

theorem bigstar_get (f : K × V → Hp) (k : K) (v : V) : ∀ l : List (K × V), aget k l = some v → bigstar f l = f (k, v) * bigstar f (adel k l)
  | [], h => by simp [aget] at h
  | (j, u) :: l, h => by
    unfold aget at h
    unfold adel
    by_cases hk : k = j
    · subst hk
      simp only [if_true, Option.some.injEq] at h ⊢
      subst h; rfl
    · simp only [hk, if_false] at h ⊢
      simp only [bigstar, bigstar_get f k v l h]; ac_rfl

theorem bigstar_set (f : K × V → Hp) (k : K) (v : V) : ∀ l : List (K × V), bigstar f (aset k v l) = f (k, v) * bigstar f (adel k l)
  | [] => rfl
  | (j, u) :: l => by
    unfold aset adel
    by_cases hk : k = j
    · subst hk; simp only [if_true]; rfl
    · simp only [hk, if_false]
      simp only [bigstar, bigstar_set f k v l]; ac_rfl

theorem adel_of_none (k : K) : ∀ (l : List (K × V)), aget k l = none → adel k l = l
  | [], _ => rfl
  | (j, u) :: l, h => by
    unfold aget at h
    unfold adel
    by_cases hk : k = j
    · simp [hk] at h
    · simp only [hk, if_false] at h ⊢
      rw [adel_of_none k l h]

/-- Entries that hold just these pairs. -/
structure Holds {K : Type} (enc : K → Value) (es : Array MapEntry) (clock : Nat) (l : List (K × Value)) : Prop where
  kv : es.toList.map (fun e => (e.key, e.val)) = l.map fun p => (enc p.1, p.2)
  born : (es.toList.map (·.born)).Pairwise (· < ·)
  clk : ∀ e ∈ es.toList, e.born < clock

theorem kv_set {enc : K → Value} (k : K) (v : Value) : ∀ (es : List MapEntry) (l : List (K × Value)) (p : Nat × Value), es.map (fun e => (e.key, e.val)) = l.map (fun p => (enc p.1, p.2)) → aidx k l 0 = some p →
    (es.modify p.1 fun e => { e with key := enc k, val := v }).map (fun e => (e.key, e.val)) = (aset k v l).map fun p => (enc p.1, p.2)
  | _, [], _, _, hp => by simp [aidx] at hp
  | [], _ :: _, _, h, _ => by simp at h
  | e :: es, (j, u) :: l, p, h, hp => by
    simp only [List.map_cons, List.cons.injEq, Prod.mk.injEq] at h
    obtain ⟨⟨h1, h2⟩, h3⟩ := h
    unfold aidx at hp
    unfold aset
    by_cases hk : k = j
    · simp only [hk, if_true, Option.some.injEq] at hp ⊢
      subst hp
      simp [h3]
    · simp only [hk, if_false] at hp ⊢
      rw [aidx_shift] at hp
      cases hq : aidx k l 0 with
      | none => rw [hq] at hp; cases hp
      | some q =>
        rw [hq] at hp
        simp only [Option.map_some, Option.some.injEq] at hp
        subst hp
        have := kv_set k v es l q h3 hq
        simp only [List.modify_succ_cons, List.map_cons, this, h1, h2]

theorem kv_push {enc : K → Value} (k : K) (v : Value) (c : Nat) : ∀ (es : List MapEntry) (l : List (K × Value)), es.map (fun e => (e.key, e.val)) = l.map (fun p => (enc p.1, p.2)) → aidx k l 0 = none →
    (es ++ [{ key := enc k, val := v, born := c : MapEntry }]).map (fun e => (e.key, e.val)) = (aset k v l).map fun p => (enc p.1, p.2)
  | [], [], _, _ => by simp [aset]
  | [], _ :: _, h, _ => by simp at h
  | _ :: _, [], h, _ => by simp at h
  | e :: es, (j, u) :: l, h, hp => by
    simp only [List.map_cons, List.cons.injEq, Prod.mk.injEq] at h
    obtain ⟨⟨h1, h2⟩, h3⟩ := h
    unfold aidx at hp
    unfold aset
    by_cases hk : k = j
    · simp [hk] at hp
    · simp only [hk, if_false] at hp ⊢
      rw [aidx_shift] at hp
      have := kv_push k v c es l h3 (by simpa using hp)
      simp only [List.cons_append, List.map_cons, this, h1, h2]

theorem kv_del {enc : K → Value} (k : K) : ∀ (es : List MapEntry) (l : List (K × Value)) (p : Nat × Value), es.map (fun e => (e.key, e.val)) = l.map (fun p => (enc p.1, p.2)) → aidx k l 0 = some p →
    (es.eraseIdx p.1).map (fun e => (e.key, e.val)) = (adel k l).map fun p => (enc p.1, p.2)
  | _, [], _, _, hp => by simp [aidx] at hp
  | [], _ :: _, _, h, _ => by simp at h
  | e :: es, (j, u) :: l, p, h, hp => by
    simp only [List.map_cons, List.cons.injEq, Prod.mk.injEq] at h
    obtain ⟨⟨h1, h2⟩, h3⟩ := h
    unfold aidx at hp
    unfold adel
    by_cases hk : k = j
    · simp only [hk, if_true, Option.some.injEq] at hp ⊢
      subst hp
      simp [h3]
    · simp only [hk, if_false] at hp ⊢
      rw [aidx_shift] at hp
      cases hq : aidx k l 0 with
      | none => rw [hq] at hp; cases hp
      | some q =>
        rw [hq] at hp
        simp only [Option.map_some, Option.some.injEq] at hp
        subst hp
        have := kv_del k es l q h3 hq
        simp only [List.eraseIdx_cons_succ, List.map_cons, this, h1, h2]

theorem modify_born (f : MapEntry → MapEntry) (hf : ∀ e, (f e).born = e.born) : ∀ (es : List MapEntry) (i : Nat), (es.modify i f).map (·.born) = es.map (·.born)
  | [], i => by simp
  | e :: es, 0 => by simp [hf]
  | e :: es, i + 1 => by simp [modify_born f hf es i]

theorem findNow_eq {enc : K → Value} {d : TypeDesc} (same : ∀ a b, Instr.sameNow d (enc a) (enc b) = some (decide (a = b))) (k : K) :
    ∀ (es : List MapEntry) (l : List (K × Value)) (i : Nat), es.map (fun e => (e.key, e.val)) = l.map (fun p => (enc p.1, p.2)) → Instr.findNow d (enc k) es i = some (aidx k l i)
  | [], [], _, _ => rfl
  | [], _ :: _, _, h => by simp at h
  | _ :: _, [], _, h => by simp at h
  | e :: es, (j, v) :: l, i, h => by
    simp only [List.map_cons, List.cons.injEq, Prod.mk.injEq] at h
    obtain ⟨⟨h1, h2⟩, h3⟩ := h
    simp only [Instr.findNow, h1, same, aidx]
    by_cases hk : k = j
    · simp [hk, h2]
    · simp only [hk, decide_false, if_false]
      exact findNow_eq same k es l (i + 1) h3

theorem findKey_run {P : Program} {kt : TypeId} (kk : KeyKind P kt K) {es : Array MapEntry} {clock : Nat} {l : List (K × Value)} (h : Holds kk.enc es clock l) (k : K) (w : World) :
    (Instr.findKey kt (kk.enc k) es.toList).run P w = .ok (aidx k l 0) w := by
  simp [Instr.findKey, run_underlying kk.und, findNow_eq kk.same k es.toList l 0 h.kv]

end alist

theorem run_getObj_map {P : Program} {w : World} {b : Nat} {es : Array MapEntry} {clock : Nat} (h : w.heap[b]? = some (.map es clock)) : (getObj b).run P w = .ok (.map es clock) w := by
  simp only [getObj, Sem.run, h]

theorem run_setObj_map {P : Program} {w : World} {b : Nat} {es : Array MapEntry} {clock : Nat} (h : w.heap[b]? = some (.map es clock)) (o : Obj) :
    (setObj b o).run P w = .ok () { w with heap := w.heap.setIfInBounds b o } := by
  simp only [setObj, Sem.run, h]

section ops
variable {P : Program} {kt : TypeId} {K : Type} [DecidableEq K] (kk : KeyKind P kt K) {et : TypeId} {i : TypeInfo} {z : Value} {w : World} {b : Nat} {es : Array MapEntry} {clock : Nat} {l : List (K × Value)} {mt : TypeId}
include kk

omit [DecidableEq K] kk in
theorem zero_run (hi : P.info? et = some i) (hz : i.zero = some z) (w : World) : (zeroValue et).run P w = .ok z w := by
  simp [zeroValue, typeInfo, hi, hz]

theorem lookup_run (hm : P.underlying mt = some (.map kt et)) (hi : P.info? et = some i) (hz : i.zero = some z) (hb : w.heap[b]? = some (.map es clock)) (h : Holds kk.enc es clock l) (k : K) :
    (Instr.lookup mt (.map (some b)) (kk.enc k) false).run P w = .ok ((aget k l).getD z) w := by
  have hf := findKey_run kk h k w
  have hg := aidx_get k l 0
  simp only [Instr.lookup, Sem.run_bind, run_underlying hm, Result.andThen_ok, run_getObj_map hb, Sem.run_pure, kk.ck, hf]
  cases hx : aidx k l 0 with
  | none =>
    rw [hx] at hg
    simp only [← hg, Option.map_none, Option.getD_none, Sem.run_bind, zero_run hi hz, Result.andThen_ok, Sem.run_pure]; rfl
  | some p =>
    rw [hx] at hg
    simp only [← hg, Option.map_some, Option.getD_some, Sem.run_bind, Result.andThen_ok, Sem.run_pure]; rfl

theorem lookup_ok_run (hm : P.underlying mt = some (.map kt et)) (hi : P.info? et = some i) (hz : i.zero = some z) (hb : w.heap[b]? = some (.map es clock)) (h : Holds kk.enc es clock l) (k : K) :
    (Instr.lookup mt (.map (some b)) (kk.enc k) true).run P w = .ok (.tuple #[(aget k l).getD z, .bool (aget k l).isSome]) w := by
  have hf := findKey_run kk h k w
  have hg := aidx_get k l 0
  simp only [Instr.lookup, Sem.run_bind, run_underlying hm, Result.andThen_ok, run_getObj_map hb, Sem.run_pure, kk.ck, hf]
  cases hx : aidx k l 0 with
  | none =>
    rw [hx] at hg
    simp only [← hg, Option.map_none, Option.getD_none, Option.isSome_none, Sem.run_bind, zero_run hi hz, Result.andThen_ok, Sem.run_pure]; rfl
  | some p =>
    rw [hx] at hg
    simp only [← hg, Option.map_some, Option.getD_some, Option.isSome_some, Sem.run_bind, Result.andThen_ok, Sem.run_pure]; rfl

theorem holds_set (h : Holds kk.enc es clock l) (k : K) (v : Value) :
    (∀ p, aidx k l 0 = some p → Holds kk.enc (es.modify p.1 fun e => { e with key := kk.enc k, val := v }) clock (aset k v l)) ∧
    (aidx k l 0 = none → Holds kk.enc (es.push { key := kk.enc k, val := v, born := clock }) (clock + 1) (aset k v l)) := by
  refine ⟨fun p hp => ?_, fun hn => ?_⟩
  · have hb : ((es.modify p.1 fun e => { e with key := kk.enc k, val := v }).toList).map (·.born) = es.toList.map (·.born) := by
      rw [Array.toList_modify]; exact modify_born (fun e => { e with key := kk.enc k, val := v }) (fun _ => rfl) es.toList p.1
    refine ⟨by rw [Array.toList_modify]; exact kv_set k v _ _ p h.kv hp, by rw [hb]; exact h.born, fun e he => ?_⟩
    have : e.born ∈ es.toList.map (·.born) := by rw [← hb]; exact List.mem_map_of_mem he
    obtain ⟨e', he', h2⟩ := List.mem_map.1 this
    rw [← h2]; exact h.clk e' he'
  · refine ⟨by rw [Array.toList_push]; exact kv_push k v clock _ _ h.kv hn, ?_, fun e he => ?_⟩
    · rw [Array.toList_push, List.map_append, List.pairwise_append]
      refine ⟨h.born, by simp, fun a ha b hb => ?_⟩
      obtain ⟨e, he, rfl⟩ := List.mem_map.1 ha
      simp at hb
      subst hb
      exact h.clk e he
    · rw [Array.toList_push, List.mem_append] at he
      rcases he with he | he
      · have := h.clk e he; omega
      · simp at he; subst he; simp

theorem mapUpdate_run (hm : P.underlying mt = some (.map kt et)) (hb : w.heap[b]? = some (.map es clock)) (h : Holds kk.enc es clock l) (k : K) (v : Value) :
    ∃ es' clock', (Instr.mapUpdate mt (.map (some b)) (kk.enc k) v).run P w = .ok () { w with heap := w.heap.setIfInBounds b (.map es' clock') } ∧ Holds kk.enc es' clock' (aset k v l) := by
  have hf := findKey_run kk h k w
  obtain ⟨hs, hp⟩ := holds_set kk h k v
  cases hx : aidx k l 0 with
  | none =>
    refine ⟨_, _, ?_, hp hx⟩
    simp only [Instr.mapUpdate, Sem.run_bind, run_underlying hm, Result.andThen_ok, run_getObj_map hb, kk.ck, hf, hx, run_setObj_map hb]
  | some p =>
    have hkey : ((es[p.1]?).map (·.key)).getD (kk.enc k) = kk.enc k := by
      have h1 := congrArg (fun x => x[p.1]?) h.kv
      simp only [List.getElem?_map] at h1
      have h2 : ∀ (l : List (K × Value)) (p : Nat × Value), aidx k l 0 = some p → ∃ v, l[p.1]? = some (k, v) := by
        intro l
        induction l with
        | nil => intro p hp; simp [aidx] at hp
        | cons q l ih =>
          intro p hp
          obtain ⟨j, u⟩ := q
          unfold aidx at hp
          by_cases hk : k = j
          · simp only [hk, if_true, Option.some.injEq] at hp; subst hp; exact ⟨u, by simp [hk]⟩
          · simp only [hk, if_false] at hp
            rw [aidx_shift] at hp
            cases hq : aidx k l 0 with
            | none => rw [hq] at hp; cases hp
            | some q =>
              rw [hq] at hp
              simp only [Option.map_some, Option.some.injEq] at hp
              subst hp
              obtain ⟨v, hv⟩ := ih q hq
              exact ⟨v, by simpa using hv⟩
      obtain ⟨v', hv'⟩ := h2 l p hx
      rw [hv'] at h1
      rw [← Array.getElem?_toList]
      cases he : es.toList[p.1]? with
      | none => rfl
      | some e =>
        rw [he] at h1
        simp only [Option.map_some, Option.some.injEq, Prod.mk.injEq] at h1
        simp [h1.1]
    refine ⟨_, _, ?_, hs p hx⟩
    simp only [Instr.mapUpdate, Sem.run_bind, run_underlying hm, Result.andThen_ok, run_getObj_map hb, kk.ck, hf, hx, run_setObj_map hb, hkey, Instr.keyThatStays, kk.sb, if_true, Sem.run_pure]

theorem delete_run {ty : TypeId} {tx : TypeId} (hm : P.underlying mt = some (.map kt et)) (hb : w.heap[b]? = some (.map es clock)) (h : Holds kk.enc es clock l) (k : K) :
    ∃ es', (Builtin.delete_ #[mt, tx] ty #[.map (some b), kk.enc k]).run P w = .ok (.tuple #[]) { w with heap := w.heap.setIfInBounds b (.map es' clock) } ∧ Holds kk.enc es' clock (adel k l) := by
  have hf := findKey_run kk h k w
  have hg := aidx_get k l 0
  cases hx : aidx k l 0 with
  | none =>
    refine ⟨es, ?_, by rw [adel_of_none k l (by rw [← hg, hx]; rfl)]; exact h⟩
    simp [Builtin.delete_, run_underlying hm, run_getObj_map hb, kk.ck, hf, hx, run_setObj_map hb]
  | some p =>
    have he : (es.eraseIdxIfInBounds p.1).toList = es.toList.eraseIdx p.1 := by
      unfold Array.eraseIdxIfInBounds
      split
      · simp
      · rename_i hlt; rw [List.eraseIdx_of_length_le (by simpa using hlt)]
    have hsub : ((es.eraseIdxIfInBounds p.1).toList).Sublist es.toList := by rw [he]; exact List.eraseIdx_sublist ..
    refine ⟨es.eraseIdxIfInBounds p.1, ?_, ⟨by rw [he]; exact kv_del k _ _ p h.kv hx, h.born.sublist (hsub.map _), fun e hm => h.clk e (hsub.subset hm)⟩⟩
    simp [Builtin.delete_, run_underlying hm, run_getObj_map hb, kk.ck, hf, hx, run_setObj_map hb]

theorem len_run {ty : TypeId} (hm : P.underlying mt = some (.map kt et)) (hb : w.heap[b]? = some (.map es clock)) (h : Holds kk.enc es clock l) :
    (Builtin.len_ #[mt] ty #[.map (some b)]).run P w = .ok (.int .i64 l.length) w := by
  have hl : es.size = l.length := by
    have := congrArg List.length h.kv
    simpa using this
  simp [Builtin.len_, run_underlying hm, run_getObj_map hb, goInt, hl]

end ops

theorem holds_empty {K : Type} (enc : K → Value) : Holds enc #[] 0 [] := ⟨rfl, by simp, by simp⟩

end Sep
#print axioms Sep.mapUpdate_run
#print axioms Sep.delete_run
end Go.Proofs.YtnjgddckejpddaaGreatDoor
