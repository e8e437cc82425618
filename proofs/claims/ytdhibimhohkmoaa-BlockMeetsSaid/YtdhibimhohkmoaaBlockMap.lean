/- The map of package block: bytes of a block as a text, and its number: what it holds after some blocks, what a look-up and a store do. -/
import Derived.Test.YtdhibimhohkmoaaSeq
import Derived.StillTail
import Derived.StillTailTactics
namespace Go.Proofs.Ytdhibimhohkmoaa
open Go.RowKit

def str (l : List UInt8) : ByteArray := ⟨l.toArray⟩
theorem str_inj {a b : List UInt8} (h : str a = str b) : a = b := by
  have := congrArg (fun s : ByteArray => s.data.toList) h
  simpa [str] using this
theorem beq_str (a b : List UInt8) : (str a == str b) = decide (a = b) := by
  rw [beq_toListBytes, ByteArray.toList_eq, ByteArray.toList_eq]
  show (a == b) = decide (a = b)
  by_cases h : a = b <;> simp [h]

/-- What the map holds after the first n keys: each with the number of its first place. -/
def entU (ks : List (List UInt8)) : Nat → List (List UInt8 × Nat)
  | 0 => []
  | n + 1 => if ks.getD n [] ∈ ks.take n then entU ks n else entU ks n ++ [(ks.getD n [], n)]

theorem entU_keys (ks : List (List UInt8)) (s : List UInt8) : ∀ n, n ≤ ks.length → ((∃ p ∈ entU ks n, p.1 = s) ↔ s ∈ ks.take n)
  | 0, _ => by simp [entU]
  | n + 1, h => by
    have hn : n < ks.length := by omega
    have ih := entU_keys ks s n (by omega)
    have hg : ks.getD n [] = ks[n] := by simp [List.getD, hn]
    rw [List.take_add_one, List.getElem?_eq_getElem hn, List.mem_append, ← ih]
    rw [entU, hg]
    split
    · rename_i hm
      constructor
      · intro h; exact .inl h
      · rintro (h | h)
        · exact h
        · simp at h; subst h; exact ih.2 hm
    · constructor
      · rintro ⟨p, hp, hs⟩
        rcases List.mem_append.1 hp with hp | hp
        · exact .inl ⟨p, hp, hs⟩
        · simp at hp; subst hp; right; simp [← hs]
      · rintro (⟨p, hp, hs⟩ | h)
        · exact ⟨p, List.mem_append_left _ hp, hs⟩
        · simp at h; exact ⟨(ks[n], n), by simp, h.symm⟩
/-- The first number of a key, or nothing. -/
def firstAt (ks : List (List UInt8)) (s : List UInt8) : Option Nat := if s ∈ ks then some (ks.idxOf s) else none
theorem entU_find (ks : List (List UInt8)) (s : List UInt8) : ∀ n, n ≤ ks.length → ((entU ks n).find? (fun p => p.1 == s)).map (·.2) = firstAt (ks.take n) s
  | 0, _ => by simp [entU, firstAt]
  | n + 1, h => by
    have hn : n < ks.length := by omega
    have ih := entU_find ks s n (by omega)
    have hg : ks.getD n [] = ks[n] := by simp [List.getD, hn]
    have hk := entU_keys ks s n (by omega)
    have htk : ks.take (n + 1) = ks.take n ++ [ks[n]] := by rw [List.take_add_one, List.getElem?_eq_getElem hn]; rfl
    rw [entU, hg]
    split
    · rename_i hm
      rw [ih, htk]
      unfold firstAt
      by_cases hs : s ∈ ks.take n
      · rw [if_pos hs, if_pos (List.mem_append_left _ hs), List.idxOf_append, if_pos hs]
      · have hne : ¬ s = ks[n] := by rintro rfl; exact hs hm
        rw [if_neg hs, if_neg (by simp only [List.mem_append, List.mem_singleton]; rintro (h | h); exact hs h; exact hne h)]
    · rename_i hm
      rw [htk, List.find?_append]
      by_cases hs : s ∈ ks.take n
      · obtain ⟨p, hp, hps⟩ := hk.2 hs
        have hsome : ((entU ks n).find? (fun p => p.1 == s)).isSome := by
          rw [List.find?_isSome]; exact ⟨p, hp, by simp [hps]⟩
        obtain ⟨q, hq⟩ := Option.isSome_iff_exists.1 hsome
        rw [hq] at ih ⊢
        simp only [Option.some_or]
        rw [ih]
        unfold firstAt
        rw [if_pos hs, if_pos (List.mem_append_left _ hs), List.idxOf_append, if_pos hs]
      · have hnone : (entU ks n).find? (fun p => p.1 == s) = none := by
          rw [List.find?_eq_none]
          intro p hp
          simp only [beq_iff_eq]
          intro hps
          exact hs (hk.1 ⟨p, hp, hps⟩)
        rw [hnone]
        have hl : (ks.take n).length = n := by simp; omega
        by_cases he : ks[n] = s
        · subst he
          simp only [Option.none_or, List.find?_cons, BEq.rfl]
          unfold firstAt
          rw [if_pos (List.mem_append_right _ (List.mem_singleton.2 rfl)), List.idxOf_append, if_neg hs]
          simp [hl]
        · have he' : (ks[n] == s) = false := by simpa using he
          simp only [Option.none_or, List.find?_cons, he', List.find?_nil]
          unfold firstAt
          rw [if_neg (by simp only [List.mem_append, List.mem_singleton]; rintro (h | h); exact hs h; exact he h.symm)]
          rfl

theorem entU_append (ks : List (List UInt8)) (x : List UInt8) : ∀ n, n ≤ ks.length → entU (ks ++ [x]) n = entU ks n
  | 0, _ => rfl
  | n + 1, h => by
    have hn : n < ks.length := by omega
    rw [entU, entU, entU_append ks x n (by omega)]
    have h1 : (ks ++ [x]).getD n [] = ks.getD n [] := by simp [List.getD, List.getElem?_append_left hn]
    have h2 : (ks ++ [x]).take n = ks.take n := List.take_append_of_le_length (by omega)
    rw [h1, h2]
theorem entU_snoc (ks : List (List UInt8)) (x : List UInt8) : entU (ks ++ [x]) (ks.length + 1) = if x ∈ ks then entU ks ks.length else entU ks ks.length ++ [(x, ks.length)] := by
  rw [entU, entU_append ks x _ (Nat.le_refl _)]
  have h1 : (ks ++ [x]).getD ks.length [] = x := by simp [List.getD]
  have h2 : (ks ++ [x]).take ks.length = ks := by simp
  rw [h1, h2]
theorem find_none_of (ks : List (List UInt8)) (s : List UInt8) (h : s ∉ ks) : (entU ks ks.length).find? (fun p => p.1 == s) = none := by
  have := entU_find ks s ks.length (Nat.le_refl _)
  rw [List.take_length] at this
  unfold firstAt at this
  rw [if_neg h] at this
  simpa using this
theorem find_some_of (ks : List (List UInt8)) (s : List UInt8) (h : s ∈ ks) : ∃ q, (entU ks ks.length).find? (fun p => p.1 == s) = some q ∧ q.2 = ks.idxOf s := by
  have := entU_find ks s ks.length (Nat.le_refl _)
  rw [List.take_length] at this
  unfold firstAt at this
  rw [if_pos h] at this
  obtain ⟨q, hq, he⟩ := Option.map_eq_some_iff.1 this
  exact ⟨q, hq, he⟩

/-- The pairs of a match: of each key of the second list that the first one has, its first place there, and its own. -/
def mres (ka kb : List (List UInt8)) : List (Nat × Nat) := kb.zipIdx.filterMap fun p => if p.1 ∈ ka then some (ka.idxOf p.1, p.2) else none
theorem mres_hit (ka kb : List (List UInt8)) (s : List UInt8) (h : s ∈ ka) : mres ka (kb ++ [s]) = mres ka kb ++ [(ka.idxOf s, kb.length)] := by
  unfold mres
  rw [List.zipIdx_append, List.filterMap_append]
  simp [h]
theorem mres_miss (ka kb : List (List UInt8)) (s : List UInt8) (h : s ∉ ka) : mres ka (kb ++ [s]) = mres ka kb := by
  unfold mres
  rw [List.zipIdx_append, List.filterMap_append]
  simp [h]
theorem mres_length (ka kb : List (List UInt8)) : (mres ka kb).length ≤ kb.length := by
  unfold mres
  exact Nat.le_trans (List.length_filterMap_le _ _) (by simp)

/-- The map's entries. -/
def entry (j : Nat) (p : List UInt8 × Nat) : MapEntry := { key := .string (str p.1), val := .int .i64 (p.2 : Int), born := j }
def entries (l : List (List UInt8 × Nat)) : List MapEntry := l.mapIdx entry
/-- Block B is the map with these entries. -/
def MapIs (w : World) (B : Nat) (l : List (List UInt8 × Nat)) : Prop := w.heap[B]? = some (.map (entries l).toArray l.length)

theorem entries_snoc (l : List (List UInt8 × Nat)) (p : List UInt8 × Nat) : entries (l ++ [p]) = entries l ++ [entry l.length p] := by
  simp [entries, List.mapIdx_append]

theorem findNow_gen (s : List UInt8) : ∀ (l : List (List UInt8 × Nat)) (f : Nat → Nat) (i : Nat),
    Instr.findNow .string (.string (str s)) (l.mapIdx fun j p => entry (f j) p) i = some ((l.find? (fun p => p.1 == s)).map (fun p => (i + l.findIdx (fun p => p.1 == s), Value.int .i64 (p.2 : Int))))
  | [], f, i => by simp [Instr.findNow]
  | p :: l, f, i => by
    have ih := findNow_gen s l (fun j => f (j + 1)) (i + 1)
    rw [List.mapIdx_cons, Instr.findNow]
    have hk : Instr.sameNow .string (.string (str s)) (entry (f 0) p).key = some (decide (s = p.1)) := by
      simp only [entry, Instr.sameNow, beq_str]
    rw [hk]
    by_cases h : p.1 = s
    · simp [h, List.findIdx_cons, entry]
    · have h' : ¬ s = p.1 := fun e => h e.symm
      have h2 : (p.1 == s) = false := by simpa using h
      simp only [h', decide_false, List.find?_cons, List.findIdx_cons, h2, cond_false]
      rw [ih]
      cases l.find? (fun p => p.1 == s) <;> simp <;> omega

section
variable {P : Program} (w : World)
theorem run_checkKey_string (b : Bool) (n : Nat) (t : TypeId) (ht : P.underlying t = some .string) (s : ByteArray) : (Instr.checkKey b (n + 1) t (.string s)).run P w = .ok () w := by
  simp [Instr.checkKey, run_underlying ht]
theorem run_findKey (t : TypeId) (ht : P.underlying t = some .string) (s : List UInt8) (l : List (List UInt8 × Nat)) :
    (Instr.findKey t (.string (str s)) (entries l)).run P w = .ok ((l.find? (fun p => p.1 == s)).map (fun p => (l.findIdx (fun p => p.1 == s), Value.int .i64 (p.2 : Int)))) w := by
  have h := findNow_gen s l (fun j => j) 0
  simp only [Nat.zero_add] at h
  unfold Instr.findKey
  simp only [Sem.run_bind, run_underlying ht, Result.andThen_ok]
  rw [show entries l = l.mapIdx (fun j p => entry j p) from rfl, h]
  simp
end

section
variable {P : Program} {w : World}
/-- 'x, known := m[s]'. -/
theorem run_lookup_map {B : Nat} {l : List (List UInt8 × Nat)} (h : MapIs w B l) (T K E : TypeId) (hT : P.underlying T = some (.map K E)) (hK : P.underlying K = some .string) (hz : ∀ w, (zeroValue E).run P w = .ok (.int .i64 0) w) (s : List UInt8) :
    (Instr.lookup T (.map (some B)) (.string (str s)) true).run P w =
      .ok (.tuple #[.int .i64 (((l.find? (fun p => p.1 == s)).map (fun p => (p.2 : Int))).getD 0), .bool ((l.find? (fun p => p.1 == s)).isSome)]) w := by
  have hf := run_findKey (P := P) w K hK s l
  have hc := fun b => run_checkKey_string (P := P) w b 9999 K hK (str s)
  unfold MapIs at h
  unfold Instr.lookup
  simp only [Sem.run_bind, run_underlying hT, Result.andThen_ok]
  have hg : (getObj B).run P w = .ok (.map (entries l).toArray l.length) w := by simp [getObj, Sem.run, h]
  simp only [hg, Sem.run_bind, Sem.run_pure, Result.andThen_ok, hc, hf]
  cases hh : l.find? (fun p => p.1 == s) with
  | none => simp [hz]
  | some p => simp
/-- 'm[s] = v' where s is no key yet. -/
theorem run_update_map {B : Nat} {l : List (List UInt8 × Nat)} (h : MapIs w B l) (T K E : TypeId) (hT : P.underlying T = some (.map K E)) (hK : P.underlying K = some .string) (s : List UInt8) (v : Nat) (hn : l.find? (fun p => p.1 == s) = none) :
    (Instr.mapUpdate T (.map (some B)) (.string (str s)) (.int .i64 (v : Int))).run P w = .ok () (w.putObj B (.map (entries (l ++ [(s, v)])).toArray (l ++ [(s, v)]).length)) := by
  have hf := run_findKey (P := P) w K hK s l
  have hc := fun b => run_checkKey_string (P := P) w b 9999 K hK (str s)
  unfold MapIs at h
  unfold Instr.mapUpdate
  simp only [Sem.run_bind, run_underlying hT, Result.andThen_ok]
  have hg : (getObj B).run P w = .ok (.map (entries l).toArray l.length) w := by simp [getObj, Sem.run, h]
  simp only [hg, Sem.run_bind, Result.andThen_ok, hc, hf, hn, Option.map_none]
  simp [setObj, Sem.run, h, entries_snoc, entry, World.putObj]
theorem mapIs_put {B : Nat} (hB : B < w.heap.size) (l : List (List UInt8 × Nat)) : MapIs (w.putObj B (.map (entries l).toArray l.length)) B l := World.putObj_heap_same hB
theorem MapIs.lt {B : Nat} {l : List (List UInt8 × Nat)} (h : MapIs w B l) : B < w.heap.size := (Array.getElem?_eq_some_iff.1 h).1
theorem MapIs.kept {w' : World} {row : Option Nat} {B : Nat} {l : List (List UInt8 × Nat)} (h : MapIs w B l) (hg : w.grownBy w' row) (hne : some B ≠ row) : MapIs w' B l := (hg.block B h.lt hne).trans h
theorem MapIs.keptIn {S : Nat → Prop} {w' : World} {B : Nat} {l : List (List UInt8 × Nat)} (h : MapIs w B l) (hg : KeptIn S w w') (hB : S B) : MapIs w' B l := (hg.block B hB).trans h
theorem MapIs.drewN {B : Nat} {l : List (List UInt8 × Nat)} (h : MapIs w B l) (k : Nat) : MapIs (w.drewN k) B l := h
theorem MapIs.alloc {B : Nat} {l : List (List UInt8 × Nat)} (h : MapIs w B l) (o : Obj) : MapIs (w.alloc o) B l := h.kept (World.grownBy_alloc w o none) (by simp)
theorem mapIs_new (w : World) : MapIs (w.alloc (.map #[] 0)) w.heap.size [] := heap_alloc_new w _
theorem ownFrom_map {β : Type} {B n : Nat} (hB : B < n) (f : β → List (List UInt8 × Nat)) : OwnFrom n (fun s W => MapIs W B (f s)) := fun s X Y row hs hg hr =>
  hs.kept hg (fun e => by have := (hr B e.symm).1; omega)
/-- The bytes of a slice as a text. -/
theorem add_off (b off j : Nat) : (⟨b, off, none⟩ : Addr).add j = ⟨b, off + j, none⟩ := by unfold Addr.add; split <;> simp_all
theorem foldl_push (bs : List UInt8) : ∀ (s : List UInt8), (bs.map (fun b => (b.toNat : Int))).foldl (fun (r : ByteArray) n => r.push (UInt8.ofNat n.toNat)) (str s) = str (s ++ bs) := by
  induction bs with
  | nil => intro s; simp
  | cons b bs ih =>
    intro s
    simp only [List.map_cons, List.foldl_cons]
    have : (str s).push (UInt8.ofNat ((b.toNat : Int)).toNat) = str (s ++ [b]) := by
      simp [str, ByteArray.push]
    rw [this, ih]
    simp
theorem run_bytes_str {A : Option Addr} {n c : Nat} {bs : List UInt8} (h : Rd w 1 A n (bs.map byteV)) (S D E : TypeId) (hs : P.underlying S = some (.slice E)) (he : P.underlying E = some (.int .u8)) (hd : P.underlying D = some .string) :
    (convert S D (.slice A n c)).run P w = .ok (.string (str bs)) w := by
  rw [run_convert_bytes_string w S D E A n c hs he hd]
  have hl := h.len1
  cases A with
  | none =>
    have hn : n = 0 := by
      rcases Nat.eq_zero_or_pos n with h0 | h0
      · exact h0
      · obtain ⟨b, off, e, _⟩ := h.2.2 h0; cases e
    have hb : bs = [] := List.eq_nil_of_length_eq_zero (by omega)
    subst hb
    rfl
  | some ad =>
    have hm : (bs.map byteV) = (bs.map (fun b => (b.toNat : Int))).map (Value.int .u8) := by simp [byteV]
    have hload : (loadCells ad n).run P w = .ok ((bs.map (fun b => (b.toNat : Int))).map (Value.int .u8)).toArray w := by
      rw [← hm]
      have hlen : (bs.map byteV).length = n := by simpa using hl
      rcases Nat.eq_zero_or_pos n with h0 | h0
      · subst h0
        have hb : bs = [] := List.eq_nil_of_length_eq_zero (by omega)
        subst hb
        rfl
      · obtain ⟨b, off, e, hc⟩ := h.2.2 h0
        cases e
        have := run_loadCells_list (P := P) w ⟨b, off, none⟩ (bs.map byteV) (fun j v hj => by rw [add_off]; exact hc j v hj)
        rwa [hlen] at this
    rw [run_bytesToString w ad n c _ hload]
    have := foldl_push bs []
    rw [List.nil_append] at this
    exact congrArg (fun s => Result.ok (Value.string s) w) this
theorem wpList_update {ops : Array Oper} {rest : List Oper} {o : Oper} {a : Act} {w w' : World} {Q : Exit → Act → World → Prop} (hg : o.guard = none) (T : TypeId) (m k v : Operand) (ho : o.op = .mapUpdate T m k v)
    (M K V : Value) (hM : a.eval m = M) (hK : a.eval k = K) (hV : a.eval v = V) (hr : (Instr.mapUpdate T M K V).run P w = .ok () w') (h : wpList P ops Q rest (a.put o.dst undef) w') : wpList P ops Q (o :: rest) a w := by
  refine wpList_plain hg fun K hK' => ?_
  unfold Oper.wp execOp
  simp only [ho, Sem.run_bind, hM, hK, hV, hr, Result.andThen_ok, Sem.run_pure]
  exact hK' _ _ h
end
end Go.Proofs.Ytdhibimhohkmoaa
