/- The reference's Sides. -/
import Derived.Test.YtgblkaoioeceiaaDoorRSame
namespace Go.Proofs.YtgblkaoioeceiaaDoor
open Go.RowKit Go.Sort

def sidesF : Nat → Nat → Nat → List Nat
  | 0, _, _ => []
  | f + 1, n, i => if n ≤ 1 then [] else (if i % 2 = 1 then [1] else if i + 1 < n then [2] else []) ++ sidesF f ((n + 1) / 2) (i / 2)
def sidesL (n i : Nat) : List Nat := sidesF n n i
theorem sidesF_one : ∀ (f n i : Nat), n ≤ 1 → sidesF f n i = []
  | 0, _, _, _ => rfl
  | f + 1, n, i, h => by rw [sidesF, if_pos h]
theorem sidesF_fuel : ∀ (f g n i : Nat), n ≤ f → n ≤ g → sidesF f n i = sidesF g n i
  | 0, g, n, i, h, _ => by rw [sidesF_one g n i (by omega)]; rfl
  | f + 1, 0, n, i, _, h => by rw [sidesF_one (f + 1) n i (by omega)]; rfl
  | f + 1, g + 1, n, i, h, h' => by
    by_cases h1 : n ≤ 1
    · rw [sidesF_one _ _ _ h1, sidesF_one _ _ _ h1]
    · rw [sidesF, sidesF, if_neg h1, if_neg h1, sidesF_fuel f g _ _ (by omega) (by omega)]
theorem sidesL_one (n i : Nat) (h : n ≤ 1) : sidesL n i = [] := sidesF_one _ _ _ h
theorem sidesL_up (n i : Nat) (h : 1 < n) : sidesL n i = (if i % 2 = 1 then [1] else if i + 1 < n then [2] else []) ++ sidesL ((n + 1) / 2) (i / 2) := by
  unfold sidesL
  rw [show sidesF n n i = sidesF ((n - 1) + 1) n i from by rw [show n - 1 + 1 = n from by omega], sidesF, if_neg (by omega), sidesF_fuel (n - 1) _ _ _ (by omega) (Nat.le_refl _)]
def foldS : List Nat → Sum32 → List Sum32 → Option Sum32
  | [], x, [] => some x
  | s :: ss, x, h :: t => foldS ss (if s = 1 then pairS h x else pairS x h) t
  | _, _, _ => none
theorem foldS_len : ∀ (ss : List Nat) (x : Sum32) (p : List Sum32), ss.length ≠ p.length → foldS ss x p = none
  | [], x, [], h => absurd rfl h
  | [], x, _ :: _, _ => rfl
  | _ :: _, x, [], _ => rfl
  | s :: ss, x, a :: t, h => by rw [foldS]; exact foldS_len ss _ t (by simpa using h)
theorem chk_sides (f : Nat) : ∀ (n i : Nat) (x : Sum32) (p : List Sum32), n ≤ f → i < n → chkL n i x p = foldS (sidesL n i) x p := by
  induction f with
  | zero => intro n i x p h hi; omega
  | succ f ih =>
    intro n i x p hf hi
    by_cases h1 : n ≤ 1
    · rw [chkL_one n i x p h1, sidesL_one n i h1]
      cases p <;> simp [foldS]
    · have hx := xor1_cases i
      rw [sidesL_up n i (by omega)]
      by_cases hodd : i % 2 = 1
      · rw [if_pos hodd]
        rw [if_neg (by omega)] at hx
        cases p with
        | nil => rw [chkL_nil n i x (by omega) (by omega)]; rfl
        | cons a t =>
          rw [chkL_cons n i x a t (by omega) (by omega), if_pos hodd, ih _ _ _ _ (by omega) (by omega)]
          rfl
      · rw [if_neg hodd]
        rw [if_pos (by omega)] at hx
        by_cases hl : i + 1 < n
        · rw [if_pos hl]
          cases p with
          | nil => rw [chkL_nil n i x (by omega) (by omega)]; rfl
          | cons a t =>
            rw [chkL_cons n i x a t (by omega) (by omega), if_neg hodd, ih _ _ _ _ (by omega) (by omega)]
            rfl
        · rw [if_neg hl, chkL_skip n i x p (by omega) (by omega), ih _ _ _ _ (by omega) (by omega)]
          rfl

def natV (k : Nat) : Value := .int .i64 (k : Int)
theorem oneN (ks : List Nat) : ∀ u ∈ ks.map natV, u.oneCell' = true := fun u hu => by
  obtain ⟨k, _, rfl⟩ := List.mem_map.1 hu
  rfl
theorem info3 : (Tryd.prog.info? 3).map (fun i => (i.zero, i.size, i.bytes)) = some (some (.int .i64 0), 1, 8) := by kernel_rfl
theorem und65 : Tryd.prog.underlying 65 = some (.slice 3) := by kernel_rfl
theorem lit_rdE (w : World) (v : Value) (e : TypeId) : Rd (w.alloc (.cells #[v] e)) 1 (some ⟨w.heap.size, 0, none⟩) 1 [v] :=
  ⟨rfl, by omega, fun _ => ⟨_, _, rfl, fun j u hu => by have := cells_new w [v] e j u hu; rwa [Addr.add_mid] at this⟩⟩
theorem App.litE {w : World} {base n : Nat} {e : TypeId} {v : Value} {xs : List Value} (h : App w base e v n xs) (o : Obj) : App (w.alloc o) base e v n xs := h.below ((Below.refl w.heap.size w).alloc (Nat.le_refl _) o) (Nat.le_refl _)

set_option maxRecDepth 100000 in
set_option maxHeartbeats 1000000 in
theorem RSides_typed (n i : Nat) (hn : n ≤ 1000) (hi : i < n) (w : World) :
    Calls Tryd.prog 39 #[.int .i64 (n : Int), .int .i64 (i : Int)] w fun e w' => ∃ A' c', e = .returned (.slice A' (sidesL n i).length c') ∧ TRd w' 3 1 A' (sidesL n i).length ((sidesL n i).map natV) ∧ Below w.heap.size w w' := by
  obtain ⟨i0, hi0, hz0, hz1, hz2⟩ := info_parts info3
  obtain ⟨tgt, htgt⟩ : ∃ t, sidesL n i = t := ⟨_, rfl⟩
  rw [htgt]
  have Htg := Lib.hid htgt
  clear htgt
  go_enter Tryd.func39, Tryd.ntmps39
  go_wp2_with fail
  go_loopw [0, 1, 5] (fun vn vi vo wr => ∃ (k j : Nat) (out : List Nat), vn = .int .i64 (k : Int) ∧ vi = .int .i64 (j : Int) ∧ j < k ∧ out.length + k ≤ n ∧ out ++ sidesL k j = tgt ∧ App wr w.heap.size 3 vo out.length (out.map natV) ∧ Below w.heap.size w wr) (fun vn _ _ _ => (intOf vn).toNat)
  case atStart => exact ⟨n, i, [], rfl, rfl, hi, by simp, by simpa using Htg.out, .inl ⟨rfl, rfl, _, rfl⟩, (Below.refl _ _).alloc (Nat.le_refl _) _⟩
  case round =>
    obtain ⟨k, j, out, rfl, rfl, hjk, hok, hpr, happ, hB⟩ := hrel
    have hsz := hB.size
    by_cases h1 : 1 < k
    · have hup := sidesL_up k j h1
      have HB := Lib.hid hB
      have Happ := Lib.hid happ
      have Hpr := Lib.hid hpr
      by_cases hodd : j % 2 = 1
      · rw [if_pos hodd] at hup
        have hmod : (j : Int) % 2 = 1 := by omega
        have Hup := Lib.hid hup
        clear hup hB happ hpr hodd
        go_wp2_with (at_builtin; refine wpList_app rfl (.tmp 12) (.tmp 13) 65 rfl 3 i0 (.int .i64 0) 8 und65 hi0 hz0 hz1 hz2 rfl w.heap.size (by simp; omega) _ _ _ rfl (Happ.out.litE _) (some ⟨wr.heap.size, 0, none⟩) 1 1 [natV 1] rfl (lit_rdE _ _ _) (by simp [natV, Value.oneCell']) (by unfold maxLen; omega) (by omega) ?_; intro v1 w3 happ1 hb1)
        refine ⟨⟨(k + 1) / 2, j / 2, out ++ [1], by go_num, by go_num, by omega, by rw [List.length_append, List.length_singleton]; omega, by rw [List.append_assoc, ← Hup.out]; exact Hpr.out, ?_, (HB.out.alloc hsz _).trans hb1⟩, by simp [intOf]; omega⟩
        rw [List.map_append, List.length_append]
        exact happ1
      · rw [if_neg hodd] at hup
        have hmod : (j : Int) % 2 = 0 := by omega
        by_cases hl : j + 1 < k
        · rw [if_pos hl] at hup
          have Hup := Lib.hid hup
          clear hup hB happ hpr hodd
          go_wp2_with (at_builtin; refine wpList_app rfl (.tmp 19) (.tmp 20) 65 rfl 3 i0 (.int .i64 0) 8 und65 hi0 hz0 hz1 hz2 rfl w.heap.size (by simp; omega) _ _ _ rfl (Happ.out.litE _) (some ⟨wr.heap.size, 0, none⟩) 1 1 [natV 2] rfl (lit_rdE _ _ _) (by simp [natV, Value.oneCell']) (by unfold maxLen; omega) (by omega) ?_; intro v1 w3 happ1 hb1)
          refine ⟨⟨(k + 1) / 2, j / 2, out ++ [2], by go_num, by go_num, by omega, by rw [List.length_append, List.length_singleton]; omega, by rw [List.append_assoc, ← Hup.out]; exact Hpr.out, ?_, (HB.out.alloc hsz _).trans hb1⟩, by simp [intOf]; omega⟩
          rw [List.map_append, List.length_append]
          exact happ1
        · rw [if_neg hl, List.nil_append] at hup
          have Hup := Lib.hid hup
          clear hup hB happ hpr hodd
          go_wp2_with fail
          exact ⟨⟨(k + 1) / 2, j / 2, out, by go_num, by go_num, by omega, by omega, by rw [← Hup.out]; exact Hpr.out, Happ.out, HB.out⟩, by simp [intOf]; omega⟩
    · rw [sidesL_one k j (by omega), List.append_nil] at hpr
      subst hpr
      obtain ⟨A', c', rfl, _, hR⟩ := happ.trd
      have HB := Lib.hid hB
      have HR := Lib.hid hR
      clear hB hR happ
      go_wp2_with fail
      go_ret
      exact ⟨A', c', rfl, HR.out, HB.out⟩
theorem RSides_any (n i : Nat) (hn : n ≤ 1000) (hi : i < n) (w : World) :
    Calls Tryd.prog 39 #[.int .i64 (n : Int), .int .i64 (i : Int)] w fun e w' => ∃ A' c', e = .returned (.slice A' (sidesL n i).length c') ∧ Rd w' 1 A' (sidesL n i).length ((sidesL n i).map natV) ∧ Below w.heap.size w w' :=
  (RSides_typed n i hn hi w).mono fun e w' ⟨A', c', h1, h2, h3⟩ => ⟨A', c', h1, h2.1, h3⟩
end Go.Proofs.YtgblkaoioeceiaaDoor
