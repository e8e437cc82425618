/- The reference's Proof. The reference's Sides. The reference's Check. A byte of a list of hashes is set; the head of a list of hashes. -/
import Derived.Test.YtfdhiilhjfbehaaDoorH7
import Derived.Test.YtfdhiilhjfbehaaDoorH1
import Derived.Laws.BitsAllLaws
namespace Go.Proofs.YtfdhiilhjfbehaaDoor
section
open Go.RowKit Go.Sort

set_option maxRecDepth 100000 in
set_option maxHeartbeats 1000000 in
theorem RProof_bad (A : Option Addr) (len cap : Nat) (i : Int) (hi : i < 0 ∨ (len : Int) ≤ i) (w : World) (_hl : len ≤ 9223372036854775807) :
    Calls Tryd.prog 41 #[.slice A len cap, .int .i64 i] w fun e w' => e = .returned (.tuple #[.slice none 0 0, .int .i64 1]) ∧ w' = w := by
  go_enter Tryd.func41, Tryd.ntmps41
  by_cases h0 : i < 0
  · go_wp2
    go_ret2
    exact ⟨rfl, rfl⟩
  · have h1 : (len : Int) ≤ i := by omega
    clear hi
    go_wp2
    go_ret2
    exact ⟨rfl, rfl⟩

theorem TRd.of_own {w : World} {base n c : Nat} {e : TypeId} {sz : Nat} {A : Option Addr} {xs : List Value} (h : w.ownsRow base e sz (.slice A n c) n xs) : TRd w e sz A n xs := by
  refine ⟨Rd.of_own h, fun _ b off hA => ?_⟩
  subst hA
  rcases h.2 with ⟨hv, _⟩ | ⟨g, cap, cur, hv, hb, hg, _⟩
  · cases hv
  · cases hv
    exact ⟨cur, hg⟩
set_option maxRecDepth 100000 in
set_option maxHeartbeats 2000000 in
theorem RProof_typed (A : Option Addr) (len cap i : Nat) (cs : List (List UInt8)) (w : World) (hr : Lst w A len cs) (hlen : len ≤ 1000000) (hcs : ∀ c ∈ cs, c.length ≤ 8796093021000) (hi : i < len) :
    Calls Tryd.prog 41 #[.slice A len cap, .int .i64 (i : Int)] w fun e w' => ∃ A' n' c', e = .returned (.tuple #[.slice A' n' c', .int .i64 0]) ∧ n' ≤ c' ∧ TRd w' 26 32 A' n' ((proofL (cs.map leafS) i).flatMap sumC) ∧ Below w.heap.size w w' ∧ (∀ b off, A' = some ⟨b, off, none⟩ → w.heap.size ≤ b) := by
  obtain ⟨i0, hi0, hz0, hz1, hz2⟩ := info_parts info32
  have hl := hr.len
  have hlv := RLeaves_any A len cap cs w hr hlen hcs
  have hll : (cs.map leafS).length = len := by rw [List.length_map, hl]
  obtain ⟨tgt, htgt⟩ : ∃ t, proofL (cs.map leafS) i = t := ⟨_, rfl⟩
  rw [htgt]
  generalize cs.map leafS = ls at *
  have Htg := Lib.hid htgt
  have Hlv := Lib.hid hlv
  clear hlv hr hcs hl htgt
  go_enter Tryd.func41, Tryd.ntmps41
  go_wp2_with fail
  refine Hlv.out.mono ?_
  rintro e w2 ⟨A2, c2, rfl, hc2, hrd2, hb2, hnew2⟩
  have hown : (w2.alloc (.cells #[] 26)).ownsRow w.heap.size 26 32 (.slice (some ⟨w2.heap.size, 0, none⟩) 0 0) 0 [] := (own_empty w2 26 32).mono hb2.size
  have hlt2 : ∀ b off, A2 = some ⟨b, off, none⟩ → b < w2.heap.size := fun b off e => hrd2.lt (by omega) (by omega) e
  have Hown := Lib.hid hown
  have Hrd2 := Lib.hid hrd2
  have HB2 := Lib.hid hb2
  have Hlt2 := Lib.hid hlt2
  clear hb2 hown hlt2 hrd2
  go_wp2_with fail
  go_loopw [1, 6, 7] (fun vi vl vo wr => ∃ (k n c' : Nat) (A' : Option Addr) (ys out : List Sum32), vi = .int .i64 (k : Int) ∧ vl = .slice A' n c' ∧ k < n ∧ out.length + n ≤ len ∧ Rd wr 32 A' n (ys.flatMap sumC) ∧ wr.ownsRow w.heap.size 26 32 vo out.length (out.flatMap sumC) ∧ out ++ proofL ys k = tgt ∧ Below w.heap.size w wr ∧ (∀ b off, A' = some ⟨b, off, none⟩ → vo.ownBlock ≠ some b)) (fun _ v _ _ => slLen v)
  case atStart =>
    refine ⟨i, len, c2, A2, ls, [], rfl, rfl, hi, by simp, Hrd2.out.below ((Below.refl _ _).alloc (Nat.le_refl _) _), Hown.out, by simpa using Htg.out, HB2.out.alloc HB2.out.size _, fun b off e e' => ?_⟩
    have := Hlt2.out b off e
    simp [Value.ownBlock] at e'
    omega
  case round =>
    obtain ⟨k, n, c', A', ys, out, rfl, rfl, hkn, hon, hrd, hrow, hpr, hB, hne⟩ := hrel
    have hyl := hrd.lenf sumC_len (by omega)
    obtain ⟨b, off, rfl, _⟩ := hrd.2.2 (by omega)
    by_cases h2 : 1 < n
    · have hpu := proofL_up ys k (by omega)
      have hxr := xor1_cases k
      have hrng : ∀ j, j < n → wr.rangeAt b (off + j * 32) (sumC (ys.getD j z32)) := fun j hj => hrd.range32 hj
      have hne := hne b off rfl
      have hup : ∀ w3, wr.grownBy w3 u7.ownBlock → Below w.heap.size w w3 → _ := fun w3 hg3 hb3 => RUp_any b off n c' ys w3 (hrd.kept hg3 (by omega) (fun b' off' _ e => by cases e; exact fun e' => hne e'.symm)) (by omega) (by omega)
      have HB := Lib.hid hB
      have hsz := hB.size
      rw [hyl] at hpu
      have Hrow := Lib.hid hrow
      have Hpr := Lib.hid hpr
      have Hup := Lib.hid hup
      by_cases hx : k ^^^ 1 < n
      · rw [if_pos hx] at hpu
        have hq := hrng _ hx
        have hh : (ys.getD (k ^^^ 1) z32).1.length = 32 := (ys.getD (k ^^^ 1) z32).2
        by_cases hodd : k % 2 = 0
        · rw [if_pos hodd] at hxr
          rw [hxr] at hq hx hpu hh
          have hmod : (k : Int) % 2 = 0 := by omega
          generalize ys.getD (k + 1) z32 = x at *
          have Hq := Lib.hid hq
          have Hpu := Lib.hid hpu
          clear hrng hup hB hrow hpr hpu hq hrd hxr hodd
          go_wp2_with (first | (refine wpList_load_mid rfl 26 (.tmp 42) rfl b _ rfl (sumC x) _ Hq.out und32 rfl (by rw [sumC_len]; kernel_rfl) ?_) | (refine wpList_build1 rfl 35 26 (.tmp 43) rfl _ i0 _ 32 Tryd.underlying35 hi0 hz0 hz1 (by omega) (by omega) rfl (sumV_size hh) ?_) | (at_builtin; refine wpList_append_own _ rfl (.tmp 38) (.tmp 44) 35 rfl w.heap.size 26 i0 (.agg zero32) 32 32 Tryd.underlying35 hi0 hz0 hz1 hz2 rfl (by decide) _ _ _ rfl (Hrow.out.alloc _) ⟨wr.heap.size, 0, none⟩ 1 1 (x.1.map byteV) rfl (by rw [List.length_map, hh]) (cells_new _ _ _) (oneB _) (by unfold maxLen; omega) (by omega) (by simp; omega) ?_; intro v' w3 hown' hgrow _))
          have hB3 : Below w.heap.size w w3 := (HB.out.alloc hsz _).grown hgrow (by simp; omega) (fun k' e' => ((Hrow.out.alloc (.cells (x.1.map byteV).toArray 26)).lt k' e').1)
          have Hown := Lib.hid hown'
          refine (Hup.out w3 (grownBy_of_alloc hgrow) hB3).mono ?_
          rintro e w4 ⟨A4, c4, rfl, hc4, hrd4, hb4, hnew4⟩
          have Hrd4 := Lib.hid hrd4
          have Hb4 := Lib.hid hb4
          have HB3 := Lib.hid hB3
          have hs3 := hB3.size
          clear hrd4 hb4 hown' hgrow hB3
          go_wp2_with fail
          refine ⟨⟨k / 2, (n + 1) / 2, c4, A4, upL ys, out ++ [x], by go_num, rfl, by omega, by rw [List.length_append, List.length_singleton]; omega, Hrd4.out, ?_, ?_, HB3.out.trans (Hb4.out.mono hs3), ?_⟩, by simp only [slLen]; omega⟩
          · rw [List.length_append, List.flatMap_append, List.flatMap_cons, List.flatMap_nil, List.append_nil]
            exact ownsRow_below Hown.out Hb4.out
          · rw [List.append_assoc, ← Hpu.out]; exact Hpr.out
          · intro b' off' e e'
            have := hnew4 b' off' e
            have := (Hown.out.lt b' e').2
            omega
        · rw [if_neg hodd] at hxr
          rw [hxr] at hq hx hpu hh
          obtain ⟨q, rfl⟩ : ∃ q, k = q + 1 := ⟨k - 1, by omega⟩
          rw [Nat.add_sub_cancel] at hq hx hpu hh
          have hmod : ((q : Int) + 1) % 2 = 1 := by omega
          generalize ys.getD q z32 = x at *
          have Hq := Lib.hid hq
          have Hpu := Lib.hid hpu
          clear hrng hup hB hrow hpr hpu hq hrd hxr hodd
          go_wp2_with (first | (refine wpList_load_mid rfl 26 (.tmp 29) rfl b _ rfl (sumC x) _ Hq.out und32 rfl (by rw [sumC_len]; kernel_rfl) ?_) | (refine wpList_build1 rfl 35 26 (.tmp 30) rfl _ i0 _ 32 Tryd.underlying35 hi0 hz0 hz1 (by omega) (by omega) rfl (sumV_size hh) ?_) | (at_builtin; refine wpList_append_own _ rfl (.tmp 25) (.tmp 31) 35 rfl w.heap.size 26 i0 (.agg zero32) 32 32 Tryd.underlying35 hi0 hz0 hz1 hz2 rfl (by decide) _ _ _ rfl (Hrow.out.alloc _) ⟨wr.heap.size, 0, none⟩ 1 1 (x.1.map byteV) rfl (by rw [List.length_map, hh]) (cells_new _ _ _) (oneB _) (by unfold maxLen; omega) (by omega) (by simp; omega) ?_; intro v' w3 hown' hgrow _))
          have hB3 : Below w.heap.size w w3 := (HB.out.alloc hsz _).grown hgrow (by simp; omega) (fun k' e' => ((Hrow.out.alloc (.cells (x.1.map byteV).toArray 26)).lt k' e').1)
          have Hown := Lib.hid hown'
          refine (Hup.out w3 (grownBy_of_alloc hgrow) hB3).mono ?_
          rintro e w4 ⟨A4, c4, rfl, hc4, hrd4, hb4, hnew4⟩
          have Hrd4 := Lib.hid hrd4
          have Hb4 := Lib.hid hb4
          have HB3 := Lib.hid hB3
          have hs3 := hB3.size
          clear hrd4 hb4 hown' hgrow hB3
          go_wp2_with fail
          refine ⟨⟨(q + 1) / 2, (n + 1) / 2, c4, A4, upL ys, out ++ [x], by go_num, rfl, by omega, by rw [List.length_append, List.length_singleton]; omega, Hrd4.out, ?_, ?_, HB3.out.trans (Hb4.out.mono hs3), ?_⟩, by simp only [slLen]; omega⟩
          · rw [List.length_append, List.flatMap_append, List.flatMap_cons, List.flatMap_nil, List.append_nil]
            exact ownsRow_below Hown.out Hb4.out
          · rw [List.append_assoc, ← Hpu.out]; exact Hpr.out
          · intro b' off' e e'
            have := hnew4 b' off' e
            have := (Hown.out.lt b' e').2
            omega
      · rw [if_neg hx, List.nil_append] at hpu
        have hodd : k % 2 = 0 := by split at hxr <;> omega
        rw [if_pos hodd] at hxr
        rw [hxr] at hx
        have hmod : (k : Int) % 2 = 0 := by omega
        have Hpu := Lib.hid hpu
        clear hrng hup hB hrow hpr hpu hrd hxr hodd
        go_wp2_with fail
        refine (Hup.out wr ⟨rfl, rfl, rfl, Nat.le_refl _, fun _ _ _ => rfl⟩ HB.out).mono ?_
        rintro e w4 ⟨A4, c4, rfl, hc4, hrd4, hb4, hnew4⟩
        have Hrd4 := Lib.hid hrd4
        have Hb4 := Lib.hid hb4
        clear hrd4 hb4
        go_wp2_with fail
        refine ⟨⟨k / 2, (n + 1) / 2, c4, A4, upL ys, out, by go_num, rfl, by omega, by omega, Hrd4.out, ownsRow_below Hrow.out Hb4.out, by rw [← Hpu.out]; exact Hpr.out, HB.out.trans (Hb4.out.mono hsz), ?_⟩, by simp only [slLen]; omega⟩
        intro b' off' e e'
        have := hnew4 b' off' e
        have := (Hrow.out.lt b' e').2
        omega
    · obtain rfl : n = 1 := by omega
      rw [proofL_one ys k (by omega), List.append_nil] at hpr
      obtain ⟨Ao, co, rfl⟩ := ownsRow_slice hrow
      have hcc := ownsRow_cap hrow
      have Hrow := Lib.hid hrow
      have Hpr := Lib.hid hpr
      have HB := Lib.hid hB
      clear hrow hpr hB hrd
      go_wp2_with fail
      go_ret2
      exact ⟨Ao, _, co, rfl, hcc, by rw [← Hpr.out]; exact TRd.of_own Hrow.out, HB.out, fun b off e => (Hrow.out.lt b (by rw [e]; rfl)).1⟩
theorem RProof_any (A : Option Addr) (len cap i : Nat) (cs : List (List UInt8)) (w : World) (hr : Lst w A len cs) (hlen : len ≤ 1000000) (hcs : ∀ c ∈ cs, c.length ≤ 8796093021000) (hi : i < len) :
    Calls Tryd.prog 41 #[.slice A len cap, .int .i64 (i : Int)] w fun e w' => ∃ A' n' c', e = .returned (.tuple #[.slice A' n' c', .int .i64 0]) ∧ n' ≤ c' ∧ Rd w' 32 A' n' ((proofL (cs.map leafS) i).flatMap sumC) ∧ Below w.heap.size w w' ∧ (∀ b off, A' = some ⟨b, off, none⟩ → w.heap.size ≤ b) :=
  (RProof_typed A len cap i cs w hr hlen hcs hi).mono fun _ _ ⟨A', n', c', h1, h2, h3, h4⟩ => ⟨A', n', c', h1, h2, h3.1, h4⟩
end

section
open Go.RowKit Go.Sort

def sidesF : Nat → Nat → Nat → List Nat
  | 0, _, _ => []
  | f + 1, n, i => if n ≤ 1 then [] else (if i % 2 = 1 then [1] else if i + 1 < n then [2] else []) ++ sidesF f ((n + 1) / 2) (i / 2)
def sidesL (n i : Nat) : List Nat := sidesF n n i
theorem sidesF_one : ∀ (f n i : Nat), n ≤ 1 → sidesF f n i = []
  | 0, _, _, _ => rfl
  | f + 1, n, i, h => by rw [sidesF, if_pos h]
theorem sidesF_fuel : ∀ (f g n i : Nat), n ≤ f → n ≤ g → sidesF f n i = sidesF g n i
  | 0, g, n, i, h, _ => by rw [sidesF_one g n i (by omega)]; rfl
  | f + 1, 0, n, i, _, h => by rw [sidesF_one (f + 1) n i (by omega)]; rfl
  | f + 1, g + 1, n, i, h, h' => by
    by_cases h1 : n ≤ 1
    · rw [sidesF_one _ _ _ h1, sidesF_one _ _ _ h1]
    · rw [sidesF, sidesF, if_neg h1, if_neg h1, sidesF_fuel f g _ _ (by omega) (by omega)]
theorem sidesL_one (n i : Nat) (h : n ≤ 1) : sidesL n i = [] := sidesF_one _ _ _ h
theorem sidesL_up (n i : Nat) (h : 1 < n) : sidesL n i = (if i % 2 = 1 then [1] else if i + 1 < n then [2] else []) ++ sidesL ((n + 1) / 2) (i / 2) := by
  unfold sidesL
  rw [show sidesF n n i = sidesF ((n - 1) + 1) n i from by rw [show n - 1 + 1 = n from by omega], sidesF, if_neg (by omega), sidesF_fuel (n - 1) _ _ _ (by omega) (Nat.le_refl _)]
def foldS : List Nat → Sum32 → List Sum32 → Option Sum32
  | [], x, [] => some x
  | s :: ss, x, h :: t => foldS ss (if s = 1 then pairS h x else pairS x h) t
  | _, _, _ => none
theorem foldS_len : ∀ (ss : List Nat) (x : Sum32) (p : List Sum32), ss.length ≠ p.length → foldS ss x p = none
  | [], x, [], h => absurd rfl h
  | [], x, _ :: _, _ => rfl
  | _ :: _, x, [], _ => rfl
  | s :: ss, x, a :: t, h => by rw [foldS]; exact foldS_len ss _ t (by simpa using h)
theorem chk_sides (f : Nat) : ∀ (n i : Nat) (x : Sum32) (p : List Sum32), n ≤ f → i < n → chkL n i x p = foldS (sidesL n i) x p := by
  induction f with
  | zero => intro n i x p h hi; omega
  | succ f ih =>
    intro n i x p hf hi
    by_cases h1 : n ≤ 1
    · rw [chkL_one n i x p h1, sidesL_one n i h1]
      cases p <;> simp [foldS]
    · have hx := xor1_cases i
      rw [sidesL_up n i (by omega)]
      by_cases hodd : i % 2 = 1
      · rw [if_pos hodd]
        rw [if_neg (by omega)] at hx
        cases p with
        | nil => rw [chkL_nil n i x (by omega) (by omega)]; rfl
        | cons a t =>
          rw [chkL_cons n i x a t (by omega) (by omega), if_pos hodd, ih _ _ _ _ (by omega) (by omega)]
          rfl
      · rw [if_neg hodd]
        rw [if_pos (by omega)] at hx
        by_cases hl : i + 1 < n
        · rw [if_pos hl]
          cases p with
          | nil => rw [chkL_nil n i x (by omega) (by omega)]; rfl
          | cons a t =>
            rw [chkL_cons n i x a t (by omega) (by omega), if_neg hodd, ih _ _ _ _ (by omega) (by omega)]
            rfl
        · rw [if_neg hl, chkL_skip n i x p (by omega) (by omega), ih _ _ _ _ (by omega) (by omega)]
          rfl

def natV (k : Nat) : Value := .int .i64 (k : Int)
theorem oneN (ks : List Nat) : ∀ u ∈ ks.map natV, u.oneCell' = true := fun u hu => by
  obtain ⟨k, _, rfl⟩ := List.mem_map.1 hu
  rfl
theorem info3 : (Tryd.prog.info? 3).map (fun i => (i.zero, i.size, i.bytes)) = some (some (.int .i64 0), 1, 8) := by kernel_rfl
theorem und65 : Tryd.prog.underlying 52 = some (.slice 3) := by kernel_rfl
theorem lit_rdE (w : World) (v : Value) (e : TypeId) : Rd (w.alloc (.cells #[v] e)) 1 (some ⟨w.heap.size, 0, none⟩) 1 [v] :=
  ⟨rfl, by omega, fun _ => ⟨_, _, rfl, fun j u hu => by have := cells_new w [v] e j u hu; rwa [Addr.add_mid] at this⟩⟩
theorem App.litE {w : World} {base n : Nat} {e : TypeId} {v : Value} {xs : List Value} (h : App w base e v n xs) (o : Obj) : App (w.alloc o) base e v n xs := h.below ((Below.refl w.heap.size w).alloc (Nat.le_refl _) o) (Nat.le_refl _)

set_option maxRecDepth 100000 in
set_option maxHeartbeats 1000000 in
theorem RSides_typed (n i : Nat) (hn : n ≤ 1000) (hi : i < n) (w : World) :
    Calls Tryd.prog 58 #[.int .i64 (n : Int), .int .i64 (i : Int)] w fun e w' => ∃ A' c', e = .returned (.slice A' (sidesL n i).length c') ∧ TRd w' 3 1 A' (sidesL n i).length ((sidesL n i).map natV) ∧ Below w.heap.size w w' := by
  obtain ⟨i0, hi0, hz0, hz1, hz2⟩ := info_parts info3
  obtain ⟨tgt, htgt⟩ : ∃ t, sidesL n i = t := ⟨_, rfl⟩
  rw [htgt]
  have Htg := Lib.hid htgt
  clear htgt
  go_enter Tryd.func58, Tryd.ntmps58
  go_wp2_with fail
  go_loopw [0, 1, 5] (fun vn vi vo wr => ∃ (k j : Nat) (out : List Nat), vn = .int .i64 (k : Int) ∧ vi = .int .i64 (j : Int) ∧ j < k ∧ out.length + k ≤ n ∧ out ++ sidesL k j = tgt ∧ App wr w.heap.size 3 vo out.length (out.map natV) ∧ Below w.heap.size w wr) (fun vn _ _ _ => (intOf vn).toNat)
  case atStart => exact ⟨n, i, [], rfl, rfl, hi, by simp, by simpa using Htg.out, .inl ⟨rfl, rfl, _, rfl⟩, (Below.refl _ _).alloc (Nat.le_refl _) _⟩
  case round =>
    obtain ⟨k, j, out, rfl, rfl, hjk, hok, hpr, happ, hB⟩ := hrel
    have hsz := hB.size
    by_cases h1 : 1 < k
    · have hup := sidesL_up k j h1
      have HB := Lib.hid hB
      have Happ := Lib.hid happ
      have Hpr := Lib.hid hpr
      by_cases hodd : j % 2 = 1
      · rw [if_pos hodd] at hup
        have hmod : (j : Int) % 2 = 1 := by omega
        have Hup := Lib.hid hup
        clear hup hB happ hpr hodd
        go_wp2_with (at_builtin; refine wpList_app rfl (.tmp 12) (.tmp 13) 52 rfl 3 i0 (.int .i64 0) 8 und65 hi0 hz0 hz1 hz2 rfl w.heap.size (by simp; omega) _ _ _ rfl (Happ.out.litE _) (some ⟨wr.heap.size, 0, none⟩) 1 1 [natV 1] rfl (lit_rdE _ _ _) (by simp [natV, Value.oneCell']) (by unfold maxLen; omega) (by omega) ?_; intro v1 w3 happ1 hb1)
        refine ⟨⟨(k + 1) / 2, j / 2, out ++ [1], by go_num, by go_num, by omega, by rw [List.length_append, List.length_singleton]; omega, by rw [List.append_assoc, ← Hup.out]; exact Hpr.out, ?_, (HB.out.alloc hsz _).trans hb1⟩, by simp [intOf]; omega⟩
        rw [List.map_append, List.length_append]
        exact happ1
      · rw [if_neg hodd] at hup
        have hmod : (j : Int) % 2 = 0 := by omega
        by_cases hl : j + 1 < k
        · rw [if_pos hl] at hup
          have Hup := Lib.hid hup
          clear hup hB happ hpr hodd
          go_wp2_with (at_builtin; refine wpList_app rfl (.tmp 19) (.tmp 20) 52 rfl 3 i0 (.int .i64 0) 8 und65 hi0 hz0 hz1 hz2 rfl w.heap.size (by simp; omega) _ _ _ rfl (Happ.out.litE _) (some ⟨wr.heap.size, 0, none⟩) 1 1 [natV 2] rfl (lit_rdE _ _ _) (by simp [natV, Value.oneCell']) (by unfold maxLen; omega) (by omega) ?_; intro v1 w3 happ1 hb1)
          refine ⟨⟨(k + 1) / 2, j / 2, out ++ [2], by go_num, by go_num, by omega, by rw [List.length_append, List.length_singleton]; omega, by rw [List.append_assoc, ← Hup.out]; exact Hpr.out, ?_, (HB.out.alloc hsz _).trans hb1⟩, by simp [intOf]; omega⟩
          rw [List.map_append, List.length_append]
          exact happ1
        · rw [if_neg hl, List.nil_append] at hup
          have Hup := Lib.hid hup
          clear hup hB happ hpr hodd
          go_wp2_with fail
          exact ⟨⟨(k + 1) / 2, j / 2, out, by go_num, by go_num, by omega, by omega, by rw [← Hup.out]; exact Hpr.out, Happ.out, HB.out⟩, by simp [intOf]; omega⟩
    · rw [sidesL_one k j (by omega), List.append_nil] at hpr
      subst hpr
      obtain ⟨A', c', rfl, _, hR⟩ := happ.trd
      have HB := Lib.hid hB
      have HR := Lib.hid hR
      clear hB hR happ
      go_wp2_with fail
      go_ret
      exact ⟨A', c', rfl, HR.out, HB.out⟩
theorem RSides_any (n i : Nat) (hn : n ≤ 1000) (hi : i < n) (w : World) :
    Calls Tryd.prog 58 #[.int .i64 (n : Int), .int .i64 (i : Int)] w fun e w' => ∃ A' c', e = .returned (.slice A' (sidesL n i).length c') ∧ Rd w' 1 A' (sidesL n i).length ((sidesL n i).map natV) ∧ Below w.heap.size w w' :=
  (RSides_typed n i hn hi w).mono fun _ _ ⟨A', c', h1, h2, h3⟩ => ⟨A', c', h1, h2.1, h3⟩
end

section
open Go.RowKit Go.Sort

def claimV (n i : Int) (A : Option Addr) (len cap : Nat) (B : Option Addr) (m c : Nat) : Array Value := #[.int .i64 n, .int .i64 i, .slice A len cap, .slice B m c]
theorem foldS_step (ss : List Nat) (p : List Sum32) (k s : Nat) (a x : Sum32) (hs : ss[k]? = some s) (ha : p[k]? = some a) :
    foldS (ss.drop k) x (p.drop k) = foldS (ss.drop (k + 1)) (if s = 1 then pairS a x else pairS x a) (p.drop (k + 1)) := by
  have h1 := (List.getElem?_eq_some_iff.1 hs)
  have h2 := (List.getElem?_eq_some_iff.1 ha)
  obtain ⟨l1, e1⟩ := h1
  obtain ⟨l2, e2⟩ := h2
  rw [List.drop_eq_getElem_cons l1, List.drop_eq_getElem_cons l2, e1, e2]
  rfl

set_option maxRecDepth 100000 in
set_option maxHeartbeats 1000000 in
theorem RCheck_bad (rt : Sum32) (n i : Int) (A B : Option Addr) (len cap m c : Nat) (hi : i < 0 ∨ n ≤ i) (w : World) :
    Calls Tryd.prog 45 #[.agg (sumC rt).toArray, .agg (claimV n i A len cap B m c)] w fun e w' => e = .returned (.bool false) ∧ Below w.heap.size w w' := by
  have hB : Below w.heap.size w ((w.alloc (.cells (sumC rt).toArray 26)).alloc (.cells (claimV n i A len cap B m c) 77)) := ((Below.refl _ _).alloc (Nat.le_refl _) _).alloc (by simp) _
  have hC1 : Blk ((w.alloc (.cells (sumC rt).toArray 26)).alloc (.cells (claimV n i A len cap B m c) 77)) (w.heap.size + 1) 77 (claimV n i A len cap B m c) := by
    have := Blk.new (w.alloc (.cells (sumC rt).toArray 26)) 77 (claimV n i A len cap B m c)
    rwa [World.size_alloc] at this
  have HB := Lib.hid hB
  clear hB
  go_enter Tryd.func45, Tryd.ntmps45
  go_upto_region 1 with fail
  obtain ⟨w1, hw1⟩ : ∃ w1, w1 = (w.alloc (.cells (sumC rt).toArray 26)).alloc (.cells (claimV n i A len cap B m c) 77) := ⟨_, rfl⟩
  rw [← hw1] at hC1 HB
  rw [← hw1]
  clear hw1
  have c0 : w1.cell? ⟨w.heap.size + 1, 0, none⟩ = some (.int .i64 n) := by rw [hC1.cell]; rfl
  have c1 : w1.cell? ⟨w.heap.size + 1, 1, none⟩ = some (.int .i64 i) := by rw [hC1.cell]; rfl
  clear hC1
  by_cases h0 : i < 0
  · go_wp2_with fail
    go_ret
    exact ⟨rfl, HB.out⟩
  · have h1 : n ≤ i := by omega
    clear hi
    go_wp2_with fail
    go_ret
    exact ⟨rfl, HB.out⟩

set_option maxRecDepth 100000 in
set_option maxHeartbeats 2000000 in
theorem RCheck_any (rt : Sum32) (n i : Nat) (A B : Option Addr) (len cap m c : Nat) (bs : List UInt8) (p : List Sum32) (hi : i < n) (hn : n ≤ 1000) (w : World) (hr : Rd w 1 A len (bs.map byteV)) (hlen : len ≤ 8796093021000) (hp : Rd w 32 B m (p.flatMap sumC)) :
    Calls Tryd.prog 45 #[.agg (sumC rt).toArray, .agg (claimV n i A len cap B m c)] w fun e w' => e = .returned (.bool (decide (chkL n i (leafS bs) p = some rt))) ∧ Below w.heap.size w w' := by
  obtain ⟨i32, hi32, hz32, _, _⟩ := info_parts info32
  rw [chk_sides n n i (leafS bs) p (Nat.le_refl _) hi]
  obtain ⟨res, hres⟩ : ∃ r, decide (foldS (sidesL n i) (leafS bs) p = some rt) = r := ⟨_, rfl⟩
  rw [hres]
  have hpl := hp.lenf sumC_len (by omega)
  have hml := hp.le
  have hB : Below w.heap.size w ((w.alloc (.cells (sumC rt).toArray 26)).alloc (.cells (claimV n i A len cap B m c) 77)) := ((Below.refl _ _).alloc (Nat.le_refl _) _).alloc (by simp) _
  have hR1 : Blk ((w.alloc (.cells (sumC rt).toArray 26)).alloc (.cells (claimV n i A len cap B m c) 77)) w.heap.size 26 (sumC rt).toArray := (Blk.new _ _ _).alloc _
  have hC1 : Blk ((w.alloc (.cells (sumC rt).toArray 26)).alloc (.cells (claimV n i A len cap B m c) 77)) (w.heap.size + 1) 77 (claimV n i A len cap B m c) := by
    have := Blk.new (w.alloc (.cells (sumC rt).toArray 26)) 77 (claimV n i A len cap B m c)
    rwa [World.size_alloc] at this
  go_enter Tryd.func45, Tryd.ntmps45
  go_upto_region 1 with fail
  obtain ⟨w1, hw1⟩ : ∃ w1, w1 = (w.alloc (.cells (sumC rt).toArray 26)).alloc (.cells (claimV n i A len cap B m c) 77) := ⟨_, rfl⟩
  rw [← hw1] at hC1 hB hR1
  rw [← hw1]
  clear hw1
  have hcell : ∀ W, Below w1.heap.size w1 W → W.cell? ⟨w.heap.size + 1, 0, none⟩ = some (.int .i64 n) ∧ W.cell? ⟨w.heap.size + 1, 1, none⟩ = some (.int .i64 i) ∧ W.cell? ⟨w.heap.size + 1, 2, none⟩ = some (.slice A len cap) ∧ W.cell? ⟨w.heap.size + 1, 3, none⟩ = some (.slice B m c) := fun W hW => by
    have h := hC1.below hW hC1.lt
    exact ⟨by rw [h.cell]; rfl, by rw [h.cell]; rfl, by rw [h.cell]; rfl, by rw [h.cell]; rfl⟩
  obtain ⟨c0, c1, -, -⟩ := hcell w1 (Below.refl _ _)
  have hr1 := hr.below hB
  have hp1 := hp.below hB
  have HB1 := Lib.hid hB
  have HR1 := Lib.hid hR1
  have Hr1 := Lib.hid hr1
  have Hp1 := Lib.hid hp1
  have Hc := Lib.hid hcell
  have Hres := Lib.hid hres
  have Hs := Lib.hid (RSides_any n i hn hi)
  have hs1 : w.heap.size + 1 < w1.heap.size := hC1.lt
  clear hB hR1 hC1 hr hp hr1 hp1 hcell hres
  go_wp2_with fail
  refine (Hs.out w1).mono ?_
  rintro e w2 ⟨A5, c5, rfl, hr5, hb2⟩
  have hs2 := hb2.size
  obtain ⟨-, -, k2, k3⟩ := Hc.out w2 hb2
  have Hr5 := Lib.hid hr5
  have Hb2 := Lib.hid hb2
  clear c0 c1 hb2
  have hsl := hr5.le
  clear hr5
  generalize hss : sidesL n i = ss at *
  clear hss Hs
  by_cases hne : ss.length ≠ m
  · have hf : res = false := by
      have := Hres.out
      rw [foldS_len ss _ p (by omega), decide_eq_false (by simp)] at this
      exact this.symm
    clear k2
    go_wp2_with fail
    go_ret
    exact ⟨by rw [hf]; rfl, HB1.out.trans (Hb2.out.mono (by omega))⟩
  · have hm : ss.length = m := by omega
    clear hne
    subst hm
    have hleaf := RLeaf_any A len cap bs w2 (Hr1.out.below Hb2.out) hlen
    have Hleaf := Lib.hid hleaf
    clear hleaf
    go_wp2_with fail
    refine Hleaf.out.mono ?_
    rintro e w3 ⟨rfl, hb3⟩
    have hs3 := hb3.size
    have Hb3 := Lib.hid (Hb2.out.trans (hb3.mono hs2))
    have hlf := leaf_length bs
    have hH3 : (w3.alloc (.cells zero32 26)).heap[w3.heap.size]? = some (.cells zero32 26 (0, 0)) := heap_alloc_new _ _
    have Hr5b := Lib.hid (Hr5.out.below hb3)
    clear k2 k3 hb3
    unfold sumV
    go_wp2_with (first | (refine wpList_alloc0 rfl 26 rfl zero32 (.agg zero32) i32 hi32 hz32 rfl ?_; simp only [Act.put, List.setIfInBounds_toArray, List.set_cons_succ, List.set_cons_zero]) | (refine wpList_store_row rfl 26 (.tmp 6) (.tmp 31) rfl w3.heap.size _ rfl rfl 26 zero32 hH3 (size32 _ (sumV_size hlf)) ((zero32_size).trans (sumV_size hlf).symm) (all_oneCell_toArray (oneB _)) ?_; simp only [Act.put]))
    have hX0 : Blk ((w3.alloc (.cells zero32 26)).setRow w3.heap.size ((leaf bs).map byteV).toArray) w3.heap.size 26 (sumC (leafS bs)).toArray := setRow_heap _ _ _ _ _ _ hH3
    have hB3 : Below w3.heap.size w3 ((w3.alloc (.cells zero32 26)).setRow w3.heap.size ((leaf bs).map byteV).toArray) := Below.setRow ((Below.refl _ _).alloc (Nat.le_refl _) _) (Nat.le_refl _) _
    clear hH3
    have HX0 := Lib.hid hX0
    have HB3 := Lib.hid hB3
    clear hX0 hB3
    generalize hw4 : (w3.alloc (.cells zero32 26)).setRow w3.heap.size ((leaf bs).map byteV).toArray = w4 at *
    clear hw4
    go_wp2_with fail
    go_loopw [7] (fun vk wr => ∃ (k : Nat) (x : Sum32), vk = .int .i64 (k : Int) ∧ k ≤ ss.length ∧ decide (foldS (ss.drop k) x (p.drop k) = some rt) = res ∧ Blk wr w3.heap.size 26 (sumC x).toArray ∧ Below w3.heap.size w3 wr) (fun vk _ => ss.length - (intOf vk).toNat)
    case atStart => exact ⟨0, leafS bs, rfl, by omega, by simpa using Hres.out, HX0.out, HB3.out⟩
    case round =>
      obtain ⟨k, x, rfl, hk, hck, hX, hB⟩ := hrel
      have hb1 : Below w1.heap.size w1 wr := Hb3.out.trans (hB.mono (by omega))
      obtain ⟨k0, k1, k2, k3⟩ := Hc.out wr hb1
      clear k0 k1 k2
      by_cases hlt : k < ss.length
      · obtain ⟨b5, off5, s, rfl, hst, hc5⟩ := (Hr5b.out.below hB).at_ hlt
        obtain ⟨bp, offp, a, hBe, hpt, hcp⟩ := (Hp1.out.below hb1).flat_ sumC_len (by omega) hlt
        subst hBe
        have hcc := foldS_step ss p k s a x hst hpt
        rw [hcc] at hck
        have haa : ∀ w', Ext wr w' → w'.rangeAt bp (offp + k * 32) (sumC a) := fun w' hw' j v hv => by
          have h0 := hcp j v hv
          rw [← Nat.add_assoc] at h0
          exact ((ext_below hw').cell (World.block_lt_of_cell? wr _ h0)).trans h0
        have hxx : ∀ w', Ext wr w' → w'.rangeAt w3.heap.size 0 (sumC x) := fun w' hw' => Blk.range (hX.below (ext_below hw') hX.lt)
        have Ha := Lib.hid haa
        have Hx := Lib.hid hxx
        have HX := Lib.hid hX
        have HB := Lib.hid hB
        have Hb1 := Lib.hid hb1
        have hc5' : wr.cell? ⟨b5, off5 + k, none⟩ = some (.int .i64 (s : Int)) := hc5
        have k3r := cell_regrown k3
        clear haa hxx hb1 hcp hc5 hpt k3
        by_cases hs1 : s = 1
        · subst hs1
          rw [if_pos rfl] at hck
          have Hck2 := Lib.hid hck
          clear hcc hck hX hB hst
          go_wp2_with fail
          refine wp_region_reads_tail 7 [0, 1, 2, 3, 4, 5] 1 (by kernel_rfl) (List.take_append_drop _ _) rfl (by kernel_rfl) (by kernel_rfl) (by kernel_rfl) (by decide) (by kernel_rfl) (by kernel_rfl) (fun _ _ d _ _ h => by cases d <;> exact h) (by kernel_rfl) (by kernel_rfl) rfl ?_
          simp only [List.take_succ_cons, List.take_zero, List.drop_succ_cons, List.drop_zero, pickOps, List.getElem?_cons_zero, List.getElem?_cons_succ]
          repeat (first | go_big_quiet_step (fail) | (refine wpQuiet_load_mid rfl 26 _ rfl bp _ rfl (sumC a) _ Ha.out und32 rfl (by rw [sumC_len]; kernel_rfl) ?_; simp only [Act.put, List.setIfInBounds_toArray, List.set_cons_succ, List.set_cons_zero]) | (refine wpQuiet_load_mid rfl 26 _ rfl w3.heap.size 0 rfl (sumC x) _ Hx.out und32 rfl (by rw [sumC_len]; kernel_rfl) ?_; simp only [Act.put, List.setIfInBounds_toArray, List.set_cons_succ, List.set_cons_zero]))
          refine wpQuiet_nil ?_
          refine wpAnyH_one (i := 6) (by kernel_rfl) rfl ?_
          intro K hK
          go_simp
          have hpair : Calls Tryd.prog 60 #[.agg (sumC a).toArray, .agg (sumC x).toArray] wr.drew fun e w' => e = .returned (sumV (pair a.1 x.1)) ∧ Below wr.drew.heap.size wr.drew w' := RPair_any a.1 x.1 a.2 x.2 wr.drew
          have Hpair := Lib.hid hpair
          clear hpair
          refine Hpair.out.mono ?_
          rintro e W1 ⟨rfl, hb1⟩
          have hB1 : Below wr.heap.size wr W1 := (Below.refl _ wr).drew.trans hb1
          refine hK _ _ (ext_of hB1) ?_
          clear hK K
          refine wpAnyH_done (by kernel_rfl) ?_ _
          have hpl := pair_length a.1 x.1
          have hX1 : Blk W1 w3.heap.size 26 (sumC x).toArray := HX.out.below hB1 HX.out.lt
          simp only [Exit.then]
          unfold sumV
          refine wpList_store_row rfl 26 (.tmp 6) (.tmp 49) rfl _ _ rfl rfl 26 _ hX1 (size32 _ (sumV_size hpl)) ((by simp [sumC, x.2, hpl])) (all_oneCell_toArray (oneB _)) ?_
          have hX2 : Blk (W1.setRow w3.heap.size ((pair a.1 x.1).map byteV).toArray) w3.heap.size 26 (sumC (pairS a x)).toArray := setRow_heap _ _ _ _ _ _ hX1
          have hB2 : Below w3.heap.size w3 (W1.setRow w3.heap.size ((pair a.1 x.1).map byteV).toArray) := Below.setRow (HB.out.trans (hB1.mono HB.out.size)) (Nat.le_refl _) _
          refine wpList_nil ?_
          have HX2 := Lib.hid hX2
          have HB2 := Lib.hid hB2
          clear hX2 hB2 hX1 hB1 hb1
          generalize (W1.setRow w3.heap.size ((pair a.1 x.1).map byteV).toArray) = W2 at *
          simp only [Act.put]
          go_wp2_with fail
          exact ⟨⟨k + 1, pairS a x, by go_num, by omega, Hck2.out, HX2.out, HB2.out⟩, by simp [intOf]; omega⟩
        · rw [if_neg hs1] at hck
          have Hck2 := Lib.hid hck
          clear hcc hck hX hB hst
          go_wp2_with fail
          refine wp_region_reads_tail 7 [0, 1, 2, 3, 4, 5] 1 (by kernel_rfl) (List.take_append_drop _ _) rfl (by kernel_rfl) (by kernel_rfl) (by kernel_rfl) (by decide) (by kernel_rfl) (by kernel_rfl) (fun _ _ d _ _ h => by cases d <;> exact h) (by kernel_rfl) (by kernel_rfl) rfl ?_
          simp only [List.take_succ_cons, List.take_zero, List.drop_succ_cons, List.drop_zero, pickOps, List.getElem?_cons_zero, List.getElem?_cons_succ]
          repeat (first | go_big_quiet_step (fail) | (refine wpQuiet_load_mid rfl 26 _ rfl bp _ rfl (sumC a) _ Ha.out und32 rfl (by rw [sumC_len]; kernel_rfl) ?_; simp only [Act.put, List.setIfInBounds_toArray, List.set_cons_succ, List.set_cons_zero]) | (refine wpQuiet_load_mid rfl 26 _ rfl w3.heap.size 0 rfl (sumC x) _ Hx.out und32 rfl (by rw [sumC_len]; kernel_rfl) ?_; simp only [Act.put, List.setIfInBounds_toArray, List.set_cons_succ, List.set_cons_zero]))
          refine wpQuiet_nil ?_
          refine wpAnyH_one (i := 6) (by kernel_rfl) rfl ?_
          intro K hK
          go_simp
          have hpair : Calls Tryd.prog 60 #[.agg (sumC x).toArray, .agg (sumC a).toArray] wr.drew fun e w' => e = .returned (sumV (pair x.1 a.1)) ∧ Below wr.drew.heap.size wr.drew w' := RPair_any x.1 a.1 x.2 a.2 wr.drew
          have Hpair := Lib.hid hpair
          clear hpair
          refine Hpair.out.mono ?_
          rintro e W1 ⟨rfl, hb1⟩
          have hB1 : Below wr.heap.size wr W1 := (Below.refl _ wr).drew.trans hb1
          refine hK _ _ (ext_of hB1) ?_
          clear hK K
          refine wpAnyH_done (by kernel_rfl) ?_ _
          have hpl := pair_length x.1 a.1
          have hX1 : Blk W1 w3.heap.size 26 (sumC x).toArray := HX.out.below hB1 HX.out.lt
          simp only [Exit.then]
          unfold sumV
          refine wpList_store_row rfl 26 (.tmp 6) (.tmp 56) rfl _ _ rfl rfl 26 _ hX1 (size32 _ (sumV_size hpl)) ((by simp [sumC, x.2, hpl])) (all_oneCell_toArray (oneB _)) ?_
          have hX2 : Blk (W1.setRow w3.heap.size ((pair x.1 a.1).map byteV).toArray) w3.heap.size 26 (sumC (pairS x a)).toArray := setRow_heap _ _ _ _ _ _ hX1
          have hB2 : Below w3.heap.size w3 (W1.setRow w3.heap.size ((pair x.1 a.1).map byteV).toArray) := Below.setRow (HB.out.trans (hB1.mono HB.out.size)) (Nat.le_refl _) _
          refine wpList_nil ?_
          have HX2 := Lib.hid hX2
          have HB2 := Lib.hid hB2
          clear hX2 hB2 hX1 hB1 hb1
          generalize (W1.setRow w3.heap.size ((pair x.1 a.1).map byteV).toArray) = W2 at *
          simp only [Act.put]
          go_wp2_with fail
          exact ⟨⟨k + 1, pairS x a, by go_num, by omega, Hck2.out, HX2.out, HB2.out⟩, by simp [intOf]; omega⟩
      · have hk' : k = ss.length := by omega
        have hnil : foldS (ss.drop k) x (p.drop k) = some x := by
          rw [List.drop_of_length_le (by omega), List.drop_of_length_le (by omega)]; rfl
        rw [hnil] at hck
        have hres2 : decide (x = rt) = res := by rw [← hck]; simp
        have hE := run_eql_sum x rt
        have hxr : wr.rangeAt w3.heap.size 0 (sumC x) := Blk.range hX
        have hrr : wr.rangeAt w.heap.size 0 (sumC rt) := Blk.range (HR1.out.below hb1 (by omega))
        have Hxr := Lib.hid hxr
        have Hrr := Lib.hid hrr
        have Hr := Lib.hid hres2
        have Hb1 := Lib.hid hb1
        clear hxr hrr hX hB hck hnil hres2 hb1 k3
        subst hk'
        go_wp2_with (first | (refine wpList_load_mid_g (by first | rfl | simp [Region.wanted, yielded]) 26 (.tmp 6) rfl w3.heap.size 0 rfl (sumC x) _ Hxr.out und32 rfl (by rw [sumC_len]; kernel_rfl) ?_) | (refine wpList_load_mid_g (by first | rfl | simp [Region.wanted, yielded]) 26 (.tmp 2) rfl w.heap.size 0 rfl (sumC rt) _ Hrr.out und32 rfl (by rw [sumC_len]; kernel_rfl) ?_))
        go_ret
        exact ⟨by rw [← Hr.out]; rfl, HB1.out.trans (Hb1.out.mono (by omega))⟩
end

section
open Go.RowKit Go.Sort

theorem flat_set {α β : Type} {f : α → List β} {sz : Nat} (hf : ∀ x, (f x).length = sz) : ∀ (xs : List α) (q r : Nat) (x y : α) (u : β), xs[q]? = some x → r < sz → f y = (f x).set r u → (xs.flatMap f).set (q * sz + r) u = (xs.set q y).flatMap f
  | [], q, r, x, y, u, h, _, _ => by simp at h
  | z :: zs, 0, r, x, y, u, h, hr, hy => by
    simp at h; subst h
    simp only [List.flatMap_cons, List.set_cons_zero, Nat.zero_mul, Nat.zero_add]
    rw [List.set_append_left _ _ (by rw [hf]; exact hr), hy]
  | z :: zs, q + 1, r, x, y, u, h, hr, hy => by
    simp at h
    simp only [List.flatMap_cons, List.set_cons_succ]
    rw [List.set_append_right _ _ (by rw [hf, Nat.add_mul]; omega), hf, show (q + 1) * sz + r - sz = q * sz + r from by rw [Nat.add_mul]; omega, flat_set hf zs q r x y u h hr hy]
def setS (x : Sum32) (r : Nat) (b : UInt8) : Sum32 := ⟨x.1.set r b, by rw [List.length_set]; exact x.2⟩
theorem sumC_setS (x : Sum32) (r : Nat) (b : UInt8) : sumC (setS x r b) = (sumC x).set r (byteV b) := by
  unfold sumC setS
  rw [List.map_set]
theorem ownsRow_set {w : World} {base : Nat} {e : TypeId} {sz : Nat} {v : Value} {n : Nat} {xs : List Value} (h : w.ownsRow base e sz v n xs) {g : Nat} (hg : v.ownBlock = some g) (i : Nat) (u : Value) :
    (w.setCell ⟨g, i, none⟩ u).ownsRow base e sz v n (xs.set i u) := by
  rcases h with ⟨hl, ⟨rfl, _⟩ | ⟨g', cap, cur, rfl, hb, hgg, hnc, hcm, hcs, ht⟩⟩
  · cases hg
  · simp only [Value.ownBlock, Option.some.injEq] at hg
    subst hg
    refine ⟨by rw [List.length_set]; exact hl, .inr ⟨g', cap, cur.setIfInBounds i u, rfl, hb, heap_setCell_same w g' i cur e u hgg, hnc, hcm, by simpa using hcs, ?_⟩⟩
    rw [Array.toList_setIfInBounds, List.take_set, ht]
theorem ownsRow_blk {w : World} {base : Nat} {e : TypeId} {sz : Nat} {g n c : Nat} {xs : List Value} (h : w.ownsRow base e sz (.slice (some ⟨g, 0, none⟩) n c) n xs) : ∃ cur, Blk w g e cur := by
  rcases h with ⟨_, ⟨hv, _⟩ | ⟨g', cap, cur, hv, hb, hgg, _⟩⟩
  · cases hv
  · cases hv
    exact ⟨cur, hgg⟩
theorem AppZ.blk {w : World} {base : Nat} {e : TypeId} {sz n c g o : Nat} {xs : List Value} (h : AppZ w base e sz (.slice (some ⟨g, o, none⟩) n c) n xs) (hn : 0 < n) : ∃ cur, Blk w g e cur := by
  rcases h with ⟨rfl, _⟩ | ⟨_, ⟨hv, _⟩ | ⟨g', cap, cur, hv, hb, hgg, _⟩⟩
  · omega
  · cases hv
  · cases hv
    exact ⟨cur, hgg⟩
theorem Blk.ne {w : World} {g g' : Nat} {t t' : TypeId} {cs cs' : Array Value} (h : Blk w g t cs) (h' : Blk w g' t' cs') (hne : t ≠ t') : g ≠ g' := by
  rintro rfl
  unfold Blk at h h'
  rw [h] at h'
  cases h'
  exact hne rfl
theorem Blk.drewN {w : World} {g : Nat} {t : TypeId} {cs : Array Value} (h : Blk w g t cs) (k : Nat) : Blk (w.drewN k) g t cs := h
theorem Rd.head32 {w : World} {n m : Nat} {A : Option Addr} {xs : List Sum32} (h : Rd w 32 A n (xs.flatMap sumC)) (hm : m ≤ n) : Rd w 32 A m ((xs.take m).flatMap sumC) := by
  have hl := h.lenf sumC_len (by omega)
  refine ⟨by rw [flat_length sumC_len, List.length_take]; congr 1; omega, by have := h.le; omega, fun hp => ?_⟩
  obtain ⟨b, off, e, hc⟩ := h.2.2 (by omega)
  refine ⟨b, off, e, fun j u hu => hc j u ?_⟩
  rw [show xs.flatMap sumC = (xs.take m).flatMap sumC ++ (xs.drop m).flatMap sumC from by rw [← List.flatMap_append, List.take_append_drop]]
  rw [List.getElem?_append_left (List.getElem?_eq_some_iff.1 hu).1]
  exact hu
theorem w8_xor (x y : UInt8) : bits .xor .u8 (x.toNat : Int) (y.toNat : Int) = ((x ^^^ y).toNat : Int) := by
  rw [u8_xor_nat _ _ x.toNat_lt y.toNat_lt, UInt8.toNat_xor]
theorem oneP (p : List Sum32) : ∀ u ∈ p.flatMap sumC, u.oneCell' = true := fun u hu => by obtain ⟨x, _, hx⟩ := List.mem_flatMap.1 hu; exact oneB _ u hx
end

end Go.Proofs.YtfdhiilhjfbehaaDoor
