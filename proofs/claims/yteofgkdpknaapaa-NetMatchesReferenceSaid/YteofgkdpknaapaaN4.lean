/- Package net: the reader's take and one. -/
import Derived.Test.YteofgkdpknaapaaN05
import Derived.Test.YteofgkdpknaapaaN3
namespace Go.Proofs.Yteofgkdpknaapaa
open Go.RowKit Go.Sort

/-- What a reader stops with. -/
def dmg : List PanicEntry := [{ v := .iface 75 (.agg #[]), recovered := false }]
/-- Where a slice begins whose first bytes are taken off. -/
def dropA (A : Option Addr) (c i : Nat) : Option Addr := if c = i then A else A.map (·.add (i * 1))
theorem rd_pre {w : World} {A : Option Addr} {n i : Nat} {bs : List UInt8} (h : Rd w 1 A n (bs.map byteV)) (hi : i ≤ n) : Rd w 1 A i ((bs.take i).map byteV) := by
  have hl := h.len1
  refine ⟨by rw [List.length_map, List.length_take]; omega, by have := h.le; omega, fun h0 => ?_⟩
  obtain ⟨b, off, e, hc⟩ := h.2.2 (by omega)
  refine ⟨b, off, e, fun j u hj => hc j u ?_⟩
  rw [List.map_take, List.getElem?_take] at hj
  split at hj
  · exact hj
  · simp at hj
theorem rd_post {w : World} {A : Option Addr} {n i c : Nat} {bs : List UInt8} (h : Rd w 1 A n (bs.map byteV)) (hi : i ≤ n) (hc : n ≤ c) : Rd w 1 (dropA A c i) (n - i) ((bs.drop i).map byteV) := by
  have hl := h.len1
  refine ⟨by rw [List.length_map, List.length_drop]; omega, by have := h.le; omega, fun h0 => ?_⟩
  obtain ⟨b, off, e, hk⟩ := h.2.2 (by omega)
  refine ⟨b, off + i, ?_, fun j u hj => ?_⟩
  · unfold dropA
    rw [if_neg (by omega), e, Option.map_some]
    congr 1
    unfold Addr.add
    split <;> simp_all
  · have := hk (i + j) u (by rw [List.map_drop, List.getElem?_drop] at hj; exact hj)
    rwa [← Nat.add_assoc] at this
theorem run_slice_pre (A : Option Addr) (n c i : Nat) (hi : i ≤ c) (w : World) : (Instr.slice 26 (.slice A n c) none (some (.int .i64 (i : Int))) none).run Try.prog w = .ok (.slice A i c) w := by
  obtain ⟨iE, hi', _⟩ := info_parts info5
  rw [run_slice_h (P := Try.prog) w 26 A n c und22 .i64 (i : Int) (by omega) (by omega), elem22, run_sizeOf w hi', size22']
  have hA : (if c = 0 then A else A.map (·.add (0 * 1))) = A := by
    split
    · rfl
    · cases A with
      | none => rfl
      | some a => rw [Option.map_some, Nat.zero_mul]; rfl
  simp only [Result.andThen_ok, sliced, Int.toNat_natCast]
  rw [hA, Nat.sub_zero, Nat.sub_zero]
theorem run_slice_post (A : Option Addr) (n c i : Nat) (hi : i ≤ n) (w : World) : (Instr.slice 26 (.slice A n c) (some (.int .i64 (i : Int))) none none).run Try.prog w = .ok (.slice (dropA A c i) (n - i) (c - i)) w := by
  obtain ⟨iE, hi', _⟩ := info_parts info5
  rw [run_slice_l (P := Try.prog) w 26 A n c und22 .i64 (i : Int) (by omega) (by omega), elem22, run_sizeOf w hi', size22']
  simp only [Result.andThen_ok, sliced, Int.toNat_natCast, dropA]
/-- A reader with the bytes that are left. -/
def RdS (w : World) (rb : Nat) (bs : List UInt8) : Prop := ∃ (A : Option Addr) (c : Nat), Blk w rb 79 #[.slice A bs.length c] ∧ bs.length ≤ c ∧ Rd w 1 A bs.length (bs.map byteV) ∧ (0 < bs.length → ∀ b off, A = some ⟨b, off, none⟩ → b < rb)
/-- Blocks that were there are as before, but one. -/
def Only (rb : Nat) (w w' : World) : Prop := KeptIn (fun k => k ≠ rb ∧ k < w.heap.size) w w'
theorem Only.trans {rb : Nat} {a b c : World} (h : Only rb a b) (k : Only rb b c) : Only rb a c :=
  KeptIn.trans h (KeptIn.mono k fun _ hk => ⟨hk.1, Nat.lt_of_lt_of_le hk.2 h.size⟩)
theorem Only.refl (rb : Nat) (w : World) : Only rb w w := KeptIn.refl _ w
theorem Only.below {rb B : Nat} {w w' : World} (h : Only rb w w') (hB : B ≤ rb) (hw : B ≤ w.heap.size) : Below B w w' := KeptIn.below h fun k hk => ⟨by omega, by omega⟩
theorem Only.of_below {rb : Nat} {w w' : World} (h : Below w.heap.size w w') : Only rb w w' := KeptIn.of_below h fun _ hk => hk.2
theorem Only.blk {rb B : Nat} {t : TypeId} {cs : Array Value} {w w' : World} (h : Only rb w w') (hb : Blk w B t cs) (hne : B ≠ rb) : Blk w' B t cs := hb.keptIn h ⟨hne, hb.lt⟩
/-- Bytes lie in no reader's block. -/
theorem bytes_ne {w : World} {rb n : Nat} {A : Option Addr} {xs : List UInt8} {t : TypeId} {A0 : Option Addr} {l c : Nat} (h : Rd w 1 A n (xs.map byteV)) (hb : Blk w rb t #[.slice A0 l c]) (h0 : 0 < n) {b off : Nat} (e : A = some ⟨b, off, none⟩) : b ≠ rb := by
  rintro rfl
  have hl := h.len1
  obtain ⟨b', off', e', hk⟩ := h.2.2 h0
  rw [e] at e'
  cases e'
  obtain ⟨x, hx⟩ : ∃ x, xs[0]? = some x := ⟨_, List.getElem?_eq_getElem (by omega)⟩
  have h1 := hk 0 (byteV x) (by rw [List.getElem?_map, hx]; rfl)
  rw [hb.cell] at h1
  cases off with
  | zero => simp [byteV] at h1
  | succ k => simp at h1
theorem rd_only {rb n sz : Nat} {w w' : World} {A : Option Addr} {xs : List Value} (h : Rd w sz A n xs) (hsz : 0 < sz) (ho : Only rb w w') (hne : 0 < n → ∀ b off, A = some ⟨b, off, none⟩ → b ≠ rb) : Rd w' sz A n xs :=
  h.keptIn ho fun b off h0 e => ⟨hne h0 b off e, h.lt hsz h0 e⟩
/-- What take answers. -/
def TakeR (rb n : Nat) (bs : List UInt8) (w : World) (e : Ending) (w' : World) : Prop :=
  (n ≤ bs.length ∧ (∃ (A : Option Addr) (c : Nat), e = .returned (.slice A n c) ∧ n ≤ c ∧ Rd w' 1 A n ((bs.take n).map byteV) ∧ (0 < n → ∀ b off, A = some ⟨b, off, none⟩ → b < rb)) ∧ RdS w' rb (bs.drop n) ∨ bs.length < n ∧ e = .panicked dmg) ∧ Only rb w w'
set_option maxRecDepth 100000 in
set_option maxHeartbeats 1000000 in
theorem take_any (rb n : Nat) (bs : List UInt8) (w : World) (hS : RdS w rb bs) (_hn : n ≤ 9223372036854775807) :
    Calls Try.prog 53 #[.pointer (some ⟨rb, 0, none⟩), .int .i64 (n : Int)] w (TakeR rb n bs w) := by
  obtain ⟨A, c, hb, hlc, hr, hbd⟩ := hS
  have a0 : w.cell? ⟨rb, 0, none⟩ = some (.slice A bs.length c) := by rw [hb.cell]; rfl
  have z0 := hb.frozen 0
  have hlen := hr.le
  have hBl := Lib.hid hb
  by_cases h : n ≤ bs.length
  · have d0 : decide ((bs.length : Int) < (n : Int)) = false := decide_eq_false (by omega)
    have d1 : ¬ (bs.length : Int) < (n : Int) := by omega
    have hs1 := run_slice_pre A bs.length c n (by omega)
    have hs2 := run_slice_post A bs.length c n h
    go_enter Try.func53, Try.ntmps53
    go_wp2_with fail
    refine bodyPost_ret (results_tmp rfl _ _ _) rfl ?_
    obtain ⟨w1, hw1⟩ : ∃ v, v = w.setCell ⟨rb, 0, none⟩ (.slice (dropA A c n) (bs.length - n) (c - n)) := ⟨_, rfl⟩
    rw [← hw1]
    have ho : Only rb w w1 := by rw [hw1]; exact (KeptIn.refl _ w).setCell (fun k hk => hk.2) (fun hk => hk.1 rfl) _
    have h1 := rd_pre hr h
    have h2 := rd_post hr h hlc
    have hd2 : 0 < bs.length - n → ∀ b off, dropA A c n = some ⟨b, off, none⟩ → b < rb := fun h0 b off e => by
      obtain ⟨b', off', e', _⟩ := hr.2.2 (by omega)
      have := hbd (by omega) b' off' e'
      unfold dropA at e
      rw [if_neg (by omega), e', Option.map_some] at e
      unfold Addr.add at e
      split at e <;> simp at e <;> omega
    refine ⟨.inl ⟨h, ⟨A, c, rfl, by omega, rd_only h1 (by omega) ho (fun h0 b off e => Nat.ne_of_lt (hbd (by omega) b off e)), fun h0 b off e => hbd (by omega) b off e⟩, ?_⟩, ho⟩
    refine ⟨dropA A c n, c - n, ?_, by rw [List.length_drop]; omega, ?_, by rw [List.length_drop]; exact hd2⟩
    · rw [List.length_drop, hw1]
      exact one_setCell hBl.out
    · rw [List.length_drop]
      exact rd_only h2 (by omega) ho (fun h0 b off e => Nat.ne_of_lt (hd2 h0 b off e))
  · have d0 : decide ((bs.length : Int) < (n : Int)) = true := decide_eq_true (by omega)
    have d1 : (bs.length : Int) < (n : Int) := by omega
    go_enter Try.func53, Try.ntmps53
    go_wp2_with fail
    exact ⟨rfl, .inr ⟨by omega, rfl⟩, Only.refl _ _⟩
theorem RdS.only_below {rb : Nat} {bs : List UInt8} {w w' : World} (h : RdS w rb bs) (hb : Below w.heap.size w w') : RdS w' rb bs := by
  obtain ⟨A, c, h1, h2, h3, h4⟩ := h
  exact ⟨A, c, h1.below hb h1.lt, h2, h3.below hb, h4⟩
/-- What one answers. -/
def OneR (rb : Nat) (bs : List UInt8) (w : World) (e : Ending) (w' : World) : Prop :=
  (match one bs with
    | some (x, t) => e = .returned (.int .i64 (x : Int)) ∧ RdS w' rb t
    | none => e = .panicked dmg) ∧ Only rb w w'
set_option maxRecDepth 100000 in
set_option maxHeartbeats 1000000 in
theorem one_any (rb : Nat) (bs : List UInt8) (w : World) (hS : RdS w rb bs) :
    Calls Try.prog 38 #[.pointer (some ⟨rb, 0, none⟩)] w (OneR rb bs w) := by
  have ht := take_any rb 1 bs w hS (by omega)
  have Hd := Lib.hid (show ∀ e w', TakeR rb 1 bs w e w' → (∃ (x : UInt8) (t : List UInt8) (b off c : Nat), bs = x :: t ∧ e = .returned (.slice (some ⟨b, off, none⟩) 1 c) ∧ w'.cell? ⟨b, off, none⟩ = some (byteV x) ∧ RdS w' rb t ∧ Only rb w w') ∨ (bs = [] ∧ e = .panicked dmg ∧ Only rb w w') from by
    rintro e w' ⟨⟨h1, ⟨A, c, e1, _, hr, _⟩, hS'⟩ | ⟨h1, e1⟩, ho⟩
    · left
      cases bs with
      | nil => simp at h1
      | cons x t =>
        obtain ⟨b, off, rfl, hk⟩ := hr.2.2 (by omega)
        exact ⟨x, t, b, off, c, rfl, e1, hk 0 (byteV x) rfl, hS', ho⟩
    · right
      cases bs with
      | nil => exact ⟨rfl, e1, ho⟩
      | cons x t => simp at h1)
  have Hs := Lib.hid hS
  clear hS
  go_enter Try.func38, Try.ntmps38
  go_wp2_with fail
  refine ht.mono ?_
  intro e w1 hT
  rcases Hd.out e w1 hT with ⟨x, t, b, off, c, rfl, rfl, hc, hS1, ho⟩ | ⟨rfl, rfl, ho⟩
  · have hx : (byteV x) = .int .u8 (x.toNat : Int) := rfl
    rw [hx] at hc
    have hlt := x.toNat_lt
    have HS1 := Lib.hid hS1
    have HO := Lib.hid ho
    clear hS1 ho hT Hd ht Hs
    go_wp2_with fail
    exact bodyPost_ret (results_tmp rfl _ _ _) rfl ⟨⟨rfl, HS1.out⟩, HO.out⟩
  · first | exact ⟨rfl, rfl, ho⟩ | (go_wp2_with fail; exact ⟨rfl, rfl, ho⟩)
end Go.Proofs.Yteofgkdpknaapaa
