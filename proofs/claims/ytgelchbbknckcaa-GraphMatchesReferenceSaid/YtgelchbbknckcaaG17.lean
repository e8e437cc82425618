/- The least ways, computed. -/
import Derived.Test.YtgelchbbknckcaaG16
namespace Go.Proofs.Ytgelchbbknckcaa
open Go.RowKit Go.Sort
namespace Gr
def bfStep (out : List (Option Wy)) (j : Nat) (l : Lk) : List (Option Wy) :=
  if l.2.2.2 = false then out else
  match out.getD l.1 none with
  | none => out
  | some a => match out.getD l.2.1 none with
    | none => out.set l.2.1 (some (a.1 + l.2.2.1, a.2 ++ [j]))
    | some x => if cmpW (a.1 + l.2.2.1, a.2 ++ [j]) x < 0 then out.set l.2.1 (some (a.1 + l.2.2.1, a.2 ++ [j])) else out
def bfRound : Nat → List Lk → List (Option Wy) → List (Option Wy)
  | _, [], out => out
  | j, l :: r, out => bfRound (j + 1) r (bfStep out j l)
def bfRun (ls : List Lk) : Nat → List (Option Wy) → List (Option Wy)
  | 0, out => out
  | r + 1, out => bfRun ls r (bfRound 0 ls out)
theorem getD_some {α : Type} {l : List (Option α)} {i : Nat} (h : i < l.length) {b : Option α} (e : l.getD i none = b) : l[i]? = some b := by
  rw [List.getD_eq_getElem?_getD, List.getElem?_eq_getElem h] at e
  rw [List.getElem?_eq_getElem h]
  simpa using e
theorem bf_step {ls : List Lk} {n s : Nat} {out : List (Option Wy)} {r j : Nat} {l : Lk} (h : BF ls n s out r j) (hj : ls[j]? = some l) (hu : l.1 < n) (ht : l.2.1 < n) : BF ls n s (bfStep out j l) r (j + 1) := by
  obtain ⟨u, t, d, b⟩ := l
  simp only at hu ht
  unfold bfStep
  simp only
  cases b with
  | false => exact bf_skip h hj (.inl rfl)
  | true =>
    rw [if_neg (by decide)]
    cases ea : out.getD u none with
    | none => exact bf_skip h hj (.inr (getD_some (by rw [h.len]; exact hu) ea))
    | some a =>
      have ha := getD_some (by rw [h.len]; exact hu) ea
      cases ex : out.getD t none with
      | none =>
        refine bf_set h hj ha ht (fun x hx => ?_)
        rw [getD_some (by rw [h.len]; exact ht) ex] at hx; cases hx
      | some x =>
        have hx := getD_some (by rw [h.len]; exact ht) ex
        simp only
        by_cases hc : cmpW (a.1 + d, a.2 ++ [j]) x < 0
        · rw [if_pos hc]
          refine bf_set h hj ha ht (fun y hy => ?_)
          rw [hx] at hy; cases hy
          exact Le.of_lt hc
        · rw [if_neg hc]
          exact bf_keep h hj ha hx (by unfold Le; have := cmpW_neg (a.1 + d, a.2 ++ [j]) x; omega)
theorem bf_round {ls : List Lk} {n s r : Nat} (hls : ∀ l ∈ ls, l.1 < n ∧ l.2.1 < n) : ∀ (rest : List Lk) (j : Nat) (out : List (Option Wy)), ls.drop j = rest → BF ls n s out r j → BF ls n s (bfRound j rest out) r (j + rest.length)
  | [], j, out, _, h => h
  | l :: rest, j, out, hd, h => by
    have hj : ls[j]? = some l := by rw [← List.head?_drop, hd]; rfl
    obtain ⟨h1, h2⟩ := hls l (List.mem_of_getElem? hj)
    have := bf_round hls rest (j + 1) _ (by rw [← List.tail_drop, hd]; rfl) (bf_step h hj h1 h2)
    rw [List.length_cons, show j + (rest.length + 1) = j + 1 + rest.length by omega]
    exact this
theorem bf_run {ls : List Lk} {n s : Nat} (hls : ∀ l ∈ ls, l.1 < n ∧ l.2.1 < n) : ∀ (k r : Nat) (out : List (Option Wy)), BF ls n s out r 0 → BF ls n s (bfRun ls k out) (r + k) 0
  | 0, r, out, h => h
  | k + 1, r, out, h => by
    have h1 := bf_round hls ls 0 out rfl h
    rw [Nat.zero_add] at h1
    have := bf_run hls k (r + 1) _ (bf_next h1)
    rwa [show r + 1 + k = r + (k + 1) by omega] at this
def start (n s : Nat) : List (Option Wy) := (List.replicate n none).set s (some (0, []))
end Gr
theorem Vg.ends {vs : List Int} {ls : List Ln} (h : Vg vs ls) (lim : Nd) : ∀ l ∈ lksN vs lim ls, l.1 < vs.length ∧ l.2.1 < vs.length := fun l hl => by
  obtain ⟨k, hk⟩ := List.mem_iff_getElem?.1 hl
  obtain ⟨u, t, d, b⟩ := l
  obtain ⟨_, _, _, _, _, _, _, h1, h2⟩ := h.lk hk
  exact ⟨h1, h2⟩
/-- All ways, computed. -/
def allC (vs : List Int) (ls : List Ln) (lim : Nd) (s : Nat) : List (Option Gr.Wy) := Gr.bfRun (lksN vs lim ls) vs.length (Gr.start vs.length s)
theorem allC_bf {vs : List Int} {ls : List Ln} (h : Vg vs ls) (lim : Nd) {s : Nat} (hs : s < vs.length) : Gr.BF (lksN vs lim ls) vs.length s (allC vs ls lim s) vs.length 0 := by
  have := Gr.bf_run (h.ends lim) vs.length 0 _ (Gr.bf_start (lksN vs lim ls) vs.length s hs)
  rwa [Nat.zero_add] at this
theorem allR_eq {vs : List Int} {ls : List Ln} {lim : Nd} {fr : Int} {bs cs : List (Option Gr.Wy)} {s : Nat} (hs : vs[s]? = some fr) (h : AllR vs ls lim fr bs) (hc : Gr.BF (lksN vs lim ls) vs.length s cs vs.length 0) : cs = bs := by
  apply List.ext_getElem (by rw [hc.len, h.1])
  intro i h1 h2
  have := h.2.1 s hs i _ (List.getElem?_eq_getElem h2)
  exact Gr.bf_best hc this.1 this.2 (List.getElem?_eq_getElem h1)
def resC : Option Gr.Wy → List Nat × Int × Int
  | none => ([], 0, 290)
  | some w => (w.2, (w.1 : Int), 0)
theorem pathR_eq {vs : List Int} {ls : List Ln} {lim : Nd} {fr tv : Int} {L : List Nat} {k e : Int} {s t : Nat} {b : Option Gr.Wy} {cs : List (Option Gr.Wy)} (hv : Vg vs ls) (hs : vs[s]? = some fr) (ht : vs[t]? = some tv) (h : PathR vs ls lim fr tv L k e) (hc : Gr.BF (lksN vs lim ls) vs.length s cs vs.length 0) (hb : cs[t]? = some b) : (L, k, e) = resC b := by
  rcases h with ⟨h1, _⟩ | ⟨s', t', hs', ht', h⟩
  · rcases h1 with h1 | h1
    · exact absurd (List.mem_of_getElem? hs) h1
    · exact absurd (List.mem_of_getElem? ht) h1
  · obtain rfl := hv.uniq hs hs'
    obtain rfl := hv.uniq ht ht'
    rcases h with ⟨h1, rfl, rfl, rfl⟩ | ⟨w, h1, h2, rfl, rfl, rfl⟩
    · rw [Gr.bf_best hc h1 (fun _ e => by cases e) hb]; rfl
    · rw [Gr.bf_best hc h1 (fun x e => by cases e; exact h2) hb]; rfl

/-- The graph of the fixed examples. -/
def vsS : List Int := [1, 2, 3]
def lsS : List Ln := [⟨1, 2, 5, ⟨0, 0, 10, 0, 0⟩⟩, ⟨2, 3, 5, ⟨0, 0, 10, 0, 0⟩⟩, ⟨1, 3, 10, ⟨0, 0, 50, 0, 0⟩⟩, ⟨1, 3, 11, ⟨0, 0, 0, 0, 0⟩⟩]
theorem vgS : Vg vsS lsS := vg (by decide +kernel)
theorem pathS {lim : Nd} {fr tv : Int} {L : List Nat} {k e : Int} {s t : Nat} (hs : vsS[s]? = some fr) (ht : vsS[t]? = some tv) (h : PathR vsS lsS lim fr tv L k e) {r : List Nat × Int × Int} (hr : resC ((allC vsS lsS lim s).getD t none) = r) : (L, k, e) = r := by
  have hbf := allC_bf vgS lim (List.getElem?_eq_some_iff.1 hs).1
  rw [← hr]
  exact pathR_eq vgS hs ht h hbf (Gr.getD_some (by rw [hbf.len]; exact (List.getElem?_eq_some_iff.1 ht).1) rfl)
theorem pS1 {L : List Nat} {k e : Int} (h : PathR vsS lsS (limN 100) 1 3 L k e) : (L, k, e) = ([2], 10, 0) := pathS (s := 0) (t := 2) rfl rfl h (by decide +kernel)
theorem pS2 {L : List Nat} {k e : Int} (h : PathR vsS lsS (limN 20) 1 3 L k e) : (L, k, e) = ([0, 1], 10, 0) := pathS (s := 0) (t := 2) rfl rfl h (by decide +kernel)
theorem pS3 {L : List Nat} {k e : Int} (h : PathR vsS lsS (limN 5) 1 3 L k e) : (L, k, e) = ([3], 11, 0) := pathS (s := 0) (t := 2) rfl rfl h (by decide +kernel)
theorem pS4 {L : List Nat} {k e : Int} (h : PathR vsS lsS (limN 100) 3 1 L k e) : (L, k, e) = ([], 0, 290) := pathS (s := 2) (t := 0) rfl rfl h (by decide +kernel)
theorem pS6 {L : List Nat} {k e : Int} (h : PathR vsS lsS (limN 0) 2 2 L k e) : (L, k, e) = ([], 0, 0) := pathS (s := 1) (t := 1) rfl rfl h (by decide +kernel)
theorem pathR_none {vs : List Int} {ls : List Ln} {lim : Nd} {fr tv : Int} {L : List Nat} {k e : Int} (hn : fr ∉ vs ∨ tv ∉ vs) (h : PathR vs ls lim fr tv L k e) : (L, k, e) = ([], 0, 291) := by
  rcases h with ⟨_, rfl, rfl, rfl⟩ | ⟨s, t, hs, ht, _⟩
  · rfl
  · rcases hn with hn | hn
    · exact absurd (List.mem_of_getElem? hs) hn
    · exact absurd (List.mem_of_getElem? ht) hn
theorem pS5 {L : List Nat} {k e : Int} (h : PathR vsS lsS (limN 100) 1 4 L k e) : (L, k, e) = ([], 0, 291) := pathR_none (.inr (by decide)) h
theorem rS {lim : Nd} {fr : Int} {bs : List (Option Gr.Wy)} {s : Nat} (hs : vsS[s]? = some fr) (h : AllR vsS lsS lim fr bs) : bs = allC vsS lsS lim s :=
  (allR_eq hs h (allC_bf vgS lim (List.getElem?_eq_some_iff.1 hs).1)).symm
theorem reach_none {vs : List Int} {ls : List Ln} {lim : Nd} {fr : Int} {bs : List (Option Gr.Wy)} (hn : fr ∉ vs) (h : AllR vs ls lim fr bs) : reachL vs bs = [] := by
  cases e : reachL vs bs with
  | nil => rfl
  | cons x xs =>
    have : x ∈ reachL vs bs := by rw [e]; simp
    obtain ⟨k, b, _, hb⟩ := reachL_mem.1 this
    have := h.2.2 hn _ (List.mem_of_getElem? hb)
    cases this
theorem rS1 {bs : List (Option Gr.Wy)} (h : AllR vsS lsS (limN 5) 1 bs) : reachL vsS bs = [1, 3] := by rw [rS (s := 0) rfl h]; decide +kernel
theorem rS2 {bs : List (Option Gr.Wy)} (h : AllR vsS lsS (limN 5) 2 bs) : reachL vsS bs = [2] := by rw [rS (s := 1) rfl h]; decide +kernel
theorem rS3 {bs : List (Option Gr.Wy)} (h : AllR vsS lsS (limN 5) 4 bs) : reachL vsS bs = [] := reach_none (by decide) h
end Go.Proofs.Ytgelchbbknckcaa
