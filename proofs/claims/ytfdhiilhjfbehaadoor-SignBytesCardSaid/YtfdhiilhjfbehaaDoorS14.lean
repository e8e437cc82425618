/- Package sign: laws for Sign. -/
import Derived.Test.YtfdhiilhjfbehaaDoorS13
namespace Go.Proofs.YtfdhiilhjfbehaaDoor
open Go.RowKit Go.Sort

def sgnV (i : Int) (A : Option Addr) (n c : Nat) (B : Option Addr) (m d : Nat) (k : Sc) (e : Int) : List Value := sgV i A n c B m d ++ secV k ++ [.int .i64 e]
theorem sgnV_len (i : Int) (A : Option Addr) (n c : Nat) (B : Option Addr) (m d : Nat) (k : Sc) (e : Int) : (sgnV i A n c B m d k e).length = 38 := by
  unfold sgnV; rw [List.length_append, List.length_append, sgV_len, secV_len]; rfl
theorem sgn_size (i : Int) (A : Option Addr) (n c : Nat) (B : Option Addr) (m d : Nat) (k : Sc) (e : Int) : (sgnV i A n c B m d k e).toArray.size = 38 := by rw [List.size_toArray, sgnV_len]
theorem sg_size (i : Int) (A : Option Addr) (n c : Nat) (B : Option Addr) (m d : Nat) : (sgV i A n c B m d).toArray.size = 3 := rfl
theorem sec_size (k : Sc) : (secV k).toArray.size = 34 := by rw [List.size_toArray, secV_len]
theorem sgn_one (i : Int) (A : Option Addr) (n c : Nat) (B : Option Addr) (m d : Nat) (k : Sc) (e : Int) : (sgnV i A n c B m d k e).toArray.all (·.oneCell') = true := by
  unfold sgnV
  have h1 := sg_one i A n c B m d
  have h2 := sec_one k
  simp only [List.all_toArray] at h1 h2 ⊢
  simp only [List.all_append, Bool.and_eq_true]
  exact ⟨⟨h1, h2⟩, rfl⟩
theorem info39 : (Tryd.prog.info? 39).map (fun i => (i.zero, i.size, i.bytes)) = some (some (.agg (sgnV 0 none 0 0 none 0 0 sc0 0).toArray), 38, 112) := by kernel_rfl
theorem size39 (cs : Array Value) (h : cs.size = 38) : (Tryd.prog.info? 39).map (·.size) = some cs.size := by rw [h]; kernel_rfl
theorem und39b : (Tryd.prog.underlying 39).map (·.isRow) = some true := by kernel_rfl
theorem und39 : ∃ d, Tryd.prog.underlying 39 = some d ∧ d.isRow = true := by
  obtain ⟨d, h1, h2⟩ := Option.map_eq_some_iff.1 und39b
  exact ⟨d, h1, h2⟩
theorem built39e (e : Int) : Tryd.prog.built 39 [(2, .int .i64 e)] = some (sgnV 0 none 0 0 none 0 0 sc0 e).toArray := by kernel_rfl
theorem built37z : Tryd.prog.built 37 [] = some (sgV 0 none 0 0 none 0 0).toArray := by kernel_rfl
theorem built37i (i : Int) : Tryd.prog.built 37 [(0, .int .i64 i)] = some (sgV i none 0 0 none 0 0).toArray := by kernel_rfl
theorem built28z : Tryd.prog.built 28 [] = some (secV sc0).toArray := by kernel_rfl
set_option maxRecDepth 100000 in
theorem built39s (i : Int) (A : Option Addr) (n c : Nat) (B : Option Addr) (m d : Nat) (k : Sc) : Tryd.prog.built 39 [(0, .agg (sgV i A n c B m d).toArray), (1, .agg (secV k).toArray)] = some (sgnV i A n c B m d k 0).toArray := by
  obtain ⟨⟨l, hl⟩, h, n'⟩ := k
  rcases l with _ | ⟨b0, l⟩
  · simp at hl
  rcases l with _ | ⟨b1, l⟩
  · simp at hl
  rcases l with _ | ⟨b2, l⟩
  · simp at hl
  rcases l with _ | ⟨b3, l⟩
  · simp at hl
  rcases l with _ | ⟨b4, l⟩
  · simp at hl
  rcases l with _ | ⟨b5, l⟩
  · simp at hl
  rcases l with _ | ⟨b6, l⟩
  · simp at hl
  rcases l with _ | ⟨b7, l⟩
  · simp at hl
  rcases l with _ | ⟨b8, l⟩
  · simp at hl
  rcases l with _ | ⟨b9, l⟩
  · simp at hl
  rcases l with _ | ⟨b10, l⟩
  · simp at hl
  rcases l with _ | ⟨b11, l⟩
  · simp at hl
  rcases l with _ | ⟨b12, l⟩
  · simp at hl
  rcases l with _ | ⟨b13, l⟩
  · simp at hl
  rcases l with _ | ⟨b14, l⟩
  · simp at hl
  rcases l with _ | ⟨b15, l⟩
  · simp at hl
  rcases l with _ | ⟨b16, l⟩
  · simp at hl
  rcases l with _ | ⟨b17, l⟩
  · simp at hl
  rcases l with _ | ⟨b18, l⟩
  · simp at hl
  rcases l with _ | ⟨b19, l⟩
  · simp at hl
  rcases l with _ | ⟨b20, l⟩
  · simp at hl
  rcases l with _ | ⟨b21, l⟩
  · simp at hl
  rcases l with _ | ⟨b22, l⟩
  · simp at hl
  rcases l with _ | ⟨b23, l⟩
  · simp at hl
  rcases l with _ | ⟨b24, l⟩
  · simp at hl
  rcases l with _ | ⟨b25, l⟩
  · simp at hl
  rcases l with _ | ⟨b26, l⟩
  · simp at hl
  rcases l with _ | ⟨b27, l⟩
  · simp at hl
  rcases l with _ | ⟨b28, l⟩
  · simp at hl
  rcases l with _ | ⟨b29, l⟩
  · simp at hl
  rcases l with _ | ⟨b30, l⟩
  · simp at hl
  rcases l with _ | ⟨b31, l⟩
  · simp at hl
  rcases l with _ | ⟨b32, l⟩
  rotate_left
  · simp at hl
  kernel_rfl
set_option maxRecDepth 100000 in
theorem built39t (i : Int) (A : Option Addr) (n c : Nat) (B : Option Addr) (m d : Nat) (k : Sc) (e : Int) : Tryd.prog.built 39 [(0, .agg (sgV i A n c B m d).toArray), (1, .agg (secV k).toArray), (2, .int .i64 e)] = some (sgnV i A n c B m d k e).toArray := by
  obtain ⟨⟨l, hl⟩, h, n'⟩ := k
  rcases l with _ | ⟨b0, l⟩
  · simp at hl
  rcases l with _ | ⟨b1, l⟩
  · simp at hl
  rcases l with _ | ⟨b2, l⟩
  · simp at hl
  rcases l with _ | ⟨b3, l⟩
  · simp at hl
  rcases l with _ | ⟨b4, l⟩
  · simp at hl
  rcases l with _ | ⟨b5, l⟩
  · simp at hl
  rcases l with _ | ⟨b6, l⟩
  · simp at hl
  rcases l with _ | ⟨b7, l⟩
  · simp at hl
  rcases l with _ | ⟨b8, l⟩
  · simp at hl
  rcases l with _ | ⟨b9, l⟩
  · simp at hl
  rcases l with _ | ⟨b10, l⟩
  · simp at hl
  rcases l with _ | ⟨b11, l⟩
  · simp at hl
  rcases l with _ | ⟨b12, l⟩
  · simp at hl
  rcases l with _ | ⟨b13, l⟩
  · simp at hl
  rcases l with _ | ⟨b14, l⟩
  · simp at hl
  rcases l with _ | ⟨b15, l⟩
  · simp at hl
  rcases l with _ | ⟨b16, l⟩
  · simp at hl
  rcases l with _ | ⟨b17, l⟩
  · simp at hl
  rcases l with _ | ⟨b18, l⟩
  · simp at hl
  rcases l with _ | ⟨b19, l⟩
  · simp at hl
  rcases l with _ | ⟨b20, l⟩
  · simp at hl
  rcases l with _ | ⟨b21, l⟩
  · simp at hl
  rcases l with _ | ⟨b22, l⟩
  · simp at hl
  rcases l with _ | ⟨b23, l⟩
  · simp at hl
  rcases l with _ | ⟨b24, l⟩
  · simp at hl
  rcases l with _ | ⟨b25, l⟩
  · simp at hl
  rcases l with _ | ⟨b26, l⟩
  · simp at hl
  rcases l with _ | ⟨b27, l⟩
  · simp at hl
  rcases l with _ | ⟨b28, l⟩
  · simp at hl
  rcases l with _ | ⟨b29, l⟩
  · simp at hl
  rcases l with _ | ⟨b30, l⟩
  · simp at hl
  rcases l with _ | ⟨b31, l⟩
  · simp at hl
  rcases l with _ | ⟨b32, l⟩
  rotate_left
  · simp at hl
  kernel_rfl
theorem info37' : (Tryd.prog.info? 37).map (fun i => (i.zero, i.size, i.bytes)) = some (some (.agg (sgV 0 none 0 0 none 0 0).toArray), 3, 56) := info37
/-- A region that draws its order: the reads first, then one after the other; the worlds that are met lie in a class. -/
theorem wp_region_class {P : Program} {id : Nat} {Q : Exit → Act → World → Prop} {a : Act} {w : World} {l : List Oper} (S : World → Prop) (is1 : List Nat) (fuel : Nat) (hm : P.follows .mixedOrders = true)
    (hs : Region.noSelect l.toArray = true) (hQ : ∀ c a d v w, Q (.panic c) (Act.put a d v) w → Q (.panic c) a w) (hS : S w.drew)
    (hB1 : orderB .any l.toArray is1 (Array.replicate l.length false) = true) (hp : (pickOps l is1).all plainOp = true) (hlen : is1.length + fuel = l.length)
    (h : wpQuiet P l.toArray S (fun a1 => wpAnyH P .any l.toArray Q S fuel (setAll (Array.replicate l.length false) is1) a1 w.drew) (pickOps l is1) a) :
    (Code.region id l.toArray true).wp P Q a w := by
  refine wp_region_held (S := S) hm ?_
  have key := wpAnyH_reads hs hQ is1 (Array.replicate l.length false) a w.drew hS hB1 hp h
  rw [hlen] at key
  simpa using key
end Go.Proofs.YtfdhiilhjfbehaaDoor
