/- SuffixMatchesReference: the walk. -/
import Derived.Test.YtcelkneeedebiaaX24
namespace Go.Proofs.Ytcelkneeedebiaa
open Go Go.RowKit Go.Sort Go.Shelf

theorem Longest_fd (A O B : Option Addr) (n m k c d e : Nat) (xs ys : List UInt8) (l : List Nat) (w : World) (hx : Rd w 1 A n (xs.map byteV)) (ho : Rd w 1 O m (l.map natV)) (hy : Rd w 1 B k (ys.map byteV)) (hord : IsOrd xs l) (hnc : n ≤ c) (hke : k ≤ e) (hn : n ≤ 100000) (hk : k ≤ 100000) :
    Calls Try.prog 15 #[.slice A n c, .slice O m d, .slice B k e] w fun e w' => e = .returned (.agg (fdV ((bestTo xs ys xs.length).1 : Int) ((bestTo xs ys xs.length).2 : Int)).toArray) ∧ Below w.heap.size w w' :=
  Longest_best A O B n m k c d e xs ys l w hx ho hy hord hnc hke hn hk
theorem eqF_self (a b : Int) (w : World) : (binOp .eql 29 (.agg (fdV a b).toArray) (.agg (fdV a b).toArray)).run Try.prog w = .ok (.bool true) w := by
  rw [run_eqlF, decide_eq_true (And.intro rfl rfl)]
set_option maxRecDepth 100000 in
set_option maxHeartbeats 4000000 in
theorem SuffixMatchesReference_any (A : Option Addr) (n c : Nat) (xs : List UInt8) (B : Option Addr) (m d : Nat) (ys : List UInt8) (w : World) (hx : Rd w 1 A n (xs.map byteV)) (hc : n ≤ c) (hy : Rd w 1 B m (ys.map byteV)) (hd : m ≤ d) :
    Calls Try.prog 3 #[.slice A n c, .slice B m d] w fun e w' => e = .returned (.bool true) ∧ Below w.heap.size w w' := by
  have Hx := Lib.hid hx
  have Hy := Lib.hid hy
  have HB := Lib.hid (Below.refl w.heap.size w)
  clear hx hy
  go_enter Try.func3, Try.ntmps3
  go_wp2_with fail
  refine (sanity_any w).mono ?_
  rintro e_ v1 ⟨rfl, hb_⟩
  replace Hx := Lib.hid (Hx.out.below hb_)
  replace Hy := Lib.hid (Hy.out.below hb_)
  replace HB := Lib.hid (HB.out.trans (hb_.mono HB.out.size))
  clear hb_
  go_wp2_with fail
  refine (Limited_any A n c 80 xs v1 Hx.out hc (by decide)).mono ?_
  rintro e_ v2 ⟨⟨n1, rfl, hn1c, hn1K, hr_⟩, hw_⟩
  subst hw_
  obtain ⟨X, hX⟩ : ∃ B, B = xs.take 80 := ⟨_, rfl⟩
  rw [← hX] at hr_
  have HX := Lib.hid hr_
  have HXl := Lib.hid (show X.length = n1 from hr_.len1)
  clear hr_ hX
  go_wp2_with fail
  refine (Limited_any B m d 40 ys v2 Hy.out hd (by decide)).mono ?_
  rintro e_ v3 ⟨⟨m1, rfl, hm1c, hm1K, hr_⟩, hw_⟩
  subst hw_
  obtain ⟨Y, hY⟩ : ∃ B, B = ys.take 40 := ⟨_, rfl⟩
  rw [← hY] at hr_
  have HY := Lib.hid hr_
  have HYl := Lib.hid (show Y.length = m1 from hr_.len1)
  clear hr_ hY
  clear Hx Hy
  go_wp2_with fail
  refine (ROrder_any A n1 c X v3 HX.out hn1c (by omega)).mono ?_
  rintro e_ v4 ⟨⟨O, oc, l, rfl, hoc, ho, hord⟩, hb_⟩
  replace HB := Lib.hid (HB.out.trans (hb_.mono HB.out.size))
  replace HX := Lib.hid (HX.out.below hb_)
  replace HY := Lib.hid (HY.out.below hb_)
  clear hb_
  have HO := Lib.hid ho
  have Hord := Lib.hid hord
  have Hll := Lib.hid (show l.length = n1 by rw [hord.len]; exact HXl.out)
  have Hlt := Lib.hid (show ∀ i ∈ l, i < n1 from fun i hi => by rw [← HXl.out]; exact hord.mem.1 hi)
  clear ho hord
  go_wp2_with fail
  refine (Order_any A n1 c X v4 HX.out (by omega)).mono ?_
  rintro e_ v5 ⟨⟨O2, oc2, l2, rfl, hoc2, ho2, hord2⟩, hb_⟩
  replace HB := Lib.hid (HB.out.trans (hb_.mono HB.out.size))
  replace HX := Lib.hid (HX.out.below hb_)
  replace HY := Lib.hid (HY.out.below hb_)
  replace HO := Lib.hid (HO.out.below hb_)
  clear hb_
  obtain rfl : l = l2 := Hord.out.unique hord2
  have HO2 := Lib.hid ho2
  clear ho2 hord2
  go_wp2_with fail
  refine (IntsT_any O2 O n1 n1 oc2 oc _ v5 HO2.out HO.out).mono ?_
  rintro e_ v6 ⟨rfl, hb_⟩
  replace HB := Lib.hid (HB.out.trans (hb_.mono HB.out.size))
  replace HX := Lib.hid (HX.out.below hb_)
  replace HY := Lib.hid (HY.out.below hb_)
  replace HO := Lib.hid (HO.out.below hb_)
  replace HO2 := Lib.hid (HO2.out.below hb_)
  clear hb_
  clear HO2
  go_wp2_with fail
  refine (Longest_fd A O B n1 n1 m1 c oc d X Y l v6 HX.out HO.out HY.out Hord.out hn1c hm1c (by omega) (by omega)).mono ?_
  rintro e_ v7 ⟨rfl, hb_⟩
  replace HB := Lib.hid (HB.out.trans (hb_.mono HB.out.size))
  replace HX := Lib.hid (HX.out.below hb_)
  replace HY := Lib.hid (HY.out.below hb_)
  replace HO := Lib.hid (HO.out.below hb_)
  clear hb_
  go_wp2_with fail
  refine (RLongest_any A B n1 m1 c d X Y v7 HX.out HY.out hn1c).mono ?_
  rintro e_ v8 ⟨rfl, hb_⟩
  replace HB := Lib.hid (HB.out.trans (hb_.mono HB.out.size))
  replace HX := Lib.hid (HX.out.below hb_)
  replace HY := Lib.hid (HY.out.below hb_)
  replace HO := Lib.hid (HO.out.below hb_)
  clear hb_
  obtain ⟨a1, ha1⟩ : ∃ v : Int, v = ((bestTo X Y X.length).1 : Int) := ⟨_, rfl⟩
  obtain ⟨a2, ha2⟩ : ∃ v : Int, v = ((bestTo X Y X.length).2 : Int) := ⟨_, rfl⟩
  rw [← ha1, ← ha2]
  clear ha1 ha2
  have he := fun W => eqF_self a1 a2 W
  go_wp2_with fail
  refine (Common_any A O n1 n1 c oc X l v8 HX.out HO.out hn1c (by omega) Hlt.out).mono ?_
  rintro e_ v9 ⟨⟨C1, cc1, rfl, hcc1, hc1⟩, hb_⟩
  replace HB := Lib.hid (HB.out.trans (hb_.mono HB.out.size))
  replace HX := Lib.hid (HX.out.below hb_)
  replace HY := Lib.hid (HY.out.below hb_)
  replace HO := Lib.hid (HO.out.below hb_)
  clear hb_
  have HC1 := Lib.hid hc1
  clear hc1
  go_wp2_with fail
  refine (RCommon_any A O n1 n1 c oc X l v9 HX.out HO.out hn1c (by omega) Hlt.out).mono ?_
  rintro e_ v10 ⟨⟨C2, cc2, rfl, hcc2, hc2⟩, hb_⟩
  replace HB := Lib.hid (HB.out.trans (hb_.mono HB.out.size))
  replace HX := Lib.hid (HX.out.below hb_)
  replace HY := Lib.hid (HY.out.below hb_)
  replace HO := Lib.hid (HO.out.below hb_)
  replace HC1 := Lib.hid (HC1.out.below hb_)
  clear hb_
  have HC2 := Lib.hid hc2
  clear hc2
  go_wp2_with fail
  refine (IntsT_any C1 C2 n1 n1 cc1 cc2 _ v10 HC1.out HC2.out).mono ?_
  rintro e_ v11 ⟨rfl, hb_⟩
  replace HB := Lib.hid (HB.out.trans (hb_.mono HB.out.size))
  replace HX := Lib.hid (HX.out.below hb_)
  replace HY := Lib.hid (HY.out.below hb_)
  replace HO := Lib.hid (HO.out.below hb_)
  replace HC1 := Lib.hid (HC1.out.below hb_)
  replace HC2 := Lib.hid (HC2.out.below hb_)
  clear hb_
  go_wp2_with fail
  go_ret
  exact ⟨rfl, HB.out⟩
end Go.Proofs.Ytcelkneeedebiaa
