/- The law's fixed calls answer as the document fixes. -/
import Derived.Test.YteocoijkfkoddaaD
import Derived.LaidEqlPtr
namespace Go.Proofs.Yteocoijkfkoddaa
open Go.RowKit

theorem shards_nil (w : World) : Calls Try.prog 10 #[.pointer none] w fun e w' => e = .returned (.int .i64 0) ∧ w = w' := by
  go_enter Try.func10, Try.ntmps10
  go_wp2
  go_ret
  exact ⟨rfl, rfl⟩
theorem split_nil (s : ByteArray) (w : World) : Calls Try.prog 16 #[.pointer none, .string s] w fun e w' => e = .returned (.tuple #[.pointer none, .int .i64 1]) ∧ w = w' := by
  go_enter Try.func16, Try.ntmps16
  go_wp2
  go_ret2
  exact ⟨rfl, rfl⟩
theorem change_nil (m : Value) (k : Int) (g : Nat) (hm : m = .pointer (some ⟨g, 0, none⟩)) (w : World) : Calls Try.prog 22 #[.pointer none, m, .int .i64 k] w fun e w' => e = .returned (.int .i64 1) ∧ w = w' := by
  subst hm
  go_enter Try.func22, Try.ntmps22
  go_wp2
  go_ret
  exact ⟨rfl, rfl⟩

def sG : ByteArray := ⟨#[103]⟩
def sP : ByteArray := ⟨#[112]⟩
theorem right_gp : rightL [sG, sP] = 0 := by decide +kernel
theorem right_pg : rightL [sP, sG] = 5 := by decide +kernel
theorem of_a : ofL [sG, sP] ⟨#[97]⟩ = 0 := by decide +kernel
theorem of_g : ofL [sG, sP] ⟨#[103]⟩ = 1 := by decide +kernel
theorem of_z : ofL [sG, sP] ⟨#[122]⟩ = 2 := by decide +kernel
theorem strsAt_two (w : World) (s t : ByteArray) (T : TypeId) : StrsAt (w.alloc (.cells #[.string s, .string t] T)) (some ⟨w.heap.size, 0, none⟩) 2 [s, t] := by
  refine ⟨rfl, fun j hj => ⟨w.heap.size, 0, rfl, ?_⟩⟩
  unfold World.cell?
  rw [show (⟨w.heap.size, 0 + j, none⟩ : Addr).block = w.heap.size from rfl, heap_alloc_new]
  match j, hj with
  | 0, _ => rfl
  | 1, _ => rfl
theorem MapAt.rises {w : World} {g : Nat} {ss : List ByteArray} (_h : MapAt w g ss) (he : rightL ss = 0) : Rises ss := rises_of ss he

theorem range_1 (g : Nat) (w : World) (h : MapAt w g [sG, sP]) :
    Calls Try.prog 15 #[.pointer (some ⟨g, 0, none⟩), .int .i64 1] w fun e w' => e = .returned (.tuple #[.string ⟨#[103]⟩, .string ⟨#[112]⟩, .int .i64 0]) ∧ w = w' := range_in g _ 1 w h (by decide)
theorem shards_2 (g : Nat) (w : World) (h : MapAt w g [sG, sP]) :
    Calls Try.prog 10 #[.pointer (some ⟨g, 0, none⟩)] w fun e w' => e = .returned (.int .i64 3) ∧ w = w' := shards_any g _ w h
theorem new_pg (w : World) : Calls Try.prog 8 #[.slice (some ⟨w.heap.size, 0, none⟩) 2 2] (w.alloc (.cells #[.string ⟨#[112]⟩, .string ⟨#[103]⟩] 9)) fun e w' => e = .returned (.tuple #[.pointer none, .int .i64 5]) ∧ Keep w w' := by
  have := new_err _ _ 2 [sP, sG] _ (by decide) (strsAt_two w sP sG 9) (by rw [right_pg]; decide)
  rw [right_pg] at this
  exact this.mono fun e w' ⟨he, k, hw⟩ => ⟨he, hw ▸ (Keep.alloc _ _).trans (Keep.drewN _ _)⟩
theorem new_gp (w : World) : Calls Try.prog 8 #[.slice (some ⟨w.heap.size, 0, none⟩) 2 2] (w.alloc (.cells #[.string ⟨#[103]⟩, .string ⟨#[112]⟩] 9)) fun e w' => ∃ g, e = .returned (.tuple #[.pointer (some ⟨g, 0, none⟩), .int .i64 0]) ∧ MapAt w' g [sG, sP] ∧ Keep w w' :=
  (new_ok _ _ 2 [sG, sP] _ (by decide) (strsAt_two w sG sP 9) right_gp (by decide)).mono fun e w' ⟨g, he, hm, _, hk⟩ => ⟨g, he, hm, (Keep.alloc _ _).trans hk⟩
theorem of_lit (g : Nat) (key : ByteArray) (n : Int) (w : World) (h : MapAt w g [sG, sP]) (hn : (ofL [sG, sP] key : Int) = n) :
    Calls Try.prog 13 #[.pointer (some ⟨g, 0, none⟩), .string key] w fun e w' => e = .returned (.int .i64 n) ∧ Keep w w' := hn ▸ of_any g _ key w h (rises_of _ right_gp)

theorem ptr_same (a : Addr) (w : World) : (binOp .eql 25 (.pointer (some a)) (.pointer (some a))).run Try.prog w = .ok (.bool true) w := by
  have h0 : (Try.prog.info? 50).isSome = true := by kernel_rfl
  obtain ⟨j, hj⟩ := Option.isSome_iff_exists.1 h0
  exact run_eql_ptr_same w a (by kernel_rfl) hj

set_option maxRecDepth 100000 in
set_option maxHeartbeats 1000000 in
theorem fixed_any (w : World) : Calls Try.prog 6 #[] w fun e w' => e = .returned (.bool true) ∧ Keep w w' := by
  have hpe := fun (a : Addr) (w : World) => ptr_same a w
  go_enter Try.func6, Try.ntmps6
  go_wp2_with fail
  refine (new_gp w).mono ?_
  rintro e w1 ⟨g, rfl, hm, hk⟩
  have K1 := Lib.hid hk
  have M1 := Lib.hid hm
  clear hm hk
  go_wp2_with fail
  refine (range_1 g _ M1.out).mono ?_
  rintro e _ ⟨rfl, rfl⟩
  go_wp2_with fail
  refine (range_out g _ 3 _ M1.out (Or.inr (by decide))).mono ?_
  rintro e _ ⟨rfl, rfl⟩
  go_wp2_with fail
  refine (new_pg _).mono ?_
  rintro e w2 ⟨rfl, hk⟩
  have K2 := Lib.hid hk
  clear hk
  go_wp2_with fail
  refine (newTable_any g _).mono ?_
  rintro e w3 ⟨t, v, rfl, ht, hv, htl, hvl, hk⟩
  have T3 := Lib.hid ht
  have V3 := Lib.hid hv
  have K3 := Lib.hid (K2.out.trans hk)
  have htl3 := Lib.hid (Nat.le_trans K2.out.size htl)
  clear ht hv hk htl hvl
  go_wp2_with fail
  refine (now_any t v _ 1 _ T3.out V3.out).mono ?_
  rintro e w4 ⟨rfl, q, rfl⟩
  have T4 : Hid (TableAt (w3.drewN q) t v) := T3
  have V4 : Hid (VersionAt (w3.drewN q) v (some ⟨g, 0, none⟩) 1) := V3
  go_wp2_with fail
  refine (change_no t v g _ 1 2 _ T4.out V4.out (by decide)).mono ?_
  rintro e _ ⟨rfl, rfl⟩
  go_wp2_with fail
  refine (change_ok t v g _ _ T4.out V4.out).mono ?_
  rintro e w5 ⟨rfl, v5, ht, hv, hb⟩
  have T5 := Lib.hid ht
  have V5 := Lib.hid hv
  have K5 : Hid (Keep w1 w5) := Lib.hid (hb.keep (K3.out.trans (Keep.drewN _ _)) htl3.out)
  clear ht hv hb
  go_wp2_with fail
  refine (now_any t v5 _ 2 _ T5.out V5.out).mono ?_
  rintro e w6 ⟨rfl, q6, rfl⟩
  have K6 : Hid (Keep w1 (w5.drewN q6)) := Lib.hid (K5.out.trans (Keep.drewN _ _))
  go_wp2_with fail
  refine (split_nil _ _).mono ?_
  rintro e _ ⟨rfl, rfl⟩
  go_wp2_with fail
  refine (shards_2 g _ (M1.out.keep K6.out)).mono ?_
  rintro e _ ⟨rfl, rfl⟩
  go_wp2_with fail
  refine (of_lit g _ 0 _ (M1.out.keep K6.out) (by rw [of_a]; rfl)).mono ?_
  rintro e w7 ⟨rfl, hk⟩
  have K7 := Lib.hid (K6.out.trans hk)
  clear hk
  go_wp2_with fail
  refine (of_lit g _ 1 _ (M1.out.keep K7.out) (by rw [of_g]; rfl)).mono ?_
  rintro e w8 ⟨rfl, hk⟩
  have K8 := Lib.hid (K7.out.trans hk)
  clear hk
  go_wp2_with fail
  refine (of_lit g _ 2 _ (M1.out.keep K8.out) (by rw [of_z]; rfl)).mono ?_
  rintro e w9 ⟨rfl, hk⟩
  have K9 := Lib.hid (K1.out.trans (K8.out.trans hk))
  clear hk
  go_wp2_with fail
  refine (shards_nil _).mono ?_
  rintro e _ ⟨rfl, rfl⟩
  go_wp2_with fail
  refine (change_nil _ 0 g rfl _).mono ?_
  rintro e _ ⟨rfl, rfl⟩
  go_wp2_with fail
  go_ret
  exact ⟨rfl, K9.out⟩
end Go.Proofs.Yteocoijkfkoddaa
