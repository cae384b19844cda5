/- Right; fates. -/
import Derived.Test.YtbgabdofnmijnaaF
namespace Go.Proofs.Ytbgabdofnmijnaa
open Go.RowKit
instance : Inhabited Mk := ⟨⟨0, 0, ⟨#[]⟩⟩⟩
/-- has a transaction ended ahead of a place? -/
def endsB (l : List Mk) (tx : Int) (k : Nat) : Bool := (l.take k).any fun m => m.tx == tx && endB m
theorem endsB_zero (l : List Mk) (tx : Int) : endsB l tx 0 = false := by simp [endsB]
theorem endsB_succ (l : List Mk) (tx : Int) (k : Nat) (hk : k < l.length) : endsB l tx (k + 1) = (endsB l tx k || (l[k].tx == tx && endB l[k])) := by
  unfold endsB
  rw [List.take_succ_eq_append_getElem hk, List.any_append]; simp
def overB (l : List Mk) : Bool := (List.range l.length).any fun i => endsB l l[i]!.tx i
theorem overB_true {l : List Mk} (k : Nat) (hk : k < l.length) (h : endsB l l[k].tx k = true) : overB l = true :=
  List.any_eq_true.2 ⟨k, by simpa using hk, by rw [getElem!_pos l k hk]; exact h⟩
theorem overB_false {l : List Mk} (h : ∀ k (hk : k < l.length), endsB l l[k].tx k = false) : overB l = false := by
  unfold overB
  rw [List.any_eq_false]
  intro k hk
  have hk' : k < l.length := by simpa using hk
  rw [getElem!_pos l k hk', h k hk']; simp
def rightM (l : List Mk) : Int := if 256 < (l.length : Int) then 4 else if l.any oddB then 1 else if overB l then 8 else 0
abbrev eIf (b : Bool) : Int := if b then 1 else 0
set_option maxRecDepth 100000 in
set_option maxHeartbeats 2000000 in
theorem right_any (a : Option Addr) (n c : Nat) (l : List Mk) (w : World) (hr : MksAt w a n l) (hn : n ≤ 1000000) :
    Calls Try.prog 13 #[.slice a n c] w fun e w' => e = .returned (.int .i64 (rightM l)) ∧ Below w.heap.size w w' := by
  have HO := Lib.hid (odds_any a n c l w hr hn)
  have HE := Lib.hid ends_any
  have HL := Lib.hid hr.1
  have HR := Lib.hid hr
  have HW : Hid (∀ x : Mk, x ∈ l → Wf x.tx) := Lib.hid fun x hx => wf_of (hr.bd x hx).2.2.1 (hr.bd x hx).2.2.2.1
  have HQ : Hid (rightM l = if 256 < (n : Int) then 4 else if l.any oddB then 1 else if overB l then 8 else 0) := Lib.hid (by rw [HL.out]; rfl)
  clear hr
  generalize rightM l = q at *
  by_cases h0 : 256 < (n : Int)
  · have HQ2 := HQ.out
    rw [if_pos h0] at HQ2
    subst HQ2
    clear HQ
    go_enter Try.func13, Try.ntmps13
    go_wp2_with fail
    go_ret
    exact ⟨rfl, Below.refl _ _⟩
  · have HQ1 := HQ.out
    rw [if_neg h0] at HQ1
    clear HQ
    cases ho : l.any oddB with
    | true =>
      rw [ho] at HO HQ1
      rw [if_pos rfl] at HQ1
      subst HQ1
      clear ho
      go_enter Try.func13, Try.ntmps13
      go_wp2_with fail
      refine HO.out.mono ?_
      rintro e w1 ⟨rfl, hb⟩
      have HB := Lib.hid hb
      clear hb
      go_wp2_with fail
      go_ret
      exact ⟨rfl, HB.out⟩
    | false =>
      rw [ho] at HO HQ1
      rw [if_neg (by simp)] at HQ1
      clear ho
      have HQ2 := Lib.hid HQ1
      clear HQ1
      have hmm := @run_makeMap Try.prog
      go_enter Try.func13, Try.ntmps13
      go_wp2_with fail
      refine HO.out.mono ?_
      rintro e w1 ⟨rfl, hb⟩
      have M1 := Lib.hid (show Mem w [] (w1.alloc (.map #[] 0)) [MapA w1.heap.size 0 (fun x => eIf (endsB l x 0))] from by
        have : Mem w [] (w1.alloc (.map #[] 0)) [MapA w1.heap.size 0 (fun _ => 0)] := ((Mem.nil w).below hb).new (bel_new _ _) (As := [MapA w1.heap.size 0 (fun _ => 0)]) (all_one (MapA.made w1)) (by simp)
        simpa only [endsB_zero, eIf, Bool.false_eq_true, if_false] using this)
      clear hb HO
      go_wp2_with fail
      generalize w1.heap.size = bm at *
      go_loopw [5, 16] (fun _ j wr => ∃ k nm : Nat, k ≤ n ∧ nm ≤ k ∧ j = .int .i64 k ∧ Hid ((∀ i (h : i < l.length), i < k → endsB l l[i].tx i = false) ∧ Mem w [] wr [MapA bm nm (fun x => eIf (endsB l x k))])) (fun _ j _ => n - (intOf j).toNat)
      case atStart => exact ⟨0, 0, Nat.zero_le _, Nat.le_refl _, rfl, Lib.hid ⟨fun i h hi => by omega, M1.out⟩⟩
      case round =>
        obtain ⟨k, nm, hk, hnm, rfl, HS⟩ := hrel
        clear M1 hmm
        have HALL := Lib.hid HS.out.1
        have M2 := Lib.hid HS.out.2
        clear HS
        by_cases hlt : k < n
        · have hlt' : k < l.length := by rw [← HL.out]; exact hlt
          obtain ⟨g, off, rfl, hcA, hcB, hcD⟩ := (HR.out.below M2.out.bel).at k hlt'
          have hwf := HW.out _ (List.getElem_mem hlt')
          have M3 := Lib.hid (M2.out.block #[.int .i64 l[k].kind, .int .i64 l[k].tx, .string l[k].key] 36)
          have HGET := Lib.hid (Mem.mapGet [BlockA wr.heap.size #[.int .i64 l[k].kind, .int .i64 l[k].tx, .string l[k].key] 36] M3.out hwf)
          have HEN := Lib.hid (HE.out l[k])
          have HSU := Lib.hid fun x => endsB_succ l x k hlt'
          have HWK := Lib.hid hwf
          have HPUT := Lib.hid fun (W : World) (h : Mem w [] W ([BlockA wr.heap.size #[.int .i64 l[k].kind, .int .i64 l[k].tx, .string l[k].key] 36] ++ MapA bm nm (fun x => eIf (endsB l x k)) :: [])) => Mem.mapPut (v := 1) [BlockA wr.heap.size #[.int .i64 l[k].kind, .int .i64 l[k].tx, .string l[k].key] 36] h hwf (wf_of (by decide) (by decide)) (by unfold maxLen; omega)
          have HB := Lib.hid (show Mem w [] _ ([BlockA wr.heap.size #[.int .i64 l[k].kind, .int .i64 l[k].tx, .string l[k].key] 36] ++ MapA bm nm (fun x => eIf (endsB l x k)) :: []) from M3.out)
          clear hwf M2
          cases hov : endsB l l[k].tx k with
          | true =>
            have HF : Hid (q = 8) := Lib.hid (by have := HQ2.out; rw [overB_true k hlt' hov, if_pos rfl] at this; exact this)
            simp only [hov, eIf, if_true] at HGET
            clear hov HPUT HEN HSU
            generalize l[k] = x at *
            obtain ⟨xk, xt, xy⟩ := x
            simp only at hcA hcB hcD HGET M3
            have hget := HGET.out
            go_wp2_with fail
            go_ret
            exact ⟨by rw [HF.out]; rfl, M3.out.bel⟩
          | false =>
            have HALL2 : Hid (∀ i (h : i < l.length), i < k + 1 → endsB l l[i].tx i = false) := Lib.hid fun i h hi => by
              by_cases e : i = k
              · subst e; exact hov
              · exact HALL.out i h (by omega)
            simp only [hov, eIf, Bool.false_eq_true, if_false] at HGET
            clear hov
            generalize l[k] = x at *
            obtain ⟨xk, xt, xy⟩ := x
            simp only at hcA hcB hcD HGET M3 HPUT HSU HB HEN
            have hget := HGET.out
            obtain ⟨k0, k1, k2⟩ := box_cells M3.out
            go_wp2_with fail
            refine (HEN.out _).mono ?_
            rintro e w2 ⟨rfl, hb⟩
            have M4 := Lib.hid (HB.out.below hb)
            clear hb hget HGET
            cases hen : endB ⟨xk, xt, xy⟩ with
            | true =>
              obtain ⟨w3, hrun, hm⟩ := HPUT.out w2 M4.out
              have HRUN := Lib.hid hrun
              obtain ⟨k0, k1, k2⟩ := box_cells (l := [MapA bm nm (fun x => eIf (endsB l x k))]) M4.out
              have M5 := Lib.hid (show Mem w [] w3 [MapA bm (nm + 1) (fun x => eIf (endsB l x (k + 1)))] from by
                have h1 := Mem.drop [] (A := BlockA wr.heap.size #[.int .i64 xk, .int .i64 xt, .string xy] 36) (r := [MapA bm (nm + 1) (fun y => if y = xt then (1 : Int) else eIf (endsB l y k))]) hm
                have h2 : (fun y => if y = xt then (1 : Int) else eIf (endsB l y k)) = fun x => eIf (endsB l x (k + 1)) := by
                  funext y
                  rw [HSU.out y, hen]
                  by_cases e : y = xt
                  · subst e; simp [eIf]
                  · simp [e, eIf, show ¬ xt = y from fun h => e h.symm]
                rw [h2] at h1
                exact h1)
              clear hrun hm hen M4 M3 HPUT HSU
              go_wp2_with ((at_mapUpdate; refine wpList_mapUpdateR _ rfl (.tmp 27) (.tmp 29) (.const (.int .i64 1)) 46 rfl (.map (some bm)) (.int .i64 xt) (.int .i64 1) rfl rfl rfl HRUN.out ?_))
              go_roundw
              case rel => exact ⟨k + 1, nm + 1, by omega, by omega, by go_num, Lib.hid ⟨HALL2.out, M5.out⟩⟩
              case measure => simp [intOf]; omega
            | false =>
              have M5 := Lib.hid (show Mem w [] w2 [MapA bm nm (fun x => eIf (endsB l x (k + 1)))] from by
                have h1 := Mem.drop [] (A := BlockA wr.heap.size #[.int .i64 xk, .int .i64 xt, .string xy] 36) (r := [MapA bm nm (fun x => eIf (endsB l x k))]) M4.out
                have h2 : (fun y => eIf (endsB l y k)) = fun x => eIf (endsB l x (k + 1)) := by
                  funext y
                  rw [HSU.out y, hen]; simp
                rw [h2] at h1
                exact h1)
              clear hen M4 M3 HPUT HSU
              go_wp2_with fail
              go_roundw
              case rel => exact ⟨k + 1, nm, by omega, by omega, by go_num, Lib.hid ⟨HALL2.out, M5.out⟩⟩
              case measure => simp [intOf]; omega
        · obtain rfl : k = n := by omega
          have HF : Hid (q = 0) := Lib.hid (by
            have := HQ2.out
            rw [overB_false (fun i hi => HALL.out i hi (by rw [HL.out]; exact hi))] at this
            simpa using this)
          have HF2 := HF.out
          subst HF2
          have HBE := Lib.hid M2.out.bel
          clear HALL M2 HF HQ2
          go_wp2_with fail
          go_ret
          exact ⟨rfl, HBE.out⟩
end Go.Proofs.Ytbgabdofnmijnaa
