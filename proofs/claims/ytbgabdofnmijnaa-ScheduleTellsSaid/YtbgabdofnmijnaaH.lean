/- fates; source. -/
import Derived.Test.YtbgabdofnmijnaaG
namespace Go.Proofs.Ytbgabdofnmijnaa
open Go.RowKit
/-- how a transaction ends; 0: it doesn't. -/
def fateF (l : List Mk) (x : Int) : Int := l.foldl (fun acc m => if m.tx == x && endB m then m.kind else acc) 0
theorem fateF_succ (l : List Mk) (x : Int) (k : Nat) (hk : k < l.length) : fateF (l.take (k + 1)) x = if l[k].tx == x && endB l[k] then l[k].kind else fateF (l.take k) x := by
  unfold fateF
  rw [List.take_succ_eq_append_getElem hk, List.foldl_append]; rfl
set_option maxRecDepth 100000 in
set_option maxHeartbeats 2000000 in
theorem fates_any (a : Option Addr) (n c : Nat) (l : List Mk) (w : World) (hr : MksAt w a n l) (hn : n ≤ 1000000) :
    Calls Try.prog 29 #[.slice a n c] w fun e w' => ∃ b nm, e = .returned (.map (some b)) ∧ nm ≤ n ∧ Made w (MapA b nm (fateF l)) w' := by
  have HE := Lib.hid ends_any
  have HL := Lib.hid hr.1
  have HR := Lib.hid hr
  have HW : Hid (∀ x : Mk, x ∈ l → Wf x.tx ∧ Wf x.kind) := Lib.hid fun x hx => ⟨wf_of (hr.bd x hx).2.2.1 (hr.bd x hx).2.2.2.1, wf_of (hr.bd x hx).1 (hr.bd x hx).2.1⟩
  clear hr
  have HT : Hid (l.take n = l) := Lib.hid (by rw [HL.out, List.take_length])
  have hmm := @run_makeMap Try.prog
  go_enter Try.func29, Try.ntmps29
  go_wp2_with fail
  have M1 := Lib.hid (show Mem w [] (w.alloc (.map #[] 0)) [MapA w.heap.size 0 (fateF (l.take 0))] from (Mem.nil w).new (bel_new _ _) (As := [MapA w.heap.size 0 (fun _ => 0)]) (all_one (MapA.made w)) (by simp))
  generalize w.heap.size = bm at *
  go_loopw [5, 9] (fun _ j wr => ∃ k nm : Nat, k ≤ n ∧ nm ≤ k ∧ j = .int .i64 k ∧ Hid (Mem w [] wr [MapA bm nm (fateF (l.take k))])) (fun _ j _ => n - (intOf j).toNat)
  case atStart => exact ⟨0, 0, Nat.zero_le _, Nat.le_refl _, rfl, M1⟩
  case round =>
    obtain ⟨k, nm, hk, hnm, rfl, M2⟩ := hrel
    clear M1 hmm
    by_cases hlt : k < n
    · have hlt' : k < l.length := by rw [← HL.out]; exact hlt
      obtain ⟨g, off, rfl, hcA, hcB, hcD⟩ := (HR.out.below M2.out.bel).at k hlt'
      obtain ⟨hwf, hwk⟩ := HW.out _ (List.getElem_mem hlt')
      have M3 := Lib.hid (M2.out.block #[.int .i64 l[k].kind, .int .i64 l[k].tx, .string l[k].key] 36)
      have HEN := Lib.hid (HE.out l[k])
      have HSU := Lib.hid fun x => fateF_succ l x k hlt'
      have HPUT := Lib.hid fun (W : World) (h : Mem w [] W ([BlockA wr.heap.size #[.int .i64 l[k].kind, .int .i64 l[k].tx, .string l[k].key] 36] ++ MapA bm nm (fateF (l.take k)) :: [])) => Mem.mapPut (v := l[k].kind) [BlockA wr.heap.size #[.int .i64 l[k].kind, .int .i64 l[k].tx, .string l[k].key] 36] h hwf hwk (by unfold maxLen; omega)
      clear hwf M2 hwk
      generalize l[k] = x at *
      obtain ⟨xk, xt, xy⟩ := x
      simp only at hcA hcB hcD M3 HPUT HSU HEN
      obtain ⟨k0, k1, k2⟩ := box_cells M3.out
      go_wp2_with fail
      refine (HEN.out _).mono ?_
      rintro e w2 ⟨rfl, hb⟩
      have M4 := Lib.hid (M3.out.below hb)
      clear hb k0 k1 k2
      cases hen : endB ⟨xk, xt, xy⟩ with
      | true =>
        obtain ⟨w3, hrun, hm⟩ := HPUT.out w2 M4.out
        have HRUN := Lib.hid hrun
        obtain ⟨k0, k1, k2⟩ := box_cells M4.out
        have M5 := Lib.hid (show Mem w [] w3 [MapA bm (nm + 1) (fateF (l.take (k + 1)))] from by
          have h1 := Mem.drop [] (A := BlockA wr.heap.size #[.int .i64 xk, .int .i64 xt, .string xy] 36) (r := [MapA bm (nm + 1) (fun y => if y = xt then xk else fateF (l.take k) y)]) hm
          have h2 : (fun y => if y = xt then xk else fateF (l.take k) y) = fateF (l.take (k + 1)) := by
            funext y
            rw [HSU.out y, hen]
            by_cases e : y = xt
            · subst e; simp
            · simp [e, show ¬ xt = y from fun h => e h.symm]
          rw [h2] at h1
          exact h1)
        clear hrun hm hen M4 M3 HPUT HSU
        go_wp2_with ((at_mapUpdate; refine wpList_mapUpdateR _ rfl (.tmp 15) (.tmp 17) (.tmp 19) 46 rfl (.map (some bm)) (.int .i64 xt) (.int .i64 xk) rfl rfl rfl HRUN.out ?_))
        go_roundw
        case rel => exact ⟨k + 1, nm + 1, by omega, by omega, by go_num, M5⟩
        case measure => simp [intOf]; omega
      | false =>
        have M5 := Lib.hid (show Mem w [] w2 [MapA bm nm (fateF (l.take (k + 1)))] from by
          have h1 := Mem.drop [] (A := BlockA wr.heap.size #[.int .i64 xk, .int .i64 xt, .string xy] 36) (r := [MapA bm nm (fateF (l.take k))]) M4.out
          have h2 : fateF (l.take k) = fateF (l.take (k + 1)) := by
            funext y
            rw [HSU.out y, hen]; simp
          rw [h2] at h1
          exact h1)
        clear hen M4 M3 HPUT HSU
        go_wp2_with fail
        go_roundw
        case rel => exact ⟨k + 1, nm, by omega, by omega, by go_num, M5⟩
        case measure => simp [intOf]; omega
    · obtain rfl : k = n := by omega
      have M5 := Lib.hid (show Made w (MapA bm nm (fateF l)) wr from by
        have := M2.out
        rw [HT.out] at this
        exact this.toMade)
      clear M2 HT
      go_wp2_with fail
      go_ret
      exact ⟨bm, nm, rfl, hnm, M5.out⟩
/-- was a transaction aborted between two places? -/
def goneB (l : List Mk) (at_ : Nat) (tx : Int) (k : Nat) : Bool := ((l.take at_).drop k).any fun m => m.kind == 4 && m.tx == tx
theorem goneB_at (l : List Mk) (at_ : Nat) (tx : Int) : goneB l at_ tx at_ = false := by
  unfold goneB
  rw [List.drop_eq_nil_of_le (by rw [List.length_take]; omega)]; rfl
theorem goneB_step (l : List Mk) (at_ : Nat) (tx : Int) (k : Nat) (h : k < at_) (hk : k < l.length) : goneB l at_ tx k = ((l[k].kind == 4 && l[k].tx == tx) || goneB l at_ tx (k + 1)) := by
  unfold goneB
  have hk' : k < (l.take at_).length := by rw [List.length_take]; omega
  rw [List.drop_eq_getElem_cons hk', List.any_cons, List.getElem_take]
def hitB (l : List Mk) (at_ : Nat) (key : ByteArray) (k : Nat) (m : Mk) : Bool := m.kind == 2 && m.key.toList == key.toList && !goneB l at_ m.tx k
/-- the source, looked for below a place. -/
def srcGo (l : List Mk) (at_ : Nat) (key : ByteArray) : Nat → Int
  | 0 => -1
  | k + 1 => if hitB l at_ key k l[k]! then l[k]!.tx else srcGo l at_ key k
def sourceM (l : List Mk) (at_ : Nat) : Int := srcGo l at_ l[at_]!.key at_
theorem srcGo_succ (l : List Mk) (at_ : Nat) (key : ByteArray) (k : Nat) (hk : k < l.length) : srcGo l at_ key (k + 1) = if hitB l at_ key k l[k] then l[k].tx else srcGo l at_ key k := by
  rw [srcGo, getElem!_pos l k hk]
end Go.Proofs.Ytbgabdofnmijnaa
