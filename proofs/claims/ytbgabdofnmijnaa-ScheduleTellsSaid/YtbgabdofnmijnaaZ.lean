/- The fixed calls. -/
import Derived.Test.YtbgabdofnmijnaaY
namespace Go.Proofs.Ytbgabdofnmijnaa
open Go.RowKit
abbrev kX : ByteArray := ⟨#[120]⟩
abbrev kN : ByteArray := ⟨#[]⟩
def FL : List Mk := [⟨2, 0, kX⟩, ⟨1, 1, kX⟩, ⟨3, 1, kN⟩, ⟨3, 0, kN⟩]
def FL1 : List Mk := [⟨2, 0, kX⟩]
def FM : List Mk := [⟨1, 1, kX⟩, ⟨3, 1, kN⟩, ⟨2, 0, kX⟩, ⟨3, 0, kN⟩]
theorem fx_right : rightM FL = 0 := by decide +kernel
theorem fx_right1 : rightM FL1 = 0 := by decide +kernel
theorem fx_right8 : rightM [⟨3, 0, kN⟩, ⟨3, 0, kN⟩] = 8 := by decide +kernel
theorem fx_rightA : rightM [⟨0, 0, kN⟩] = 1 := by decide +kernel
theorem fx_edUp : (edUp FL FL.length).map (fun e => (e.a, e.b)) = [(0, 1)] := by decide +kernel
theorem map_pair {l : List Eg} {p : List (Int × Int)} (h : l.map (fun e => (e.a, e.b)) = p) : l = p.map fun q => ⟨q.1, q.2⟩ := by
  subst h
  rw [List.map_map]
  exact (List.map_id l).symm
theorem fx_edges {E : List Eg} (h : IsEdges FL E) : E = [⟨0, 1⟩] := by
  unfold IsEdges at h
  rw [if_pos fx_right] at h
  obtain ⟨S, h1, _, rfl⟩ := h
  rw [map_pair fx_edUp] at h1
  have h2 : S = [⟨0, 1⟩] := List.perm_singleton.1 h1
  rw [h2]; rfl
theorem fx_allUp : allUp FL FL.length = [0, 1, 1, 0] := by decide +kernel
theorem fx_all : allM FL = [0, 1] := by
  unfold allM
  rw [fx_allUp]
  refine strict_ext (rise_strict _) (by decide) fun x => ?_
  rw [rise_mem]
  simp only [List.mem_cons, List.not_mem_nil, or_false]
  omega
theorem fx_order {O : List Int} {ok : Bool} (h : IsOrder FL O ok) : O = [0, 1] ∧ ok = true := by
  unfold IsOrder at h
  rw [if_pos fx_right] at h
  obtain ⟨E, h1, h2⟩ := h
  rw [fx_edges h1, fx_all] at h2
  exact h2
theorem fx_srcs : (srcsUp FL FL.length).map (fun e => (e.tx, e.wr)) = [(1, 0)] := by decide +kernel
theorem fx_sources : sourcesM FL = [⟨1, 0⟩] := by
  unfold sourcesM
  rw [if_pos fx_right]
  have h := fx_srcs
  match hs : srcsUp FL FL.length, h with
  | [⟨x, y⟩], h =>
    simp only [List.map_cons, List.map_nil, List.cons.injEq, Prod.mk.injEq, and_true] at h
    rw [h.1, h.2]
theorem fx_serial : serM FL [1, 0, 1] = FM := by
  unfold serM
  rw [if_pos fx_right]; rfl
theorem fx_rec : readsB FL (recH FL) = false := by decide +kernel
theorem fx_str : apartB FL strT = false := by decide +kernel
theorem fx_rig1 : apartB FL1 rigT = true := by decide +kernel
theorem fx_cas1 : readsB FL1 (casH FL1) = true := by decide +kernel
theorem fx_rec1 : readsB FL1 (recH FL1) = true := by decide +kernel
end Go.Proofs.Ytbgabdofnmijnaa
