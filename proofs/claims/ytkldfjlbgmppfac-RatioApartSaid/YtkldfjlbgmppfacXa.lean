import Derived.Test.YtkldfjlbgmppfacSw
namespace Go.Proofs.Ytkldfjlbgmppfac.Fl
open Go.RowKit Go.Proofs.YtkldfjlbgmppfacW.PrintWords Go.Proofs.YtkldfjlbgmppfacW.PrintLast Go.Proofs.YtkldfjlbgmppfacW.PrintMore
set_option linter.unusedVariables false
set_option linter.unusedSimpArgs false

/-- A share as an element. -/
def cxv (p : Int × Int) : Value := .complex .f64 (W p.1) (W p.2)
def rdc (xs : List (Int × Int)) (i : Int) : Int × Int := rdOf (0, 0) xs i
def Ok (p : Int × Int) : Prop := (1 ≤ p.1 ∧ p.1 ≤ 16777216) ∧ 0 ≤ p.2 ∧ p.2 ≤ 16777216

theorem at_cx {w : World} {A : Option Addr} {n : Nat} {xs : List (Int × Int)} (h : ReadsOf cxv (0, 0) w A n xs) (i : Int) (h0 : 0 ≤ i) (h1 : i < n) :
    ∃ ad, A = some ad ∧ w.cell? (ad.add i.toNat) = some (.complex .f64 (W (rdc xs i).1) (W (rdc xs i).2)) :=
  ReadsOf.at_ h i h0 h1
theorem rdc_mem {xs : List (Int × Int)} {i : Int} (h0 : 0 ≤ i) (h1 : i < xs.length) : rdc xs i ∈ xs := by
  unfold rdc rdOf
  have : i.toNat < xs.length := by omega
  simp [List.getD_eq_getElem?_getD, this]

/-! A pair of the law. -/
structure S30 where
  f0 : Int
  f1 : Int
def z30 : S30 := ⟨(0 : Int), (0 : Int)⟩
def k30 : Kd S30 := Kd.iso (Kd.pair (Kd.int .i64) (Kd.int .i64)) (fun x : S30 => (x.f0, x.f1))
theorem k30_open {w : World} {x : S30} {cs : List Value} (h : k30.K w x cs) : cs = [.int .i64 x.f0, .int .i64 x.f1] := by
  obtain ⟨_, _, rfl, rfl, rfl⟩ := h
  exact rfl
theorem k30_mk (w : World) (x : S30) : k30.K w x [.int .i64 x.f0, .int .i64 x.f1] := ⟨[.int .i64 x.f0], [.int .i64 x.f1], rfl, rfl, rfl⟩
def rdp (xs : List S30) (i : Int) : S30 := xs.getD i.toNat z30
theorem at_pair {w : World} {A : Option Addr} {n : Nat} {xs : List S30} (h : Kd.C k30 w A n xs) (i : Int) (h0 : 0 ≤ i) (h1 : i < n) : ∃ ad, A = some ad ∧ w.cell? (ad.add (i.toNat * 2)) = some (.int .i64 (rdp xs i).f0) ∧ w.cell? ⟨(ad.add (i.toNat * 2)).block, (ad.add (i.toNat * 2)).off + 1, none⟩ = some (.int .i64 (rdp xs i).f1) := by
  obtain ⟨ad, c, e, _, hK, hc0⟩ := Kd.C_get h z30 i h0 h1
  have hc : ∀ j u, c[j]? = some u → w.cell? (ad.add (i.toNat * 2 + j)) = some u := hc0
  obtain rfl := k30_open hK
  exact ⟨ad, e, hc 0 _ rfl, by rw [← add_field _ _ 1 (by omega)]; exact hc 1 _ rfl⟩
/-- A pair's share. -/
def shp (p : S30) : Int × Int := (cut1 p.f0, cut p.f1)
theorem shp_ok (p : S30) : Ok (shp p) := ⟨cut1_range _, cut_range _⟩
def shs (l : List S30) (i : Nat) : List (Int × Int) := (l.take i).map shp
theorem shs_length (l : List S30) (i : Nat) (h : i ≤ l.length) : (shs l i).length = i := by simp [shs]; omega
theorem shs_succ (l : List S30) (i : Nat) (h : i < l.length) : shs l (i + 1) = shs l i ++ [shp (rdp l i)] := by
  unfold shs
  rw [List.take_succ_eq_append_getElem h, List.map_append]
  simp [rdp, List.getD_eq_getElem?_getD, List.getElem?_eq_getElem h]
theorem shs_ok (l : List S30) (i : Nat) : ∀ p ∈ shs l i, Ok p := by
  intro p hp
  obtain ⟨q, _, rfl⟩ := List.mem_map.1 hp
  exact shp_ok q
theorem encs_snoc (xs : List (Int × Int)) (p : Int × Int) : encs cxv (xs ++ [p]) = encs cxv xs ++ [.complex .f64 (W p.1) (W p.2)] := by simp [encs, cxv]
end Go.Proofs.Ytkldfjlbgmppfac.Fl
