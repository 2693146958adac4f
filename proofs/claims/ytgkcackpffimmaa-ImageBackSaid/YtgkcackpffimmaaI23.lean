/- The image: a network whose lists are laid anew may be as before. -/
import Derived.Test.YtgkcackpffimmaaI21
import Derived.Test.YtgkcackpffimmaaG2
set_option linter.unusedVariables false
set_option linter.unusedSimpArgs false
set_option maxRecDepth 10000
set_option maxHeartbeats 4000000
namespace Go.Proofs.Ytgkcackpffimmaa
open Go.TM

def normC (c : Cfg) : Cfg := ⟨c.hosts, rowOf c.parts.l, c.major, rowOf c.wins.l, rowOf (c.vls.l.map normL), rowOf c.ports.l⟩
theorem nth_map {l : List Link} {i : Nat} (h : i < l.length) : nth (l.map normL) i = normL (nth l i) := by
  rw [nth_eq (by simpa using h), nth_eq h, List.getElem_map]
theorem endOf_norm (c : Cfg) (h : Int) : ∀ i, endOf (normC c) h i = endOf c h i
  | 0 => rfl
  | i + 1 => by rw [endOf, endOf, endOf_norm c h i]; rfl
theorem jitL_norm (h : Int) : ∀ l : List Link, jitL h (l.map normL) = jitL h l
  | [] => rfl
  | v :: l => by rw [List.map_cons, jitL, jitL, jitL_norm h l]; rfl
theorem findL_norm (id : Int) : ∀ l : List Link, findL (l.map normL) id = (findL l id).map normL
  | [] => rfl
  | v :: l => by
    have ih := findL_norm id l
    unfold findL at *
    rw [List.map_cons, List.find?_cons, List.find?_cons]
    by_cases q : (v.id == id) = true
    · rw [show ((normL v).id == id) = true from q, q]; rfl
    · have q : (v.id == id) = false := by simpa using q
      rw [show ((normL v).id == id) = false from q, q]; exact ih
theorem OkC.norm {c : Cfg} (h : OkC c) : OkC (normC c) where
  hosts := h.hosts
  parts k hk := h.parts k hk
  major := h.major
  wins k hk := by
    have := h.wins k hk
    unfold winS at this ⊢
    rw [endOf_norm]
    exact this
  links k hk := by
    have hk : k < c.vls.l.length := by simpa [normC, rowOf] using hk
    have h1 := h.links k hk
    have e1 : nth (normC c).vls.l k = normL (nth c.vls.l k) := nth_map hk
    have e0 : nth (normC c).vls.l (k - 1) = normL (nth c.vls.l (k - 1)) := nth_map (by omega)
    unfold linkS at h1 ⊢
    rw [e1, e0]
    exact h1
  ports k hk := by
    have h1 := h.ports k hk
    unfold portS at h1 ⊢
    have e : findL (normC c).vls.l (nth (normC c).ports.l k).vl = (findL c.vls.l (nth c.ports.l k).vl).map normL := findL_norm _ _
    rw [e]
    cases hf : findL c.vls.l (nth c.ports.l k).vl with
    | none => rw [hf] at h1; exact h1
    | some v => rw [hf] at h1; exact h1
  late k hk := by
    have h1 := h.late k hk
    unfold lateS jitS at h1 ⊢
    rw [show (normC c).vls.l = c.vls.l.map normL from rfl, jitL_norm]
    exact h1
theorem openL_seal (l : List UInt8) : openL (sealL l) = (l, 0) := by
  have h1 : (sealL l).length = l.length + 4 := by simp [sealL]
  have h2 : (sealL l).take ((sealL l).length - 4) = l := by
    rw [h1, Nat.add_sub_cancel]
    unfold sealL
    exact List.take_left' rfl
  rw [openL, if_neg (by omega), h2, if_pos rfl]
/-- What was encoded is loaded as the same network, laid anew. -/
theorem load_back {c : Cfg} (hc : (checkS c).2.2 = 0) (hf : FewC c) (hid : ∀ p ∈ c.ports.l, p.id ≤ 4294967295) : loadL (sealL (imgL c)) = (normC c, 0) := by
  obtain ⟨d, e1, e2, e3, e4⟩ := read_net (mayC hc) hf hid
  have e2 : netC11 (d, 0) = normC c := e2
  have hk := (okC_of hc).norm.check
  rw [loadL, openL_seal]
  dsimp only
  rw [if_neg (by decide), e1, loadT, if_neg (by simp), if_neg (by simp)]
  have hd : (([65, 70, 68, 88, 0, 1] : List UInt8) ++ d).drop 6 = d := rfl
  rw [hd]
  rw [loadN, e4, if_neg (by decide), e3, if_neg (by decide), if_neg (by decide), e2, hk, if_neg (by decide)]
end Go.Proofs.Ytgkcackpffimmaa
