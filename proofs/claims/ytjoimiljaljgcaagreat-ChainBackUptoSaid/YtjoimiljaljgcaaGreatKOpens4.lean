/-
  What is read at the program's types: where a ray starts.
-/
import Derived.Test.YtjoimiljaljgcaaGreatMbp
import Derived.Test.YtjoimiljaljgcaaGreatMcd
namespace Go.K.S
open Go Go.K
set_option linter.unusedSimpArgs false
set_option maxRecDepth 20000
section
variable {H : Type} (B : Bulk H) (enc : TypeId × Value → H) (w : World)
theorem opens_start : Opens B enc P w T.penumbralaw15_Start 43 (fun x : StL => dSt Ψ (matsD x.sc.mats) (facesD x.sc.faces) x.sc x.face x.u x.v x.d x.bin)
  (fun b x => Scn b x.sc ∧ (-9223372036854775808 ≤ x.face ∧ x.face ≤ 9223372036854775807) ∧ Rn b x.u ∧ Rn b x.v ∧ Vn b x.d ∧ (-9223372036854775808 ≤ x.bin ∧ x.bin ≤ 9223372036854775807)) :=
 opens_map (opens_struct (t := T.penumbralaw15_Start) (und_of rfl rfl) (by kernel_rfl)
   (opensF_cons (f := { name := "Sc", type := T.api_Scene, offset := 0, embedded := false, tag := "", pkgPath := "", byteOffset := 0 }) rfl (opens_scene B enc w)
    (opensF_cons (f := { name := "Face", type := T.int, offset := 26, embedded := false, tag := "", pkgPath := "", byteOffset := 480 }) rfl (opens_int B enc w)
     (opensF_cons (f := { name := "U", type := T.api_Rat, offset := 27, embedded := false, tag := "", pkgPath := "", byteOffset := 488 }) rfl (opens_rat B enc w)
      (opensF_cons (f := { name := "V", type := T.api_Rat, offset := 30, embedded := false, tag := "", pkgPath := "", byteOffset := 544 }) rfl (opens_rat B enc w)
       (opensF_cons (f := { name := "D", type := T.api_Vec, offset := 33, embedded := false, tag := "", pkgPath := "", byteOffset := 600 }) rfl (opens_vec B enc w)
        (opensF_cons (f := { name := "Bin", type := T.int, offset := 42, embedded := false, tag := "", pkgPath := "", byteOffset := 768 }) rfl (opens_int B enc w) (opensF_nil _))))))))
  (fun x => ⟨x.1, x.2.1, x.2.2.1, x.2.2.2.1, x.2.2.2.2.1, x.2.2.2.2.2.1⟩) _ _ (fun _ => rfl) (fun _ => rfl) (fun _ _ _ hb h => ⟨Scn_mono hb h.1, h.2.1, h.2.2.1.mono hb, h.2.2.2.1.mono hb, h.2.2.2.2.1.mono hb, h.2.2.2.2.2⟩)
  (fun b x h => ⟨h.1, h.2.1, h.2.2.1, h.2.2.2.1, h.2.2.2.2.1, h.2.2.2.2.2.1⟩)
end
end Go.K.S
