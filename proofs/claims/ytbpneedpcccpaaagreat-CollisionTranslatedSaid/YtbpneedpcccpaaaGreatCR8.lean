/- Translating the whole cell translates the touching pairs, for every cell, every raw state and every vector of which the moved cell and state are valid. -/
import Derived.Test.YtbpneedpcccpaaaGreatRows
import Derived.Test.YtbpneedpcccpaaaGreatPart3
import Derived.Test.YtbpneedpcccpaaaGreatCKM2
import Derived.Test.YtbpneedpcccpaaaGreatCOR
set_option maxRecDepth 100000
set_option maxHeartbeats 4000000
set_option linter.unusedSimpArgs false
set_option linter.unusedVariables false
namespace Go.Proofs.YtbpneedpcccpaaaGreat
open Go Go.Zv
def tys8 : List (Bool × Ty):=[(true,tCell),(true,tRaw),(true,tS2)]
theorem row8 (args : List LV) (h : HasAll tys8 args) : pc E 8 args = some (.bool true):=by
 obtain ⟨x1,r1,rfl,⟨d1,rfl,k1⟩,x2,r2,rfl,⟨d2,rfl,k2⟩,x3,r3,rfl,⟨d3,rfl,k3⟩,rfl⟩:=h
 obtain ⟨c,rfl⟩:=has_cell k1
 obtain ⟨x,rfl,X⟩:=has_raw k2
 obtain ⟨a,b,rfl,h1,h2⟩:=has_s2 k3
 exact law8 c x a b c10 X h1 h2
theorem lifted8 (os : Os) (started : os.Started) (H : Type) (enc : TypeId × Value → H) :
  ReturnsInHanded {} Tryz.checked os 8 .any (Rows.collisionTranslatedSpec.pre6 enc Tryz.prog Tryz.f8 Rows.collisionTranslatedRow.domain false) (Rows.collisionTranslatedSpec.post enc Tryz.prog Tryz.f8 false true false false):=by
 refine returnsInHanded_of_change (C:=Tryz.checked) own started (by kernel_rfl) Tryz.func8
  (ChangeSpec.witness6 (enc:=enc) (C:=Tryz.checked) false ⟨#[],#[.agg #[.int .i64 0,.int .i64 0,.int .i64 0,.int .i64 0,.int .i64 0,.int .i64 0,.int .i64 0,.int .i64 0,.int .i64 0,.int .i64 0,.int .i64 0,.int .i64 0,.int .i64 0,.int .i64 0,.int .i64 0,.int .i64 0,.int .i64 0,.int .i64 0,.int .i64 0,.int .i64 0,.int .i64 0,.int .i64 0,.int .i64 0,.int .i64 0,.int .i64 0,.int .i64 0,.int .i64 0,.int .i64 0,.int .i64 0,.int .i64 0,.slice none 0 0,.slice none 0 0,.slice none 0 0,.slice none 0 0,.int .i64 0,.int .i64 0,.int .i64 0,.int .i64 0,.int .i64 0,.int .i64 0,.int .i64 0,.slice none 0 0,.int .i64 0,.int .i64 0],.agg #[.int .u8 0,.int .u8 0,.int .u8 0,.int .u8 0,.int .u8 0,.int .u8 0,.int .u8 0,.int .u8 0,.slice none 0 0],.agg #[.int .i16 0,.int .i16 0]],[]⟩ 8 (by kernel_rfl) (by kernel_rfl) (by kernel_rfl) (by kernel_rfl)) ?_
 intro W base args ds gs before hval hW _ _
 exact law_contract (C:=Tryz.checked) (tys:=tys8) (tb:=4) mixed E_ok laid (by kernel_rfl) (by kernel_rfl) Tryz.underlying4 (by kernel_rfl) row8 rfl (fun ds h=>by
  have h : ds.length = 3:=h
  match ds,h with
  | [d1,d2,d3],_=>rfl) W base args ds gs before hval hW
theorem named8 : Tryz.pinned.checked.prog.funcNamed Rows.collisionTranslatedRow.func = some 8:=by kernel_rfl
theorem joined8 : joinedFacts Tryz.prog 8 Tryz.f8 Rows.collisionTranslatedSpec Rows.collisionTranslatedRow = true:=by
 rw [joinedFacts.eq_1,enters_,lifts_,make_]
 kernel_rfl
theorem collisionTranslated : Rows.CollisionTranslatedSaid :=
 OpenClaim.holds_of_wide 8 Tryz.f8 rfl rfl rfl rfl rfl rfl rfl ⟨rfl,rfl,rfl,rfl,rfl⟩ rfl rfl rfl rfl rfl named8 Tryz.func8 joined8
  (of_decide_eq_true (by kernel_rfl)) (by unfold Func.isWrapper; first | (rw [if_pos (by decide +kernel)]; kernel_rfl) | (rw [if_neg (by decide +kernel)]; exact ⟨rfl,rfl⟩))
  (fun os started H enc _=>lifted8 os started H enc)
#print axioms collisionTranslated
end Go.Proofs.YtbpneedpcccpaaaGreat
