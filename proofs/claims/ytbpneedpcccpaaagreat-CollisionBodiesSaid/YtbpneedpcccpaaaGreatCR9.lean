/- For every valid state, Bodies returns six links, the carried parts, the resting parts and the fixtures, in this order and without duplicates, and all of them are valid polygons. -/
import Derived.Test.YtbpneedpcccpaaaGreatRows
import Derived.Test.YtbpneedpcccpaaaGreatPart3
import Derived.Test.YtbpneedpcccpaaaGreatCKMR
import Derived.Test.YtbpneedpcccpaaaGreatCOR
set_option maxRecDepth 100000
set_option maxHeartbeats 4000000
set_option linter.unusedSimpArgs false
set_option linter.unusedVariables false
namespace Go.Proofs.YtbpneedpcccpaaaGreat
open Go Go.Zv
def tys9 : List (Bool × Ty):=[(true,tCell),(true,tRaw)]
theorem row9 (args : List LV) (h : HasAll tys9 args) : pc E 9 args = some (.bool true):=by
 obtain ⟨x1,r1,rfl,⟨d1,rfl,k1⟩,x2,r2,rfl,⟨d2,rfl,k2⟩,rfl⟩:=h
 obtain ⟨c,rfl⟩:=has_cell k1
 obtain ⟨x,rfl,X⟩:=has_raw k2
 exact law9 c x c10 X
theorem lifted9 (os : Os) (started : os.Started) (H : Type) (enc : TypeId × Value → H) :
  ReturnsInHanded {} Tryz.checked os 9 .any (Rows.collisionBodiesSpec.pre6 enc Tryz.prog Tryz.f9 Rows.collisionBodiesRow.domain false) (Rows.collisionBodiesSpec.post enc Tryz.prog Tryz.f9 false true false false):=by
 refine returnsInHanded_of_change (C:=Tryz.checked) own started (by kernel_rfl) Tryz.func9
  (ChangeSpec.witness6 (enc:=enc) (C:=Tryz.checked) false ⟨#[],#[.agg #[.int .i64 0,.int .i64 0,.int .i64 0,.int .i64 0,.int .i64 0,.int .i64 0,.int .i64 0,.int .i64 0,.int .i64 0,.int .i64 0,.int .i64 0,.int .i64 0,.int .i64 0,.int .i64 0,.int .i64 0,.int .i64 0,.int .i64 0,.int .i64 0,.int .i64 0,.int .i64 0,.int .i64 0,.int .i64 0,.int .i64 0,.int .i64 0,.int .i64 0,.int .i64 0,.int .i64 0,.int .i64 0,.int .i64 0,.int .i64 0,.slice none 0 0,.slice none 0 0,.slice none 0 0,.slice none 0 0,.int .i64 0,.int .i64 0,.int .i64 0,.int .i64 0,.int .i64 0,.int .i64 0,.int .i64 0,.slice none 0 0,.int .i64 0,.int .i64 0],.agg #[.int .u8 0,.int .u8 0,.int .u8 0,.int .u8 0,.int .u8 0,.int .u8 0,.int .u8 0,.int .u8 0,.slice none 0 0]],[]⟩ 8 (by kernel_rfl) (by kernel_rfl) (by kernel_rfl) (by kernel_rfl)) ?_
 intro W base args ds gs before hval hW _ _
 exact law_contract (C:=Tryz.checked) (tys:=tys9) (tb:=4) mixed E_ok laid (by kernel_rfl) (by kernel_rfl) Tryz.underlying4 (by kernel_rfl) row9 rfl (fun ds h=>by
  have h : ds.length = 2:=h
  match ds,h with
  | [d1,d2],_=>rfl) W base args ds gs before hval hW
theorem named9 : Tryz.pinned.checked.prog.funcNamed Rows.collisionBodiesRow.func = some 9:=by kernel_rfl
theorem joined9 : joinedFacts Tryz.prog 9 Tryz.f9 Rows.collisionBodiesSpec Rows.collisionBodiesRow = true:=by
 rw [joinedFacts.eq_1,enters_,lifts_,make_]
 kernel_rfl
theorem collisionBodies : Rows.CollisionBodiesSaid :=
 OpenClaim.holds_of_wide 9 Tryz.f9 rfl rfl rfl rfl rfl rfl rfl ⟨rfl,rfl,rfl,rfl,rfl⟩ rfl rfl rfl rfl rfl named9 Tryz.func9 joined9
  (of_decide_eq_true (by kernel_rfl)) (by unfold Func.isWrapper; first | (rw [if_pos (by decide +kernel)]; kernel_rfl) | (rw [if_neg (by decide +kernel)]; exact ⟨rfl,rfl⟩))
  (fun os started H enc _=>lifted9 os started H enc)
#print axioms collisionBodies
end Go.Proofs.YtbpneedpcccpaaaGreat
