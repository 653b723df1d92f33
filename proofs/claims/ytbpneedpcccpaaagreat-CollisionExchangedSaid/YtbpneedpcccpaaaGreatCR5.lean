/- Exchanging both arms and the parts they hold preserves the forbidden pairs and the touching pairs, for every cell and every raw state. -/
import Derived.Test.YtbpneedpcccpaaaGreatRows
import Derived.Test.YtbpneedpcccpaaaGreatPart3
import Derived.Test.YtbpneedpcccpaaaGreatCKM2
import Derived.Test.YtbpneedpcccpaaaGreatCOR
set_option maxRecDepth 100000
set_option maxHeartbeats 4000000
set_option linter.unusedSimpArgs false
set_option linter.unusedVariables false
namespace Go.Proofs.YtbpneedpcccpaaaGreat
open Go Go.Zv
def tys5 : List (Bool × Ty):=[(true,tCell),(true,tRaw)]
theorem row5 (args : List LV) (h : HasAll tys5 args) : pc E 5 args = some (.bool true):=by
 obtain ⟨x1,r1,rfl,⟨d1,rfl,k1⟩,x2,r2,rfl,⟨d2,rfl,k2⟩,rfl⟩:=h
 obtain ⟨c,rfl⟩:=has_cell k1
 obtain ⟨x,rfl,X⟩:=has_raw k2
 exact law5 c x c10 X
theorem lifted5 (os : Os) (started : os.Started) (H : Type) (enc : TypeId × Value → H) :
  ReturnsInHanded {} Tryz.checked os 5 .any (Rows.collisionExchangedSpec.pre6 enc Tryz.prog Tryz.f5 Rows.collisionExchangedRow.domain false) (Rows.collisionExchangedSpec.post enc Tryz.prog Tryz.f5 false true false false):=by
 refine returnsInHanded_of_change (C:=Tryz.checked) own started (by kernel_rfl) Tryz.func5
  (ChangeSpec.witness6 (enc:=enc) (C:=Tryz.checked) false ⟨#[],#[.agg #[.int .i64 0,.int .i64 0,.int .i64 0,.int .i64 0,.int .i64 0,.int .i64 0,.int .i64 0,.int .i64 0,.int .i64 0,.int .i64 0,.int .i64 0,.int .i64 0,.int .i64 0,.int .i64 0,.int .i64 0,.int .i64 0,.int .i64 0,.int .i64 0,.int .i64 0,.int .i64 0,.int .i64 0,.int .i64 0,.int .i64 0,.int .i64 0,.int .i64 0,.int .i64 0,.int .i64 0,.int .i64 0,.int .i64 0,.int .i64 0,.slice none 0 0,.slice none 0 0,.slice none 0 0,.slice none 0 0,.int .i64 0,.int .i64 0,.int .i64 0,.int .i64 0,.int .i64 0,.int .i64 0,.int .i64 0,.slice none 0 0,.int .i64 0,.int .i64 0],.agg #[.int .u8 0,.int .u8 0,.int .u8 0,.int .u8 0,.int .u8 0,.int .u8 0,.int .u8 0,.int .u8 0,.slice none 0 0]],[]⟩ 8 (by kernel_rfl) (by kernel_rfl) (by kernel_rfl) (by kernel_rfl)) ?_
 intro W base args ds gs before hval hW _ _
 exact law_contract (C:=Tryz.checked) (tys:=tys5) (tb:=4) mixed E_ok laid (by kernel_rfl) (by kernel_rfl) Tryz.underlying4 (by kernel_rfl) row5 rfl (fun ds h=>by
  have h : ds.length = 2:=h
  match ds,h with
  | [d1,d2],_=>rfl) W base args ds gs before hval hW
theorem named5 : Tryz.pinned.checked.prog.funcNamed Rows.collisionExchangedRow.func = some 5:=by kernel_rfl
theorem joined5 : joinedFacts Tryz.prog 5 Tryz.f5 Rows.collisionExchangedSpec Rows.collisionExchangedRow = true:=by
 rw [joinedFacts.eq_1,enters_,lifts_,make_]
 kernel_rfl
theorem collisionExchanged : Rows.CollisionExchangedSaid :=
 OpenClaim.holds_of_wide 5 Tryz.f5 rfl rfl rfl rfl rfl rfl rfl ⟨rfl,rfl,rfl,rfl,rfl⟩ rfl rfl rfl rfl rfl named5 Tryz.func5 joined5
  (of_decide_eq_true (by kernel_rfl)) (by unfold Func.isWrapper; first | (rw [if_pos (by decide +kernel)]; kernel_rfl) | (rw [if_neg (by decide +kernel)]; exact ⟨rfl,rfl⟩))
  (fun os started H enc _=>lifted5 os started H enc)
#print axioms collisionExchanged
end Go.Proofs.YtbpneedpcccpaaaGreat
