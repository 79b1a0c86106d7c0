import Derived.Test.YtkbojechhmmkcaaGreatDoorK39
import Derived.Test.YtkbojechhmmkcaaGreatDoorK40
import Derived.Test.YtkbojechhmmkcaaGreatDoorK41
import Derived.Test.YtkbojechhmmkcaaGreatDoorK42
import Derived.Test.YtkbojechhmmkcaaGreatDoorK38
set_option linter.unusedVariables false
set_option linter.unusedSimpArgs false
namespace Edt
theorem Zax {c n:Nat} (h:(List.range 25).all (fun i=>aOk (i+c))=true) (h1:c≤n) (h2:n<c+25):aOk n=true:=by
 have h3:=Ybt.1 h (n-c) (Ycm.2 (by omega))
 rwa [Nat.sub_add_cancel h1]at h3
theorem Zaae (n:Nat) (h:n<1000):aOk n=true:=
 if h0:n<25 then Zax Zatw (by omega) (by omega)else
 if h1:n<50 then Zax Zatx (by omega) (by omega)else
 if h2:n<75 then Zax Zaty (by omega) (by omega)else
 if h3:n<100 then Zax Zatz (by omega) (by omega)else
 if h4:n<125 then Zax Zaua (by omega) (by omega)else
 if h5:n<150 then Zax Zaub (by omega) (by omega)else
 if h6:n<175 then Zax Zauc (by omega) (by omega)else
 if h7:n<200 then Zax Zaud (by omega) (by omega)else
 if h8:n<225 then Zax Zaue (by omega) (by omega)else
 if h9:n<250 then Zax Zauf (by omega) (by omega)else
 if h10:n<275 then Zax Zaug (by omega) (by omega)else
 if h11:n<300 then Zax Zauh (by omega) (by omega)else
 if h12:n<325 then Zax Zaui (by omega) (by omega)else
 if h13:n<350 then Zax Zauj (by omega) (by omega)else
 if h14:n<375 then Zax Zauk (by omega) (by omega)else
 if h15:n<400 then Zax Zaul (by omega) (by omega)else
 if h16:n<425 then Zax Zaum (by omega) (by omega)else
 if h17:n<450 then Zax Zaun (by omega) (by omega)else
 if h18:n<475 then Zax Zauo (by omega) (by omega)else
 if h19:n<500 then Zax Zaup (by omega) (by omega)else
 if h20:n<525 then Zax Zauq (by omega) (by omega)else
 if h21:n<550 then Zax Zaur (by omega) (by omega)else
 if h22:n<575 then Zax Zaus (by omega) (by omega)else
 if h23:n<600 then Zax Zaut (by omega) (by omega)else
 if h24:n<625 then Zax Zauu (by omega) (by omega)else
 if h25:n<650 then Zax Zauv (by omega) (by omega)else
 if h26:n<675 then Zax Zauw (by omega) (by omega)else
 if h27:n<700 then Zax Zaux (by omega) (by omega)else
 if h28:n<725 then Zax Zauy (by omega) (by omega)else
 if h29:n<750 then Zax Zauz (by omega) (by omega)else
 if h30:n<775 then Zax Zava (by omega) (by omega)else
 if h31:n<800 then Zax Zavb (by omega) (by omega)else
 if h32:n<825 then Zax Zavc (by omega) (by omega)else
 if h33:n<850 then Zax Zavd (by omega) (by omega)else
 if h34:n<875 then Zax Zave (by omega) (by omega)else
 if h35:n<900 then Zax Zavf (by omega) (by omega)else
 if h36:n<925 then Zax Zavg (by omega) (by omega)else
 if h37:n<950 then Zax Zavh (by omega) (by omega)else
 if h38:n<975 then Zax Zavi (by omega) (by omega)else
 Zax Zavj (by omega) (by omega)
end Edt
