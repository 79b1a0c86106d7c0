import Derived.Test.YtkbojechhmmkcaaGreatDoorK36
set_option linter.unusedVariables false
set_option linter.unusedSimpArgs false
set_option maxHeartbeats 16000000
set_option maxRecDepth 100000
namespace Edt
theorem Zauq:(List.range 25).all (fun i=>aOk (i+500))=true:=by decide+kernel
theorem Zaur:(List.range 25).all (fun i=>aOk (i+525))=true:=by decide+kernel
theorem Zaus:(List.range 25).all (fun i=>aOk (i+550))=true:=by decide+kernel
theorem Zaut:(List.range 25).all (fun i=>aOk (i+575))=true:=by decide+kernel
theorem Zauu:(List.range 25).all (fun i=>aOk (i+600))=true:=by decide+kernel
theorem Zauv:(List.range 25).all (fun i=>aOk (i+625))=true:=by decide+kernel
theorem Zauw:(List.range 25).all (fun i=>aOk (i+650))=true:=by decide+kernel
theorem Zaux:(List.range 25).all (fun i=>aOk (i+675))=true:=by decide+kernel
theorem Zauy:(List.range 25).all (fun i=>aOk (i+700))=true:=by decide+kernel
theorem Zauz:(List.range 25).all (fun i=>aOk (i+725))=true:=by decide+kernel
end Edt
